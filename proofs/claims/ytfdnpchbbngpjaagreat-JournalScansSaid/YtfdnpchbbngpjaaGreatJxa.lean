/- agrees; the journal's Truncate; the book's truncate and reopen. -/
import Derived.Test.YtfdnpchbbngpjaaGreatJkw
import Derived.Test.YtfdnpchbbngpjaaGreatJcm
import Derived.Test.YtfdnpchbbngpjaaGreatJbh
import Derived.Deep.Upon
namespace Go.Proofs.YtfdnpchbbngpjaaGreat
attribute [local go_sem ↓] Go.wp_at_zero Go.wp_at_succ
open Go.RowKit Go.Maps

def AgPost (w : World) (e : Ending) (w' : World) : Prop := e = .returned (.bool true) ∧ Below w.heap.size w w'
theorem JS.fromP_first {S : JS} : S.fromP (S.first : Int) = some S.recs := by
  unfold JS.fromP JS.last
  rw [if_pos ⟨Int.le_refl _, by omega⟩]
  simp
theorem JS.readP_at {S : JS} {k : Nat} {r : Rc} (h : S.recs[k]? = some r) : S.readP ((S.first : Int) + k) = (r.2, 0) := by
  have hk := (List.getElem?_eq_some_iff.1 h).1
  unfold JS.readP JS.has JS.last
  rw [if_pos (by simp; omega), show ((S.first : Int) + k - S.first).toNat = k by omega, List.getD_eq_getElem?_getD, h]
  rfl
theorem datas_at {l : List Rc} {k : Nat} {r : Rc} (h : l[k]? = some r) : (datas l)[k]? = some (.string r.2) := by
  unfold datas
  rw [List.getElem?_map, h]
  rfl
/-- what agrees asks of the records that were found -/
structure JS.wide (S : JS) : Prop where
  comm : S.comm ≤ S.recs.length
  len : S.recs.length ≤ 1048576
  first : S.first ≤ 281474976710656
  beg : S.beg ≤ 1125899906842624
  next : S.next ≤ 1125899906842624
  recs : ∀ r, r ∈ S.recs → r.1 + 16 + r.2.size ≤ 1125899906842624
theorem JS.wf.wide {S : JS} {n c : Nat} (hS : S.wf n c) (hc : c ≤ 1048576) : S.wide :=
  ⟨hS.comm, by have := hS.nums; omega, by have := hS.nums; omega, by have h1 := hS.pos; have h2 := hS.en_le; have h3 := hS.beg_le; omega, by have := hS.pos; omega, fun r hr => (hS.recs_bound hc r hr).1⟩
set_option maxRecDepth 100000 in
set_option maxHeartbeats 8000000 in
theorem agrees_wide {w : World} {jb vb tb : Nat} {S : JS} {rv : Value} {hen : Nat} {st : VS} {F : List Nat} (hJ : JV w jb vb tb S false rv hen st F) {bb : Nat} {B : BS} {G : List Nat} (hB : BkF w bb B G) {m : Nat} (hs : B.s = S) (hA : B.area.length = 256 * m) (hl : st.dur.length = m + 2) (hm2 : m ≤ 64) (hS : S.wide) :
    Calls Tryz.prog 15 #[.pointer (some ⟨bb, 0, none⟩), .pointer (some ⟨jb, 0, none⟩)] w (AgPost w) := by
  obtain ⟨g0, g1, ga, c0, c1, ca, vr, hB, rfl⟩ := hB
  have hnx := hS.next
  have hbg := hS.beg
  have hfi := hS.first
  have hle := hS.len
  have hcm := hS.comm
  have hrb := hS.recs
  have HB := Lib.hid hB
  have HJ := Lib.hid hJ
  have lb := hB.blk.lt
  have KP : ∀ w', Below w.heap.size w w' → ∀ w'', Below w'.heap.size w' w'' → Below w.heap.size w w'' ∧ w''.cell? ⟨bb, 4, none⟩ = some (.int .i64 (S.first : Int)) := by
    intro w' h1 w'' h2
    have h3 : Below w.heap.size w w'' := h1.trans (h2.mono h1.size)
    exact ⟨h3, by rw [← hs]; exact (HB.out.below h3).blk.cell 4⟩
  have HC := Lib.hid (fun (w' : World) (h : Below w.heap.size w w') => And.intro
    (show Calls Tryz.prog 29 #[.pointer (some ⟨jb, 0, none⟩)] w' fun e w'' => e = .returned (.int .i64 (S.first : Int)) ∧ Below w.heap.size w w'' ∧ w''.cell? ⟨bb, 4, none⟩ = some (.int .i64 (S.first : Int)) from
      (first_any (HJ.out.below h).j).mono (by rintro e w'' ⟨rfl, rfl⟩; exact ⟨rfl, KP w' h w' (Below.refl _ _)⟩)) (And.intro
    (show Calls Tryz.prog 28 #[.pointer (some ⟨jb, 0, none⟩)] w' fun e w'' => e = .returned (.int .i64 S.last) ∧ Below w.heap.size w w'' ∧ w''.cell? ⟨bb, 4, none⟩ = some (.int .i64 (S.first : Int)) from
      (last_any (HJ.out.below h).j (by omega) (by omega)).mono (by rintro e w'' ⟨rfl, n, rfl⟩; exact ⟨rfl, KP w' h _ (below_drewN (n := n) (Below.refl _ _))⟩)) (And.intro
    (show Calls Tryz.prog 41 #[.pointer (some ⟨jb, 0, none⟩)] w' fun e w'' => e = .returned (.int .i64 S.durable) ∧ Below w.heap.size w w'' ∧ w''.cell? ⟨bb, 4, none⟩ = some (.int .i64 (S.first : Int)) from
      (durable_any (HJ.out.below h).j (by omega) (by omega)).mono (by rintro e w'' ⟨rfl, n, rfl⟩; exact ⟨rfl, KP w' h _ (below_drewN (n := n) (Below.refl _ _))⟩)) (And.intro
    (show Calls Tryz.prog 26 #[.pointer (some ⟨jb, 0, none⟩)] w' fun e w'' => e = .returned (.int .i64 (S.free (256 * m))) ∧ Below w.heap.size w w'' ∧ w''.cell? ⟨bb, 4, none⟩ = some (.int .i64 (S.first : Int)) from
      (free_any (HJ.out.below h).j (HJ.out.below h).v hl hbg hnx).mono (by rintro e w'' ⟨rfl, n, rfl⟩; exact ⟨rfl, KP w' h _ (below_drewN (n := n) (Below.refl _ _))⟩)) (And.intro
    (show Calls Tryz.prog 45 #[.pointer (some ⟨bb, 0, none⟩)] w' fun e w'' => e = .returned (.int .i64 S.last) ∧ Below w.heap.size w w'' ∧ w''.cell? ⟨bb, 4, none⟩ = some (.int .i64 (S.first : Int)) from by
      have := blast_any (HB.out.below h) (by rw [hs]; omega) (by rw [hs]; omega)
      rw [hs] at this
      exact this.mono (by rintro e w'' ⟨rfl, n, rfl⟩; exact ⟨rfl, KP w' h _ (below_drewN (n := n) (Below.refl _ _))⟩)) (And.intro
    (show Calls Tryz.prog 42 #[.pointer (some ⟨bb, 0, none⟩)] w' fun e w'' => e = .returned (.int .i64 S.durable) ∧ Below w.heap.size w w'' ∧ w''.cell? ⟨bb, 4, none⟩ = some (.int .i64 (S.first : Int)) from by
      have := bdurable_any (HB.out.below h) (by rw [hs]; omega) (by rw [hs]; omega) (by rw [hs]; omega)
      rw [hs] at this
      exact this.mono (by rintro e w'' ⟨rfl, n, rfl⟩; exact ⟨rfl, KP w' h _ (below_drewN (n := n) (Below.refl _ _))⟩))
    (show Calls Tryz.prog 27 #[.pointer (some ⟨bb, 0, none⟩)] w' fun e w'' => e = .returned (.int .i64 (S.free (256 * m))) ∧ Below w.heap.size w w'' ∧ w''.cell? ⟨bb, 4, none⟩ = some (.int .i64 (S.first : Int)) from by
      have := bfree_any (HB.out.below h) (by rw [hs]; omega) (by rw [hs]; exact hrb) (by omega) (by rw [hs]; omega) (by rw [hs]; omega)
      rw [hs, hA] at this
      exact this.mono (by rintro e w'' ⟨rfl, hb⟩; exact ⟨rfl, KP w' h _ hb⟩))))))))
  obtain ⟨hb, k4⟩ := KP w (Below.refl _ _) w.drew ((Below.refl _ w).drew)
  have HKP := Lib.hid KP
  clear hB hJ KP hrb
  obtain ⟨la, hla⟩ : ∃ la, S.last = la := ⟨_, rfl⟩
  obtain ⟨du, hdu⟩ : ∃ du, S.durable = du := ⟨_, rfl⟩
  obtain ⟨fr, hfr⟩ : ∃ fr, S.free (256 * m) = fr := ⟨_, rfl⟩
  rw [hla, hdu, hfr] at HC
  clear hla hdu hfr
  go_enter Tryz.func15, Tryz.ntmps15
  go_wp2_with fail
  go_region_held3 (fun w' => Below w.heap.size w w' ∧ w'.cell? ⟨bb, 4, none⟩ = some (Value.int .i64 (S.first : Int)))
    (with_reducible exact ⟨hb, k4⟩)
    (first
      | (go_at_call 29; refine (HC.out _ hb).1.mono ?_; rintro e w1 ⟨rfl, hb, k4⟩)
      | (go_at_call 28; refine (HC.out _ hb).2.1.mono ?_; rintro e w1 ⟨rfl, hb, k4⟩)
      | (go_at_call 45; refine (HC.out _ hb).2.2.2.2.1.mono ?_; rintro e w1 ⟨rfl, hb, k4⟩)
      | (go_at_call 41; refine (HC.out _ hb).2.2.1.mono ?_; rintro e w1 ⟨rfl, hb, k4⟩)
      | (go_at_call 42; refine (HC.out _ hb).2.2.2.2.2.1.mono ?_; rintro e w1 ⟨rfl, hb, k4⟩)
      | (go_at_call 26; refine (HC.out _ hb).2.2.2.1.mono ?_; rintro e w1 ⟨rfl, hb, k4⟩)
      | (go_at_call 27; refine (HC.out _ hb).2.2.2.2.2.2.mono ?_; rintro e w1 ⟨rfl, hb, k4⟩))
  obtain ⟨n, hn⟩ : ∃ n, S.recs.length = n := ⟨_, rfl⟩
  have hb1 := hb
  have hrow := (HB.out.below hb).rs
  obtain ⟨vo, vcap, hvr⟩ := brow_shape hrow
  subst hvr
  have HFR := Lib.hid (from_yes (S.first : Int) (HJ.out.below hb1).j (by omega) (by omega) JS.fromP_first)
  have HRD := Lib.hid (fun (w' : World) (h : Below w.heap.size w w') (k : Nat) => jread_any ((S.first : Int) + k) (HJ.out.below h).j (by omega) (by omega))
  clear hb k4 hrow
  go_wp2_with ((go_at_call 40; refine HFR.out.mono ?_; rintro e w2 ⟨v, rfl, hown, hb2⟩; obtain ⟨lo, lcap, rfl⟩ := row_shape hown; have hb12 : Below w.heap.size w w2 := hb1.trans (hb2.mono hb1.size); have k6 : w2.cell? ⟨bb, 6, none⟩ = _ := (HB.out.below hb12).blk.cell 6; simp [hs] at k6))
  have hw2 : w1.heap.size ≤ w2.heap.size := hb2.size
  rw [hn] at hown k6
  have HO := Lib.hid hown
  have HW := Lib.hid hb12
  clear hown k6 hb2
  go_loopw [7] (fun i wr => ∃ k : Nat, k ≤ n ∧ i = .int .i64 (k : Int) ∧ Below w2.heap.size w2 wr) (fun i _ => n - (intOf i).toNat)
  case atStart => exact ⟨0, Nat.zero_le _, rfl, Below.refl _ _⟩
  case round =>
    obtain ⟨k, hk, rfl, hbel⟩ := hrel
    have hbw : Below w.heap.size w wr := HW.out.trans (hbel.mono HW.out.size)
    have HBW := Lib.hid hbw
    by_cases hkn : k < n
    · obtain ⟨r, hr⟩ : ∃ r, S.recs[k]? = some r := ⟨_, List.getElem?_eq_getElem (by omega)⟩
      have hrow := (HB.out.below hbw).rs
      have k6 : wr.cell? ⟨bb, 6, none⟩ = _ := (HB.out.below hbw).blk.cell 6
      simp [hs, hn] at k6
      rw [hs, hn] at hrow
      obtain ⟨g, rfl, d0, _, _⟩ := rec_cells hrow hr hkn
      have ho := HO.out
      have e := HRD.out wr hbw k
      rw [JS.readP_at hr] at e
      have HR := Lib.hid e
      obtain ⟨gl, rfl⟩ : ∃ gl, lo = some ⟨gl, 0, none⟩ := by
        rcases ho.2 with ⟨h1, h2⟩ | ⟨g', c', cur, h1, _⟩
        · omega
        · injection h1 with h1; exact ⟨g', h1⟩
      have hoc := ho.cellAt k (by omega)
      rw [datas_at hr] at hoc
      have hlg := (ho.lt gl rfl).2
      have l0 : wr.cell? ⟨gl, k, none⟩ = some (.string r.2) := (hbel.cell (p := ⟨gl, k, none⟩) hlg).trans hoc
      have k4 : wr.cell? ⟨bb, 4, none⟩ = some (.int .i64 (S.first : Int)) := by rw [← hs]; exact (HB.out.below hbw).blk.cell 4
      clear hrow hoc ho e hbw hr
      go_wp2_with ((go_at_call 39; refine HR.out.mono ?_; rintro e w3 ⟨rfl, n3, rfl⟩))
      go_roundw
      case rel => exact ⟨k + 1, by omega, by go_num, below_drewN hbel⟩
      case measure => simp [intOf]; omega
    · clear hbw
      go_wp2_with fail
      go_ret
      exact ⟨rfl, HBW.out⟩
theorem agrees_any {w : World} {jb vb tb : Nat} {S : JS} {rv : Value} {hen : Nat} {st : VS} {F : List Nat} (hJ : JV w jb vb tb S false rv hen st F) {bb : Nat} {B : BS} {G : List Nat} (hB : BkF w bb B G) {m c : Nat} (hs : B.s = S) (hA : B.area.length = 256 * m) (hl : st.dur.length = m + 2) (hm2 : m ≤ 64) (hS : S.wf (256 * m) c) (hc : c ≤ 1048576) :
    Calls Tryz.prog 15 #[.pointer (some ⟨bb, 0, none⟩), .pointer (some ⟨jb, 0, none⟩)] w (AgPost w) :=
  agrees_wide hJ hB hs hA hl hm2 (hS.wide hc)
end Go.Proofs.YtfdnpchbbngpjaaGreat
namespace Go.Proofs.YtfdnpchbbngpjaaGreat
attribute [local go_sem ↓] Go.wp_at_zero Go.wp_at_succ
open Go.RowKit Go.Maps

set_option maxRecDepth 100000 in
theorem trunc_broken (n : Int) {w : World} {jb vb tb : Nat} {S : JS} {rv : Value} {hen : Nat} (h : Jr w jb vb tb S true rv hen) : Calls Tryz.prog 17 #[.pointer (some ⟨jb, 0, none⟩), .int .i64 n] w fun e w' => e = .returned (.int .i64 38) ∧ w = w' := by
  have hst := state_any h
  simp only [if_true] at hst
  have HST := Lib.hid hst
  clear hst h
  go_enter Tryz.func17, Tryz.ntmps17
  go_wp2_with ((go_at_call 46; refine HST.out.mono ?_; rintro e w1 ⟨rfl, rfl⟩))
  go_ret
  exact ⟨rfl, rfl⟩
set_option maxRecDepth 100000 in
theorem trunc_high (k : Int) {w : World} {jb vb tb : Nat} {S : JS} {rv : Value} {hen : Nat} (h : Jr w jb vb tb S false rv hen) (hf : S.first ≤ 1048576) (hc : S.comm ≤ 1048576) (hk : S.durable < k) :
    Calls Tryz.prog 17 #[.pointer (some ⟨jb, 0, none⟩), .int .i64 k] w fun e w' => e = .returned (.int .i64 2) ∧ ∃ n, w' = w.drewN n := by
  have hst := state_any h
  simp only [Bool.false_eq_true, if_false] at hst
  have HST := Lib.hid hst
  have HD := Lib.hid (durable_any h (by omega) (by omega))
  have d1 : decide (S.durable < k) = true := by simpa using hk
  clear hst h hk
  go_enter Tryz.func17, Tryz.ntmps17
  go_wp2_with (first
    | (go_at_call 46; refine HST.out.mono ?_; rintro e w1 ⟨rfl, rfl⟩)
    | (go_at_call 41; refine HD.out.mono ?_; rintro e w1 ⟨rfl, n1, rfl⟩))
  go_ret
  exact ⟨rfl, _, rfl⟩
set_option maxRecDepth 100000 in
theorem trunc_low (k : Int) {w : World} {jb vb tb : Nat} {S : JS} {rv : Value} {hen : Nat} (h : Jr w jb vb tb S false rv hen) (hf : S.first ≤ 1048576) (hc : S.comm ≤ 1048576) (hk : k ≤ S.durable) (hk2 : k < (S.first : Int)) :
    Calls Tryz.prog 17 #[.pointer (some ⟨jb, 0, none⟩), .int .i64 k] w fun e w' => e = .returned (.int .i64 0) ∧ ∃ n, w' = w.drewN n := by
  have hst := state_any h
  simp only [Bool.false_eq_true, if_false] at hst
  have HST := Lib.hid hst
  have HD := Lib.hid (durable_any h (by omega) (by omega))
  have HF := Lib.hid (fun n => first_any (h.drewN n))
  have d1 : decide (S.durable < k) = false := by simpa using hk
  have d2 : decide (k < (S.first : Int)) = true := by simpa using hk2
  clear hst h hk hk2
  go_enter Tryz.func17, Tryz.ntmps17
  go_wp2_with (first
    | (go_at_call 46; refine HST.out.mono ?_; rintro e w1 ⟨rfl, rfl⟩)
    | (go_at_call 41; refine HD.out.mono ?_; rintro e w1 ⟨rfl, n1, rfl⟩)
    | (go_at_call 29; refine (HF.out _).mono ?_; rintro e w2 ⟨rfl, rfl⟩))
  go_ret
  exact ⟨rfl, _, rfl⟩
theorem chain_pos {p : Nat} {l : List Rc} (h : Chain p l) {k : Nat} {r : Rc} (hr : l[k]? = some r) : r.1 = rend p (l.take k) := by
  induction l generalizing p k with
  | nil => simp at hr
  | cons x t ih =>
    obtain ⟨h1, h2, h3⟩ := h
    cases k with
    | zero => simp at hr; subst hr; exact h1
    | succ k => rw [ih h3 (k := k) (by simpa using hr)]; show rend (p + 16 + x.2.size) _ = rend (x.1 + 16 + x.2.size) _; rw [h1]
theorem JV.tailed {w w6 w7 : World} {jb vb tb : Nat} {S : JS} {rv rv' : Value} {hen : Nat} {st : VS} {F : List Nat} (h : JV w jb vb tb S false rv hen st F) {k : Nat} (hk : k ≤ S.comm)
    (hb6 : Blk w6 jb 88 #[.pointer (some ⟨vb, 0, none⟩), .pointer (some ⟨tb, 0, none⟩), .int .i64 ((S.h : Int) + 1), .int .i64 ((S.first : Int) + k), .int .i64 (rend S.beg (S.recs.take k) : Int), .int .i64 (S.en : Int), rv, .int .i64 ((S.comm - k : Nat) : Int), .int .i64 (S.en : Int), .int .i64 (S.next : Int), .bool false])
    (t6 : Turn [jb] w w6) {o : Obj} (hg : (w6.alloc o).grownBy w7 (some w6.heap.size)) {n : Nat} (hn : (S.recs.drop k).length = n) (hown : w7.ownsRow w6.heap.size 95 2 rv' n (pcells (S.recs.drop k))) :
    JV (w7.setCell ⟨jb, 6, none⟩ rv') jb vb tb (S.drop k) false rv' S.en st F ∧ Turn [jb] w (w7.setCell ⟨jb, 6, none⟩ rv') ∧ ∀ i, i ∈ jvfoot jb tb rv' F → i ∈ jvfoot jb tb rv F ∨ w.heap.size ≤ i := by
  have hs6 := t6.size
  have t67 : Turn [w6.heap.size] w6 w7 := ((Turn.refl _ w6).alloc o).grown hg (fun g e => by injection e with e; exact .inl (by simp [e]))
  have t7 : Turn [jb] w w7 := (t6.alloc o).grown hg (fun g e => by injection e with e; subst e; exact .inr hs6)
  have t8 : Turn [jb] w (w7.setCell ⟨jb, 6, none⟩ rv') := t7.setCell (.inl (by simp)) _
  have hj6 := hb6.lt
  have hb7 := hb6.turn t67 (by simp; omega)
  have hob : ∀ g, rv'.ownBlock = some g → w6.heap.size ≤ g := fun g e => (hown.lt g e).1
  have h0 : w7.ownsRow 0 95 2 rv' (S.recs.drop k).length (pcells (S.recs.drop k)) := by
    rw [hn]
    refine ⟨hown.1, ?_⟩
    rcases hown.2 with e | ⟨g, cap, cur, e1, e2, e3⟩
    · exact .inl e
    · exact .inr ⟨g, cap, cur, e1, Nat.zero_le _, e3⟩
  refine ⟨⟨⟨?_, ?_⟩, ?_, ?_, ?_, ?_, h.tF⟩, t8, ?_⟩
  · rw [JS.en_drop hk, JS.next_drop]
    exact hb7.set_ 6 _
  · exact row_turn h0 ((Turn.refl [jb] w7).setCell (.inl (by simp)) _) (fun g hg => by have := hob g hg; simp; omega)
  · exact h.v.turn t8 (fun i hi => by simp; rintro rfl; exact h.jF i (by simp [jfoot]) hi)
  · exact Blk.turn h.t t8 (by simp; rintro e; exact h.jt (by simp [jfoot, e]))
  · intro i hi
    rcases List.mem_cons.1 hi with rfl | hi
    · exact h.jF i (by simp [jfoot])
    · have := hob i (by simpa using hi)
      intro hF
      have := h.v.lt i hF
      omega
  · intro hi
    rcases List.mem_cons.1 hi with e | hi
    · exact h.jt (by simp [jfoot, e])
    · have := hob tb (by simpa using hi)
      have := Blk.lt h.t
      omega
  · intro i hi
    unfold jvfoot at hi
    rcases List.mem_cons.1 hi with rfl | hi
    · exact .inl (by simp [jvfoot])
    rcases List.mem_append.1 hi with hi | hi
    · rcases List.mem_cons.1 hi with rfl | hi
      · exact .inl (by simp [jvfoot, jfoot])
      · have := hob i (by simpa using hi)
        exact .inr (by omega)
    · exact .inl (by simp [jvfoot, hi])
theorem addr_add (g a j : Nat) : (⟨g, a, none⟩ : Addr).add j = ⟨g, a + j, none⟩ := by
  unfold Addr.add
  split
  · rename_i h; rw [h]; rfl
  · rfl
theorem pcells_one (l : List Rc) : ∀ u ∈ pcells l, u.oneCell' = true := by
  intro u hu
  unfold pcells at hu
  rw [List.mem_flatMap] at hu
  obtain ⟨p, _, hp⟩ := hu
  simp at hp
  rcases hp with rfl | rfl <;> rfl
theorem pcells_drop_at {l : List Rc} {k j : Nat} {u : Value} (h : (pcells (l.drop k))[j]? = some u) : (pcells l)[k * 2 + j]? = some u := by
  have e : pcells l = pcells (l.take k) ++ pcells (l.drop k) := by rw [← pcells_append, List.take_append_drop]
  have hl : k ≤ l.length := by
    rcases Nat.lt_or_ge l.length k with hlt | hge
    · rw [List.drop_of_length_le (by omega)] at h
      simp [pcells] at h
    · exact hge
  have hp : (pcells (l.take k)).length = k * 2 := by rw [pcells_len, List.length_take, Nat.min_eq_left hl]
  rw [e, List.getElem?_append_right (by omega), hp, Nat.add_sub_cancel_left]
  exact h
set_option maxRecDepth 100000 in
set_option maxHeartbeats 8000000 in
theorem trunc_go {w : World} {jb vb tb : Nat} {S : JS} {rv : Value} {hen : Nat} {st : VS} {F : List Nat} (h : JV w jb vb tb S false rv hen st F) {m c : Nat}
    (hS : S.wf (256 * m) c) (hc : c + 1 ≤ 1048576) {k : Nat} (hk1 : 1 ≤ k) (hk : k ≤ S.comm) :
    Calls Tryz.prog 17 #[.pointer (some ⟨jb, 0, none⟩), .int .i64 ((S.first : Int) + k - 1)] w fun e w' => e = .returned (.int .i64 ((st.putHd (S.drop k).hd).1 : Int)) ∧
      StepV w w' jb vb tb rv F (if (st.putHd (S.drop k).hd).1 = 0 then S.drop k else S) ((st.putHd (S.drop k).hd).1 == 36) (st.putHd (S.drop k).hd).2 := by
  have hst := state_any h.j
  simp only [Bool.false_eq_true, if_false] at hst
  have HST := Lib.hid hst
  have hsf := hS.nums
  have hsc := hS.comm
  have hsh := hS.h
  obtain ⟨i0, hi0, hz0, hz1, hz2⟩ := info_parts rec_info
  have HD := Lib.hid (durable_any h.j (by omega) (by omega))
  have HF := Lib.hid (fun n => first_any (h.j.drewN n))
  obtain ⟨n, hn⟩ : ∃ n, S.recs.length = n := ⟨_, rfl⟩
  obtain ⟨ao, cap, rfl⟩ := row_shape h.j.row
  rw [hn] at h hsf hsc
  have hrow := h.j.row
  rw [hn] at hrow
  obtain ⟨g0, hao, hncap, _, _⟩ := row_cells hrow hn (j := 0) (by omega)
  subst hao
  have d1 : decide (S.durable < (S.first : Int) + k - 1) = false := by unfold JS.durable; simp; omega
  have d2 : decide ((S.first : Int) + k - 1 < (S.first : Int)) = false := by simp; omega
  have e1 : IntKind.i64.wrap ((S.first : Int) + k - 1 - S.first) = (k : Int) - 1 := by rw [IntKind.wrap_i64] <;> omega
  obtain ⟨num, hnum⟩ : ∃ x, (S.first : Int) + k - 1 = x := ⟨_, rfl⟩
  rw [hnum] at d1 d2 e1 ⊢
  obtain ⟨y, hy⟩ : ∃ y, st.putHd (S.drop k).hd = y := ⟨_, rfl⟩
  rw [hy]
  clear hst
  go_enter Tryz.func17, Tryz.ntmps17
  go_wp2_with (first
    | (go_at_call 46; refine HST.out.mono ?_; rintro e w1 ⟨rfl, rfl⟩)
    | (go_at_call 41; refine HD.out.mono ?_; rintro e w1 ⟨rfl, n1, rfl⟩)
    | (go_at_call 29; refine (HF.out _).mono ?_; rintro e w2 ⟨rfl, rfl⟩))
  obtain ⟨W0, hW0⟩ : ∃ W0, w.drewN n1 = W0 := ⟨_, rfl⟩
  have hb0 : Below w.heap.size w W0 := by rw [← hW0]; exact below_drewN (Below.refl _ _)
  rw [hW0]
  have h0 := h.below hb0
  have c2 := h0.j.blk.cell 2
  have c8 := h0.j.blk.cell 8
  simp at c2 c8
  have hlj := h0.j.blk.lt
  have x1 : IntKind.i64.wrap ((S.h : Int) + 1) = (S.h : Int) + 1 := by rw [IntKind.wrap_i64] <;> omega
  have x2 : IntKind.i64.wrap (num + 1) = ((S.first : Int) + k) := by rw [← hnum, IntKind.wrap_i64] <;> omega
  have HNUM := Lib.hid hnum
  clear hW0 hnum d1 d2 e1
  go_region
  have hX := (Blk.new W0 85 #[.int .i64 ((S.h : Int) + 1), .int .i64 ((S.first : Int) + k), .int .i64 (S.en : Int), .int .i64 (S.en : Int)]).drew
  have hbX : Below W0.heap.size W0 (W0.alloc (.cells #[.int .i64 ((S.h : Int) + 1), .int .i64 ((S.first : Int) + k), .int .i64 (S.en : Int), .int .i64 (S.en : Int)] 85)).drew := ((Below.refl _ W0).alloc (Nat.le_refl _) _).drew
  obtain ⟨W1, hW1⟩ : ∃ W1, (W0.alloc (.cells #[.int .i64 ((S.h : Int) + 1), .int .i64 ((S.first : Int) + k), .int .i64 (S.en : Int), .int .i64 (S.en : Int)] 85)).drew = W1 := ⟨_, rfl⟩
  rw [hW1] at hX hbX ⊢
  obtain ⟨H, hH⟩ : ∃ H, W0.heap.size = H := ⟨_, rfl⟩
  rw [hH] at hX ⊢
  have h1 := h0.below hbX
  have c7 := h1.j.blk.cell 7
  have c6 := h1.j.blk.cell 6
  simp at c6 c7
  have hHw : w.heap.size ≤ H := by rw [← hH]; exact hb0.size
  have hb1 : Below w.heap.size w W1 := hb0.trans (hbX.mono (by rw [hH]; exact hHw))
  clear hW1 x1 x2 c2 c8
  obtain ⟨bg, hbg⟩ : ∃ bg, rend S.beg (S.recs.take k) = bg := ⟨_, rfl⟩
  have RV := Value.slice (some ⟨g0, 0, none⟩) n cap
  have hHj : jb < H := Nat.lt_of_lt_of_le h.j.blk.lt hHw
  have fH2 := hX.frozen 2
  have cH2 := hX.cell 2
  simp at fH2 cH2
  by_cases hkc : k < S.comm
  case' pos =>
    obtain ⟨_, hg0', _, r0, _⟩ := row_cells (by have := h1.j.row; rw [hn] at this; exact this) hn (j := k) (by omega)
    injection hg0' with hg0'
    injection hg0' with hg0' _ _
    subst hg0'
    have hgk : S.recs[k]? = some (S.recs.getD k (0, ⟨#[]⟩)) := by rw [List.getD_eq_getElem?_getD, List.getElem?_eq_getElem (by omega)]; rfl
    rw [chain_pos hS.chain hgk, hbg, show 2 * k = k * 2 by omega] at r0
    clear hgk
    go_wp2_with fail
    have hX2 := hX.set_ 2 (.int .i64 (bg : Int))
    have hb2 : Below w.heap.size w (W1.setCell ⟨H, 2, none⟩ (.int .i64 (bg : Int))) := hb1.trans (((Turn.refl [H] W1).setCell (p := ⟨H, 2, none⟩) (.inl (by simp)) _).toBelow (fun i hi => by simp at hi; omega) hb1.size)
    obtain ⟨W2, hW2⟩ : ∃ W2, W1.setCell ⟨H, 2, none⟩ (.int .i64 (bg : Int)) = W2 := ⟨_, rfl⟩
    rw [hW2] at hX2 hb2 ⊢
    have hX2 : Blk W2 H 85 #[.int .i64 ((S.h : Int) + 1), .int .i64 ((S.first : Int) + k), .int .i64 (bg : Int), .int .i64 (S.en : Int)] := hX2
    clear r0 hW2
  case' neg =>
    go_wp2_with fail
    have hb2 := hb1
    have hX2 : Blk W1 H 85 #[.int .i64 ((S.h : Int) + 1), .int .i64 ((S.first : Int) + k), .int .i64 (bg : Int), .int .i64 (S.en : Int)] := by
      have : S.en = bg := by rw [← hbg, show k = S.comm by omega]; rfl
      rw [← this]; exact hX
    obtain ⟨W2, hW2⟩ : ∃ W2, W1 = W2 := ⟨_, rfl⟩
    rw [hW2] at hX2 hb2 ⊢
    clear hW2
  all_goals
    have hJ2 := h.below hb2
    clear hX hbX fH2 cH2 c6 c7 h1 h0 hb0 hb1
    have hHF : ∀ i, i ∈ jvfoot jb tb (.slice (some ⟨g0, 0, none⟩) n cap) F → i ≠ H := fun i hi => by have := h.lt i hi; omega
    have lj2 := hJ2.j.blk.lt
    have lH2 := hX2.lt
    have g0c : W2.drew.cell? ⟨H, 0, none⟩ = some (.int .i64 ((S.h : Int) + 1)) := hX2.cell 0
    have g1c : W2.drew.cell? ⟨H, 1, none⟩ = some (.int .i64 ((S.first : Int) + k)) := hX2.cell 1
    have g2c : W2.drew.cell? ⟨H, 2, none⟩ = some (.int .i64 (bg : Int)) := hX2.cell 2
    have g3c : W2.drew.cell? ⟨H, 3, none⟩ = some (.int .i64 (S.en : Int)) := hX2.cell 3
    have j0 : W2.drew.cell? ⟨jb, 0, none⟩ = some (.pointer (some ⟨vb, 0, none⟩)) := hJ2.j.blk.cell 0
    have j1 : W2.drew.cell? ⟨jb, 1, none⟩ = some (.pointer (some ⟨tb, 0, none⟩)) := hJ2.j.blk.cell 1
    have hce : hcells (S.drop k).hd = #[.int .i64 ((S.h : Int) + 1), .int .i64 ((S.first : Int) + k), .int .i64 (bg : Int), .int .i64 (S.en : Int)] := by
      have e1 : (S.drop k).hd.en = S.en := JS.en_drop hk
      have e2 : (S.drop k).hd.beg = bg := hbg
      unfold hcells
      rw [e1, e2]
      rfl
    have hsm : (S.drop k).hd.small := (hS.drop hk).hd_small (by omega)
    have hwr := jwrite_done (S.drop k).hd hsm (hJ2.below (Below.drew (Below.refl _ W2))).pr
    rw [hce, hy] at hwr
    have hnj : jb ∉ tb :: F := by
      intro hi
      rcases List.mem_cons.1 hi with e | hi
      · exact hJ2.jt (by simp [jfoot, e])
      · exact hJ2.jF jb (by simp [jfoot]) hi
    have hnH : H ∉ tb :: F := by
      intro hi
      refine hHF H ?_ rfl
      rcases List.mem_cons.1 hi with e | hi
      · simp [jvfoot, e]
      · simp [jvfoot, hi]
    have HP := Lib.hid (And.intro hJ2 (And.intro hX2 hb2))
    have HWR := Lib.hid hwr
    clear hJ2 hX2 hb2 hwr hce hHF hsm
    go_region_held3 (fun w' => w'.cell? ⟨jb, 0, none⟩ = some (Value.pointer (some ⟨vb, 0, none⟩)) ∧ w'.cell? ⟨jb, 1, none⟩ = some (Value.pointer (some ⟨tb, 0, none⟩)) ∧ w'.cell? ⟨H, 0, none⟩ = some (Value.int .i64 ((S.h : Int) + 1)) ∧ w'.cell? ⟨H, 1, none⟩ = some (Value.int .i64 ((S.first : Int) + k)) ∧ w'.cell? ⟨H, 2, none⟩ = some (Value.int .i64 (bg : Int)) ∧ w'.cell? ⟨H, 3, none⟩ = some (Value.int .i64 (S.en : Int)))
      (with_reducible exact ⟨j0, j1, g0c, g1c, g2c, g3c⟩)
      (first
        | (go_at_call 52; refine HWR.out.mono ?_; rintro e w5 ⟨rfl, hst5, hT5⟩; have ht5 := StepP.turn hst5; have j0 := (ht5.cell (p := ⟨jb, 0, none⟩) lj2 hnj).trans j0; have j1 := (ht5.cell (p := ⟨jb, 1, none⟩) lj2 hnj).trans j1; have g0c := (ht5.cell (p := ⟨H, 0, none⟩) lH2 hnH).trans g0c; have g1c := (ht5.cell (p := ⟨H, 1, none⟩) lH2 hnH).trans g1c; have g2c := (ht5.cell (p := ⟨H, 2, none⟩) lH2 hnH).trans g2c; have g3c := (ht5.cell (p := ⟨H, 3, none⟩) lH2 hnH).trans g3c))
    obtain ⟨hJ2, hX2, hb2⟩ := HP.out
    obtain ⟨F5, hJ5, ht5, hf5⟩ := (hJ2.below (Below.drew (Below.refl _ W2))).put hst5 hT5
    have T5 : Turn (jvfoot jb tb (.slice (some ⟨g0, 0, none⟩) n cap) F) w w5 := (Turn.ofBelow (hb2.drew) (Nat.le_refl _)).trans ht5 (fun i hi => by
      rcases List.mem_cons.1 hi with rfl | hi
      · exact .inl (by simp [jvfoot])
      · exact .inl (by simp [jvfoot, hi]))
    have hsub5 : ∀ i, i ∈ jvfoot jb tb (.slice (some ⟨g0, 0, none⟩) n cap) F5 → i ∈ jvfoot jb tb (.slice (some ⟨g0, 0, none⟩) n cap) F ∨ w.heap.size ≤ i := by
      intro i hi
      unfold jvfoot at hi
      rcases List.mem_cons.1 hi with rfl | hi
      · exact .inl (by simp [jvfoot])
      rcases List.mem_append.1 hi with hi | hi
      · exact .inl (by simp [jvfoot, hi])
      · rcases hf5 i hi with e | e
        · exact .inl (by simp [jvfoot, e])
        · exact .inr (Nat.le_trans hb2.size e)
    have T5j : ∀ {w6 : World}, Turn [jb] w5 w6 → Turn (jvfoot jb tb (.slice (some ⟨g0, 0, none⟩) n cap) F) w w6 := fun h => T5.trans h (fun i hi => by
      simp at hi
      subst hi
      exact .inl (by simp [jvfoot, jfoot]))
    have HE := Lib.hid (And.intro @T5j (And.intro hsub5 (And.intro hJ5 T5)))
    clear T5j hsub5 T5 hJ2 hX2 hb2 hst5 hT5 hf5
    by_cases hz5 : y.1 = 0
    case' neg =>
      have e5 : ((y.1 : Int) != 0) = true := by rw [bne_iff_ne]; omega
      go_wp2_with (first
        | (go_at_call 51; refine (fail_any y.1 hJ5.j).mono ?_; rintro e w6 ⟨rfl, hj6, ht6⟩))
      go_ret
      exact ⟨rfl, _, _, F5, hJ5.failed hj6 ht6, HE.out.1 ht6, HE.out.2.1⟩
    rw [hz5]
    have b := hJ5.j.blk
    have p2 : w5.cell? ⟨jb, 2, none⟩ = _ := b.cell 2
    have p3 : w5.cell? ⟨jb, 3, none⟩ = _ := b.cell 3
    have p4 : w5.cell? ⟨jb, 4, none⟩ = _ := b.cell 4
    have p5 : w5.cell? ⟨jb, 5, none⟩ = _ := b.cell 5
    have p7 : w5.cell? ⟨jb, 7, none⟩ = _ := b.cell 7
    have z2 := b.frozen 2
    have z3 := b.frozen 3
    have z4 := b.frozen 4
    have z5 := b.frozen 5
    have z7 := b.frozen 7
    simp at p2 p3 p4 p5 p7
    have hq : IntKind.i64.wrap ((S.comm : Int) - (k : Int)) = ((S.comm - k : Nat) : Int) := by rw [IntKind.wrap_i64] <;> omega
    obtain ⟨q, hqe⟩ : ∃ q, S.comm - k = q := ⟨_, rfl⟩
    rw [hqe] at hq
    clear b j0 j1 hJ5 ht5
    go_wp2_with fail
    go_region
    have hJ5 := HE.out.2.2.1
    have hb6 := (((((hJ5.j.blk.set_ 2 (.int .i64 ((S.h : Int) + 1))).set_ 3 (.int .i64 ((S.first : Int) + k))).set_ 4 (.int .i64 (bg : Int))).set_ 5 (.int .i64 (S.en : Int))).set_ 7 (.int .i64 (q : Int))).drew
    have t6 : Turn [jb] w5 (((((w5.setCell ⟨jb, 2, none⟩ (.int .i64 ((S.h : Int) + 1))).setCell ⟨jb, 3, none⟩ (.int .i64 ((S.first : Int) + k))).setCell ⟨jb, 4, none⟩ (.int .i64 (bg : Int))).setCell ⟨jb, 5, none⟩ (.int .i64 (S.en : Int))).setCell ⟨jb, 7, none⟩ (.int .i64 (q : Int))).drew :=
      ((((((Turn.refl _ w5).setCell (p := ⟨jb, 2, none⟩) (.inl (by simp)) _).setCell (p := ⟨jb, 3, none⟩) (.inl (by simp)) _).setCell (p := ⟨jb, 4, none⟩) (.inl (by simp)) _).setCell (p := ⟨jb, 5, none⟩) (.inl (by simp)) _).setCell (p := ⟨jb, 7, none⟩) (.inl (by simp)) _).drew
    obtain ⟨W6, hW6⟩ : ∃ W6, (((((w5.setCell ⟨jb, 2, none⟩ (.int .i64 ((S.h : Int) + 1))).setCell ⟨jb, 3, none⟩ (.int .i64 ((S.first : Int) + k))).setCell ⟨jb, 4, none⟩ (.int .i64 (bg : Int))).setCell ⟨jb, 5, none⟩ (.int .i64 (S.en : Int))).setCell ⟨jb, 7, none⟩ (.int .i64 (q : Int))).drew = W6 := ⟨_, rfl⟩
    rw [hW6] at hb6 t6 ⊢
    clear hW6 p2 p3 p4 p5 p7 z2 z3 z4 z5 z7 g0c g1c g2c g3c
    have hb6 : Blk W6 jb 88 #[.pointer (some ⟨vb, 0, none⟩), .pointer (some ⟨tb, 0, none⟩), .int .i64 ((S.h : Int) + 1), .int .i64 ((S.first : Int) + k), .int .i64 (rend S.beg (S.recs.take k) : Int), .int .i64 (S.en : Int), .slice (some ⟨g0, 0, none⟩) n cap, .int .i64 ((S.comm - k : Nat) : Int), .int .i64 (S.en : Int), .int .i64 (S.next : Int), .bool false] := by
      rw [hqe, hbg]; exact hb6
    have c6 : (W6.alloc (.cells #[] 95)).cell? ⟨jb, 6, none⟩ = some (.slice (some ⟨g0, 0, none⟩) n cap) := ((Below.refl _ W6).alloc (Nat.le_refl _) _ |>.cell (p := ⟨jb, 6, none⟩) hb6.lt).trans (hb6.cell 6)
    have f6 : (W6.alloc (.cells #[] 95)).frozen? ⟨jb, 6, none⟩ = false := (hb6.turn ((Turn.refl [] W6).alloc _) (by simp)).frozen 6
    have hrow6 := row_turn hJ5.j.row t6 (fun g hg => by have := hJ5.j.jb_ne; simp; rintro rfl; exact this hg)
    have hnews : ∀ j u, (pcells (S.recs.drop k))[j]? = some u → (W6.alloc (.cells #[] 95)).cell? ((⟨g0, k * 2, none⟩ : Addr).add j) = some u := by
      intro j u hu
      have := (hrow6.alloc (.cells #[] 95)).cells rfl _ _ (pcells_drop_at hu)
      rw [addr_add, Nat.zero_add] at this
      rw [addr_add]; exact this
    have hkn : k ≤ n := by omega
    have hdl : (S.recs.drop k).length = n - k := by rw [List.length_drop, hn]
    have hpl : (pcells (S.recs.drop k)).length = (n - k) * 2 := by rw [pcells_len, hdl]
    have hone : ∀ u ∈ pcells (S.recs.drop k), u.oneCell' = true := pcells_one _
    have hnews0 : cap = k → ∀ j u, (pcells (S.recs.drop k))[j]? = some u → (W6.alloc (.cells #[] 95)).cell? ((⟨g0, 0, none⟩ : Addr).add j) = some u := by
      intro e j u hu
      have := (List.getElem?_eq_some_iff.1 hu).1
      rw [hpl] at this
      omega
    have hmade := World.ownsRow_made (e := 95) (size := 2) W6 #[] 0 (Nat.le_refl _) (Nat.zero_le _) rfl
    have hfin : ∀ (w7 : World) (v' : Value), (W6.alloc (.cells #[] 95)).grownBy w7 (some W6.heap.size) → w7.ownsRow W6.heap.size 95 2 v' (n - k) (pcells (S.recs.drop k)) →
        StepV w (w7.setCell ⟨jb, 6, none⟩ v') jb vb tb (.slice (some ⟨g0, 0, none⟩) n cap) F (S.drop k) false y.2 := by
      intro w7 v' hg hown
      obtain ⟨a, b, c⟩ := hJ5.tailed hk hb6 t6 hg hdl hown
      refine ⟨v', S.en, F5, a, HE.out.1 b, fun i hi => ?_⟩
      rcases c i hi with e | e
      · exact HE.out.2.1 i e
      · exact .inr (Nat.le_trans HE.out.2.2.2.size e)
    have hc6 : ∀ w7 : World, (W6.alloc (.cells #[] 95)).grownBy w7 (some W6.heap.size) → w7.frozen? ⟨jb, 6, none⟩ = false ∧ ∃ v, w7.cell? ⟨jb, 6, none⟩ = some v := by
      intro w7 hg
      have hlt := hb6.lt
      have e := hg.block jb (by rw [World.size_alloc]; omega) (by intro h; injection h with h; omega)
      exact ⟨(World.frozen?_of_block (a := ⟨jb, 6, none⟩) e).trans f6, _, (World.cell?_of_block (a := ⟨jb, 6, none⟩) e).trans c6⟩
    have HFIN := Lib.hid (And.intro hfin hc6)
    have HN := Lib.hid (And.intro hnews (And.intro hnews0 (And.intro hmade (And.intro hone hpl))))
    have hk63 : 0 + (n - k) ≤ maxLen := by unfold maxLen; omega
    have hkb : (0 + (n - k)) * 24 ≤ 140737488355328 := by omega
    clear hfin hc6 hnews hnews0 hmade hone hpl hrow6 hb6 t6 hJ5
    by_cases hck : cap = k
    case' pos =>
      first
        | (exfalso; omega)
        | go_wp2_with ((at_builtin; refine wpList_append_own _ rfl _ _ 86 rfl W6.heap.size 95 i0 _ 2 24 Tryz.underlying86 hi0 hz0 hz1 hz2 rfl (by decide) (.slice (some ⟨W6.heap.size, 0, none⟩) 0 0) 0 [] rfl HN.out.2.2.1 ⟨g0, 0, none⟩ (n - k) _ (pcells (S.recs.drop k)) rfl HN.out.2.2.2.2 (HN.out.2.1 hck) HN.out.2.2.2.1 hk63 hkb (by simp) ?_))
    case' neg =>
      go_wp2_with ((at_builtin; refine wpList_append_own _ rfl _ _ 86 rfl W6.heap.size 95 i0 _ 2 24 Tryz.underlying86 hi0 hz0 hz1 hz2 rfl (by decide) (.slice (some ⟨W6.heap.size, 0, none⟩) 0 0) 0 [] rfl HN.out.2.2.1 ⟨g0, k * 2, none⟩ (n - k) _ (pcells (S.recs.drop k)) rfl HN.out.2.2.2.2 HN.out.1 HN.out.2.2.2.1 hk63 hkb (by simp) ?_))
    all_goals
      intro v' w7 hown hg _
      have hg : (W6.alloc (.cells #[] 95)).grownBy w7 (some W6.heap.size) := hg
      obtain ⟨ao7, cap7, rfl⟩ := row_shape hown
      have hf := HFIN.out.1 w7 _ hg hown
      obtain ⟨f7, v7, c7⟩ := HFIN.out.2 w7 hg
      have HF := Lib.hid hf
      clear hf hown hg
      go_wp2_with fail
      go_ret
      exact ⟨rfl, HF.out⟩
end Go.Proofs.YtfdnpchbbngpjaaGreat
namespace Go.Proofs.YtfdnpchbbngpjaaGreat
attribute [local go_sem ↓] Go.wp_at_zero Go.wp_at_succ
open Go.RowKit Go.Maps

section
variable {P : Program} (w : World)
/-- elements appended onto a slice that was just made without any -/
theorem wp_append_shown {o : Oper} {a : Act} {K : Act → World → Prop} {Q : Exit → Act → World → Prop} (s x : Operand) (t : TypeId)
    (ho : o.op = .call { callee := .builtin .append, args := #[s, x], argTypes := #[t, t] })
    (base : Nat) (e : TypeId) (i : TypeInfo) (z : Value) (size bytes : Nat) (ht : P.underlying t = some (.slice e)) (hi : P.info? e = some i) (hz : i.zero = some z)
    (hsize : i.size = size) (hby : i.bytes = bytes) (hzs : z.cells.size = size) (hsz : 0 < size)
    (H : Nat) (hs : a.eval s = .slice (some ⟨H, 0, none⟩) 0 0) (hown : w.ownsRow base e size (.slice (some ⟨H, 0, none⟩) 0 0) 0 [])
    (ax : Option Addr) (m c : Nat) (news : List Value) (hx : a.eval x = .slice ax m c) (hl : news.length = m * size) (hax : m = 0 ∨ ∃ ad, ax = some ad ∧ ∀ j u, news[j]? = some u → w.cell? (ad.add j) = some u) (h1 : ∀ u ∈ news, u.oneCell' = true)
    (h63 : m ≤ maxLen) (hbytes : m * bytes ≤ 140737488355328) (hbase : base ≤ w.heap.size)
    (h : ∀ g cap w', w'.ownsRow base e size (.slice (some ⟨g, 0, none⟩) m cap) m news → w.grownBy w' (some H) → K (a.put o.dst (.slice (some ⟨g, 0, none⟩) m cap)) w') : o.wp P a w K Q := by
  by_cases hm : m = 0
  · subst hm
    have hn0 : news = [] := List.eq_nil_of_length_eq_zero (by omega)
    subst hn0
    have hr : (Builtin.append_ #[t, t] o.type #[.slice (some ⟨H, 0, none⟩) 0 0, .slice ax 0 c]).run P w = .ok (.slice (some ⟨H, 0, none⟩) 0 0) w := by
      cases ax with
      | none => exact run_append_nothing w t t o.type e i ht hi _ 0 0 (Nat.le_refl _) _ (Src.ofNil w ht c)
      | some ad => exact run_append_nothing w t t o.type e i ht hi _ 0 0 (Nat.le_refl _) _ (Src.ofSlice w ht ad 0 c [] (by simp) (by intro j u hu; simp at hu) (by intro u hu; cases hu))
    unfold Oper.wp execOp
    simp only [ho, resolve, invoke, builtin, Sem.run_bind, Sem.run_pure, Result.andThen_ok, List.map_toArray, List.map_cons, List.map_nil, hs, hx, hr]
    exact h H 0 w hown ⟨rfl, rfl, rfl, Nat.le_refl _, fun _ _ _ => rfl⟩
  · obtain ⟨ad, rfl, hnews⟩ := hax.resolve_left hm
    refine wp_append_own w s x t ho base e i z size bytes ht hi hz hsize hby hzs hsz (.slice (some ⟨H, 0, none⟩) 0 0) 0 [] hs hown ad m c news hx hl hnews h1 (by omega) (by rw [Nat.zero_add]; exact hbytes) hbase (fun v' w' h2 h3 h4 => ?_)
    rw [Nat.zero_add] at h2
    rcases h2.2 with ⟨e1, e2⟩ | ⟨g, cap, cur, rfl, hrest⟩
    · omega
    · exact h g cap w' h2 h3
theorem wpList_append_shown {ops : Array Oper} {rest : List Oper} {o : Oper} {a : Act} {Q : Exit → Act → World → Prop} (hgd : o.guard = none) (s x : Operand) (t : TypeId)
    (ho : o.op = .call { callee := .builtin .append, args := #[s, x], argTypes := #[t, t] })
    (base : Nat) (e : TypeId) (i : TypeInfo) (z : Value) (size bytes : Nat) (ht : P.underlying t = some (.slice e)) (hi : P.info? e = some i) (hz : i.zero = some z)
    (hsize : i.size = size) (hby : i.bytes = bytes) (hzs : z.cells.size = size) (hsz : 0 < size)
    (H : Nat) (hs : a.eval s = .slice (some ⟨H, 0, none⟩) 0 0) (hown : w.ownsRow base e size (.slice (some ⟨H, 0, none⟩) 0 0) 0 [])
    (ax : Option Addr) (m c : Nat) (news : List Value) (hx : a.eval x = .slice ax m c) (hl : news.length = m * size) (hax : m = 0 ∨ ∃ ad, ax = some ad ∧ ∀ j u, news[j]? = some u → w.cell? (ad.add j) = some u) (h1 : ∀ u ∈ news, u.oneCell' = true)
    (h63 : m ≤ maxLen) (hbytes : m * bytes ≤ 140737488355328) (hbase : base ≤ w.heap.size)
    (h : ∀ g cap w', w'.ownsRow base e size (.slice (some ⟨g, 0, none⟩) m cap) m news → w.grownBy w' (some H) → wpList P ops Q rest (a.put o.dst (.slice (some ⟨g, 0, none⟩) m cap)) w') : wpList P ops Q (o :: rest) a w :=
  wpList_plain hgd fun _ hK => wp_append_shown w s x t ho base e i z size bytes ht hi hz hsize hby hzs hsz H hs hown ax m c news hx hl hax h1 h63 hbytes hbase fun g cap w' h2 h3 => hK _ _ (h g cap w' h2 h3)
theorem step_append_shown {ops : Array Oper} {o : Oper} {a : Act} {K : Act → World → Prop} {Q : Exit → Act → World → Prop} {E : Prop} (hgd : o.guard = none) (s x : Operand) (t : TypeId)
    (ho : o.op = .call { callee := .builtin .append, args := #[s, x], argTypes := #[t, t] })
    (base : Nat) (e : TypeId) (i : TypeInfo) (z : Value) (size bytes : Nat) (ht : P.underlying t = some (.slice e)) (hi : P.info? e = some i) (hz : i.zero = some z)
    (hsize : i.size = size) (hby : i.bytes = bytes) (hzs : z.cells.size = size) (hsz : 0 < size)
    (H : Nat) (hs : a.eval s = .slice (some ⟨H, 0, none⟩) 0 0) (hown : w.ownsRow base e size (.slice (some ⟨H, 0, none⟩) 0 0) 0 [])
    (ax : Option Addr) (m c : Nat) (news : List Value) (hx : a.eval x = .slice ax m c) (hl : news.length = m * size) (hax : m = 0 ∨ ∃ ad, ax = some ad ∧ ∀ j u, news[j]? = some u → w.cell? (ad.add j) = some u) (h1 : ∀ u ∈ news, u.oneCell' = true)
    (h63 : m ≤ maxLen) (hbytes : m * bytes ≤ 140737488355328) (hbase : base ≤ w.heap.size)
    (h : ∀ g cap w', w'.ownsRow base e size (.slice (some ⟨g, 0, none⟩) m cap) m news → w.grownBy w' (some H) → K (a.put o.dst (.slice (some ⟨g, 0, none⟩) m cap)) w') :
    if Region.wanted o (yielded ops a.tmps) = true then Oper.wp P o a w K Q else E := by
  have hw : Region.wanted o (yielded ops a.tmps) = true := by simp [Region.wanted, hgd]
  rw [if_pos hw]
  exact wp_append_shown w s x t ho base e i z size bytes ht hi hz hsize hby hzs hsz H hs hown ax m c news hx hl hax h1 h63 hbytes hbase h
end
theorem addr_add' (g a j : Nat) : (⟨g, a, none⟩ : Addr).add j = ⟨g, a + j, none⟩ := by
  unfold Addr.add
  split
  · rename_i h; rw [h]; rfl
  · rfl
theorem bcells_drop (c k : Nat) (l : List Rc) : bcells (c - k) (l.drop k) = (bcells c l).drop (k * 3) := by
  induction k generalizing c l with
  | zero => simp
  | succ k ih =>
    cases l with
    | nil => simp [bcells]
    | cons r t =>
      show bcells (c - (k + 1)) (t.drop k) = _
      rw [show c - (k + 1) = c - 1 - k by omega, ih, show (k + 1) * 3 = k * 3 + 3 by omega]
      rfl
theorem bcells_take (c k : Nat) (l : List Rc) : bcells c (l.take k) = (bcells c l).take (k * 3) := by
  induction k generalizing c l with
  | zero => simp [bcells]
  | succ k ih =>
    cases l with
    | nil => simp [bcells]
    | cons r t =>
      rw [show (k + 1) * 3 = k * 3 + 3 by omega]
      show bcells c (r :: t.take k) = _
      simp only [bcells, List.take_succ_cons]
      rw [ih]
theorem bcells_one (c : Nat) (l : List Rc) : ∀ u ∈ bcells c l, u.oneCell' = true := by
  induction l generalizing c with
  | nil => intro u hu; cases hu
  | cons r t ih =>
    intro u hu
    simp only [bcells, List.mem_cons] at hu
    rcases hu with rfl | rfl | rfl | hu
    · rfl
    · rfl
    · rfl
    · exact ih _ u hu
theorem Bk.fresh {w w1 w2 : World} {bb g0 g1 ga c0 c1 ca : Nat} {vr : Value} {B : BS} (h : Bk w bb g0 g1 ga c0 c1 ca vr B) (hb : Below w.heap.size w w1) {o : Obj} (hg : (w1.alloc o).grownBy w2 (some w1.heap.size)) {n c g cap : Nat} {l : List Rc} (hn : l.length = n)
    (hown : w2.ownsRow w1.heap.size 82 3 (.slice (some ⟨g, 0, none⟩) n cap) n (bcells c l)) :
    Bk (w2.setCell ⟨bb, 6, none⟩ (.slice (some ⟨g, 0, none⟩) n cap)) bb g0 g1 ga c0 c1 ca (.slice (some ⟨g, 0, none⟩) n cap) { B with s := { B.s with recs := l, comm := c } } ∧
      Turn [bb] w (w2.setCell ⟨bb, 6, none⟩ (.slice (some ⟨g, 0, none⟩) n cap)) ∧ w.heap.size ≤ g := by
  have hs := hb.size
  have t1 : Turn [] w w2 := ((Turn.ofBelow hb (Nat.le_refl _)).alloc o).grown hg (fun x e => by injection e with e; subst e; exact .inr hs)
  have h2 := h.turn t1 (fun _ _ => by simp)
  have hgw := (hown.lt g rfl).1
  have hlb := h.blk.lt
  have hgb : g ≠ bb := by omega
  have ts : Turn [bb] w2 (w2.setCell ⟨bb, 6, none⟩ (.slice (some ⟨g, 0, none⟩) n cap)) := (Turn.refl _ w2).setCell (p := ⟨bb, 6, none⟩) (.inl (by simp)) _
  have hb0 : g0 ≠ bb := h.h0.ne h.blk (by decide)
  have hb1 : g1 ≠ bb := h.h1.ne h.blk (by decide)
  refine ⟨⟨h2.blk.set_ 6 _, h2.h0.turn ts (by simpa using hb0), h2.h1.turn ts (by simpa using hb1), h.k0, h.k1, row_turn h2.ar ts (fun x hx => by
      have : x = ga := by simpa [Value.ownBlock] using hx.symm
      subst this; simpa using h.ar_ne), ?_, h.n0, h.n1⟩, (t1.mono (fun i hi => by cases hi)).setCell (p := ⟨bb, 6, none⟩) (.inl (by simp)) _, by omega⟩
  show World.ownsRow _ 0 _ 3 _ l.length (bcells c l)
  rw [hn]
  exact row_turn (row_base hown (Nat.zero_le _)) ts (fun x hx => by
    have : x = g := by simpa [Value.ownBlock] using hx.symm
    subst this; simpa using hgb)
set_option maxRecDepth 100000 in
set_option maxHeartbeats 2000000 in
theorem breopen_any {w : World} {bb : Nat} {B : BS} {G : List Nat} (h : BkF w bb B G) (hc : B.s.comm ≤ B.s.recs.length) (hlen : B.s.recs.length ≤ 1048576) (hf : B.s.first ≤ 1048576) :
    Calls Tryz.prog 44 #[.pointer (some ⟨bb, 0, none⟩)] w fun e w' => e = .returned (.tuple #[]) ∧ BStep G w w' bb B.reopen := by
  obtain ⟨g0, g1, ga, c0, c1, ca, vr, h, rfl⟩ := h
  obtain ⟨i0, hi0, hz0, hz1, hz2⟩ := info_parts brec_info
  obtain ⟨n, hn⟩ : ∃ n, B.s.recs.length = n := ⟨_, rfl⟩
  obtain ⟨ao, cap, rfl⟩ := brow_shape h.rs
  have HD := Lib.hid (fun m => bdurable_any (h.below (below_drewN (n := m) (Below.refl _ w))) hc hlen (by omega))
  rw [hn] at h hc hlen ⊢
  have hcap : n ≤ cap := by
    have := h.rs
    rw [hn] at this
    rcases this.2 with ⟨h1, h2⟩ | ⟨g, c, cur, h1, _, _, h4, _⟩
    · omega
    · injection h1 with h1 h2 h3; omega
  obtain ⟨du, hdu⟩ : ∃ du, B.s.durable = du := ⟨_, rfl⟩
  rw [hdu] at HD
  have hdv : du = (B.s.first : Int) + B.s.comm - 1 := hdu.symm
  have c4 : w.cell? ⟨bb, 4, none⟩ = some (.int .i64 (B.s.first : Int)) := h.blk.cell 4
  have e1 : IntKind.i64.wrap (du - (B.s.first : Int)) = (B.s.comm : Int) - 1 := by rw [IntKind.wrap_i64] <;> omega
  obtain ⟨cm, hcm⟩ : ∃ cm, B.s.comm = cm := ⟨_, rfl⟩
  rw [hcm] at e1 hc
  have HB := Lib.hid h
  clear hdu hdv h
  go_enter Tryz.func44, Tryz.ntmps44
  go_wp2_with fail
  go_quiet ((go_at_call 42; refine (HD.out _).mono ?_; rintro e w' ⟨rfl, q, rfl⟩; exact ⟨rfl, _, World.drewN_drewN ..⟩))
  obtain ⟨W0, hW0⟩ : ∃ W0, w.drewN nq = W0 := ⟨_, rfl⟩
  have hb0 : Below w.heap.size w W0 := by rw [← hW0]; exact below_drewN (Below.refl _ _)
  rw [hW0]
  have h0 := HB.out.below hb0
  have hbA : Below W0.heap.size W0 (W0.alloc (.cells #[] 82)) := (Below.refl _ W0).alloc (Nat.le_refl _) _
  have c6 : (W0.alloc (.cells #[] 82)).cell? ⟨bb, 6, none⟩ = some (.slice ao n cap) := (hbA.cell (p := ⟨bb, 6, none⟩) h0.blk.lt).trans (h0.blk.cell 6)
  have f6 := (h0.below hbA).blk.frozen 6
  have hlt := h0.blk.lt
  have hcap2 : (cm : Int) ≤ (cap : Int) := by omega
  have hrow := h0.rs
  rw [hn, hcm] at hrow
  have hta : bcells cm (B.s.recs.take cm) = (bcells cm B.s.recs).take (cm * 3) := bcells_take _ _ _
  have htl : (B.s.recs.take cm).length = cm := by rw [List.length_take, hn]; omega
  have hln : (bcells cm (B.s.recs.take cm)).length = cm * 3 := by rw [bcells_len, htl]
  have hnews : cm = 0 ∨ ∃ ad, ao = some ad ∧ ∀ j u, (bcells cm (B.s.recs.take cm))[j]? = some u → (W0.alloc (.cells #[] 82)).cell? (ad.add j) = some u := by
    by_cases h : cm = 0
    · exact .inl h
    · right
      rcases hrow.2 with ⟨h1, h2⟩ | ⟨g, c, cur, h1, _⟩
      · omega
      · injection h1 with h1
        subst h1
        refine ⟨_, rfl, fun j u hu => ?_⟩
        rw [hta, List.getElem?_take] at hu
        split at hu
        · exact (hrow.alloc _).cells rfl _ _ hu
        · cases hu
  have hone := bcells_one cm (B.s.recs.take cm)
  have hmade := World.ownsRow_made (e := 82) (size := 3) W0 #[] 0 (Nat.le_refl _) (Nat.zero_le _) rfl
  have HN := Lib.hid (And.intro hnews (And.intro hmade (And.intro hone hln)))
  have hk63 : cm ≤ maxLen := by unfold maxLen; omega
  have hkb : cm * 32 ≤ 140737488355328 := by omega
  have HH := Lib.hid (And.intro h0 (And.intro hb0 (And.intro hcm (And.intro htl f6))))
  clear hta htl hln hnews hone hmade hrow h0 hb0 hbA hW0 f6 hcm hn
  go_wp2_with ((at_builtin; refine wpList_append_shown _ rfl _ _ 34 rfl W0.heap.size 82 i0 _ 3 32 Tryz.underlying34 hi0 hz0 hz1 hz2 rfl (by decide) W0.heap.size rfl HN.out.2.1 ao cm _ (bcells cm (B.s.recs.take cm)) rfl HN.out.2.2.2 HN.out.1 HN.out.2.2.1 hk63 hkb (by simp) ?_))
  intro g7 cap7 w7 hown hg
  obtain ⟨h0, hb0, hcm, htl, f6⟩ := HH.out
  have eb := hg.block bb (by rw [World.size_alloc]; omega) (by intro h; injection h with h; omega)
  have k6 := (World.cell?_of_block (a := ⟨bb, 6, none⟩) eb).trans c6
  have f7 := (World.frozen?_of_block (a := ⟨bb, 6, none⟩) eb).trans f6
  obtain ⟨P1, P2, P3⟩ := HB.out.fresh (c := cm) hb0 hg htl hown
  have HP := Lib.hid (show BStep (bfoot bb g0 g1 ga (.slice ao n cap)) w (w7.setCell ⟨bb, 6, none⟩ (.slice (some ⟨g7, 0, none⟩) cm cap7)) bb B.reopen from by
    have hre : B.reopen = { B with s := { B.s with recs := B.s.recs.take cm, comm := cm } } := by unfold BS.reopen JS.reopen; rw [hcm]
    rw [hre]
    refine ⟨_, ⟨_, _, _, _, _, _, _, P1, rfl⟩, P2.mono (fun i hi => by simp at hi; subst hi; simp [bfoot]), fun i hi => ?_⟩
    unfold bfoot at hi ⊢
    simp [Value.ownBlock] at hi ⊢
    rcases hi with rfl | rfl | rfl | rfl | rfl
    · exact .inl (.inl rfl)
    · exact .inl (.inr (.inl rfl))
    · exact .inl (.inr (.inr (.inl rfl)))
    · exact .inl (.inr (.inr (.inr (.inl rfl))))
    · exact .inr P3)
  clear P1 P2 P3 hown hg eb h0 hb0 htl f6 c6
  go_wp2_with fail
  go_end0
  exact ⟨rfl, HP.out⟩
theorem Bk.reset {w w' : World} {bb g0 g1 ga c0 c1 ca : Nat} {vr : Value} {B : BS} (h : Bk w bb g0 g1 ga c0 c1 ca vr B) (t : Turn [bb] w w') {f b : Nat}
    (hb : Blk w' bb 36 #[.slice (some ⟨g0, 0, none⟩) 256 c0, .slice (some ⟨g1, 0, none⟩) 256 c1, .slice (some ⟨ga, 0, none⟩) B.area.length ca, .int .i64 (B.s.h : Int), .int .i64 (f : Int), .int .i64 (b : Int), vr]) :
    Bk w' bb g0 g1 ga c0 c1 ca vr { B with s := { B.s with first := f, beg := b } } := by
  have hb0 : g0 ≠ bb := h.h0.ne h.blk (by decide)
  have hb1 : g1 ≠ bb := h.h1.ne h.blk (by decide)
  exact ⟨hb, h.h0.turn t (by simpa using hb0), h.h1.turn t (by simpa using hb1), h.k0, h.k1, row_turn h.ar t (fun x hx => by
      have : x = ga := by simpa [Value.ownBlock] using hx.symm
      subst this; simpa using h.ar_ne), row_turn h.rs t (fun x hx => by have := h.rs_ne; simp; rintro rfl; exact this hx), h.n0, h.n1⟩
theorem BStep.join {G : List Nat} {w w1 w2 : World} {bb : Nat} {B' : BS} {G1 : List Nat} (t : Turn [bb] w w1) (hb : bb ∈ G) (h1 : ∀ i, i ∈ G1 → i ∈ G ∨ w.heap.size ≤ i) (h : BStep G1 w1 w2 bb B') : BStep G w w2 bb B' := by
  obtain ⟨G2, a, b, c⟩ := h
  refine ⟨G2, a, (t.mono (fun i hi => by simp at hi; subst hi; exact hb)).trans b h1, fun i hi => ?_⟩
  rcases c i hi with e | e
  · exact h1 i e
  · exact .inr (Nat.le_trans t.size e)
set_option maxRecDepth 100000 in
theorem btrunc_high (k : Int) {w : World} {bb : Nat} {B : BS} {G : List Nat} (h : BkF w bb B G) (hc : B.s.comm ≤ B.s.recs.length) (hlen : B.s.recs.length ≤ 1048576) (hf : B.s.first ≤ 1048576) (hk : B.s.durable < k) :
    Calls Tryz.prog 43 #[.pointer (some ⟨bb, 0, none⟩), .int .i64 k] w fun e w' => e = .returned (.int .i64 2) ∧ ∃ n, w' = w.drewN n := by
  obtain ⟨g0, g1, ga, c0, c1, ca, vr, h, rfl⟩ := h
  have HD := Lib.hid (bdurable_any h hc hlen (by omega))
  have d1 : decide (B.s.durable < k) = true := by simpa using hk
  clear h hk
  go_enter Tryz.func43, Tryz.ntmps43
  go_wp2_with ((go_at_call 42; refine HD.out.mono ?_; rintro e w1 ⟨rfl, n1, rfl⟩))
  go_ret
  exact ⟨rfl, _, rfl⟩
set_option maxRecDepth 100000 in
theorem btrunc_low (k : Int) {w : World} {bb : Nat} {B : BS} {G : List Nat} (h : BkF w bb B G) (hc : B.s.comm ≤ B.s.recs.length) (hlen : B.s.recs.length ≤ 1048576) (hf : B.s.first ≤ 1048576) (hk : k ≤ B.s.durable) (hk2 : k < (B.s.first : Int)) :
    Calls Tryz.prog 43 #[.pointer (some ⟨bb, 0, none⟩), .int .i64 k] w fun e w' => e = .returned (.int .i64 0) ∧ ∃ n, w' = w.drewN n := by
  obtain ⟨g0, g1, ga, c0, c1, ca, vr, h, rfl⟩ := h
  have HD := Lib.hid (bdurable_any h hc hlen (by omega))
  have d1 : decide (B.s.durable < k) = false := by simpa using hk
  have d2 : decide (k < (B.s.first : Int)) = true := by simpa using hk2
  have c4 : w.cell? ⟨bb, 4, none⟩ = some (.int .i64 (B.s.first : Int)) := h.blk.cell 4
  clear h hk hk2
  go_enter Tryz.func43, Tryz.ntmps43
  go_wp2_with ((go_at_call 42; refine HD.out.mono ?_; rintro e w1 ⟨rfl, n1, rfl⟩))
  go_ret
  exact ⟨rfl, _, rfl⟩
theorem rec_pos {p : Nat} {l : List Rc} (h : Chain p l) {k : Nat} {r : Rc} (hr : l[k]? = some r) : r.1 = rend p (l.take k) := by
  induction l generalizing p k with
  | nil => simp at hr
  | cons x t ih =>
    obtain ⟨h1, h2, h3⟩ := h
    cases k with
    | zero => simp at hr; subst hr; exact h1
    | succ k => rw [ih h3 (k := k) (by simpa using hr)]; show rend (p + 16 + x.2.size) _ = rend (x.1 + 16 + x.2.size) _; rw [h1]
set_option maxRecDepth 100000 in
set_option maxHeartbeats 8000000 in
theorem btrunc_go {w : World} {bb : Nat} {B : BS} {G : List Nat} (h : BkF w bb B G) {m c : Nat} (hS : B.s.wf m c) (hcc : c ≤ 1048575) (hch : ∀ r, r ∈ B.s.recs → r.1 + 16 + r.2.size ≤ 1125899906842624) {k : Nat} (hk1 : 1 ≤ k) (hk : k ≤ B.s.comm) :
    Calls Tryz.prog 43 #[.pointer (some ⟨bb, 0, none⟩), .int .i64 ((B.s.first : Int) + k - 1)] w fun e w' => e = .returned (.int .i64 0) ∧ BStep G w w' bb (BS.header B (B.s.drop k)) := by
  obtain ⟨g0, g1, ga, c0, c1, ca, vr, h, rfl⟩ := h
  obtain ⟨i0, hi0, hz0, hz1, hz2⟩ := info_parts brec_info
  have hsf := hS.nums
  have hsc := hS.comm
  have hsh := hS.h
  have hsp := hS.pos
  have hso := hS.one
  obtain ⟨n, hn⟩ : ∃ n, B.s.recs.length = n := ⟨_, rfl⟩
  obtain ⟨cm, hcm⟩ : ∃ cm, B.s.comm = cm := ⟨_, rfl⟩
  obtain ⟨ao, cap, rfl⟩ := brow_shape h.rs
  have hD := bdurable_any h hsc (by omega) (by omega)
  have HNX := Lib.hid (fun m => bnext_any (h.below (below_drewN (n := m) (Below.refl _ w))) (by omega) hch)
  obtain ⟨nx, hnx⟩ : ∃ nx, B.s.next = nx := ⟨_, rfl⟩
  rw [hnx] at HNX hsp
  rw [hn] at h hsf hsc ⊢
  rw [hcm] at hsc hk
  have hrow := h.rs
  rw [hn, hcm] at hrow
  obtain ⟨g6, rfl, hcap⟩ : ∃ g6, ao = some ⟨g6, 0, none⟩ ∧ n ≤ cap := by
    rcases hrow.2 with ⟨h1, h2⟩ | ⟨g, c, cur, h1, _, _, h4, _⟩
    · omega
    · injection h1 with h1 h2 h3; exact ⟨g, h1, by omega⟩
  have hdv : B.s.durable = (B.s.first : Int) + cm - 1 := by unfold JS.durable; rw [hcm]
  have d1 : decide (B.s.durable < (B.s.first : Int) + k - 1) = false := by rw [hdv]; simp; omega
  have d2 : decide ((B.s.first : Int) + k - 1 < (B.s.first : Int)) = false := by simp; omega
  have e1 : IntKind.i64.wrap ((B.s.first : Int) + k - 1 - B.s.first) = (k : Int) - 1 := by rw [IntKind.wrap_i64] <;> omega
  obtain ⟨du, hdu⟩ : ∃ du, B.s.durable = du := ⟨_, rfl⟩
  rw [hdu] at hD d1
  have x2 : IntKind.i64.wrap ((B.s.first : Int) + k - 1 + 1) = ((B.s.first + k : Nat) : Int) := by rw [IntKind.wrap_i64] <;> omega
  obtain ⟨num, hnum⟩ : ∃ x, (B.s.first : Int) + k - 1 = x := ⟨_, rfl⟩
  rw [hnum] at d1 d2 e1 x2 ⊢
  have HD := Lib.hid hD
  have HB := Lib.hid h
  have c4 : w.cell? ⟨bb, 4, none⟩ = some (.int .i64 (B.s.first : Int)) := h.blk.cell 4
  clear hD h hrow hdv hdu hnum
  go_enter Tryz.func43, Tryz.ntmps43
  go_wp2_with (first
    | (go_at_call 42; refine HD.out.mono ?_; rintro e w1 ⟨rfl, n1, rfl⟩)
    | (go_at_call 57; refine (HNX.out _).mono ?_; rintro e W0 ⟨rfl, hb0⟩))
  have hb0 : Below w.heap.size w W0 := (below_drewN (n := n1) (Below.refl _ w)).trans hb0
  have h0 := HB.out.below hb0
  have hlb := h0.blk.lt
  have c4 : W0.drew.cell? ⟨bb, 4, none⟩ = some (.int .i64 (B.s.first : Int)) := h0.blk.cell 4
  have c6 : W0.drew.cell? ⟨bb, 6, none⟩ = some (.slice (some ⟨g6, 0, none⟩) n cap) := h0.blk.cell 6
  obtain ⟨off, hoff1, hoff2⟩ : ∃ off : Nat, (cap = k → off = 0) ∧ (cap ≠ k → off = k * 3) := ⟨if cap = k then 0 else k * 3, fun e => if_pos e, fun e => if_neg e⟩
  obtain ⟨V, hV⟩ : ∃ V, W0.drew = V := ⟨_, rfl⟩
  have hbV : Below w.heap.size w V := by rw [← hV]; exact hb0.drew
  rw [hV] at c4 c6
  have hv := HB.out.below hbV
  have hbA : Below V.heap.size V (V.alloc (.cells #[] 82)) := (Below.refl _ V).alloc (Nat.le_refl _) _
  have lv := hv.blk.lt
  have c4a : (V.alloc (.cells #[] 82)).cell? ⟨bb, 4, none⟩ = some (.int .i64 (B.s.first : Int)) := (hbA.cell (p := ⟨bb, 4, none⟩) lv).trans c4
  have c6a : (V.alloc (.cells #[] 82)).cell? ⟨bb, 6, none⟩ = some (.slice (some ⟨g6, 0, none⟩) n cap) := (hbA.cell (p := ⟨bb, 6, none⟩) lv).trans c6
  have f6 := (hv.below hbA).blk.frozen 6
  have hrow := hv.rs
  rw [hn, hcm] at hrow
  have hdl : (B.s.recs.drop k).length = n - k := by rw [List.length_drop, hn]
  have hln : (bcells (cm - k) (B.s.recs.drop k)).length = (n - k) * 3 := by rw [bcells_len, hdl]
  have hnews : n - k = 0 ∨ ∃ ad, some (⟨g6, off, none⟩ : Addr) = some ad ∧ ∀ j u, (bcells (cm - k) (B.s.recs.drop k))[j]? = some u → (V.alloc (.cells #[] 82)).cell? (ad.add j) = some u := by
    by_cases hz : n - k = 0
    · exact .inl hz
    · refine .inr ⟨_, rfl, fun j u hu => ?_⟩
      rw [bcells_drop, List.getElem?_drop] at hu
      have := (hrow.alloc (.cells #[] 82)).cells rfl _ _ hu
      rw [addr_add', Nat.zero_add] at this
      rw [addr_add', hoff2 (by omega)]
      exact this
  have hone := bcells_one (cm - k) (B.s.recs.drop k)
  have hmade := World.ownsRow_made (e := 82) (size := 3) V #[] 0 (Nat.le_refl _) (Nat.zero_le _) rfl
  have ek : IntKind.i64.wrap (k : Int) = (k : Int) := by rw [IntKind.wrap_i64] <;> omega
  have HN := Lib.hid (And.intro hnews (And.intro hmade (And.intro hone hln)))
  have hk63 : n - k ≤ maxLen := by unfold maxLen; omega
  have hkb : (n - k) * 32 ≤ 140737488355328 := by omega
  have HK := Lib.hid (fun (w7 : World) (hg : (V.alloc (.cells #[] 82)).grownBy w7 (some V.heap.size)) => by
    have eb := hg.block bb (by rw [World.size_alloc]; omega) (by intro h; injection h with h; omega)
    exact And.intro ((World.cell?_of_block (a := ⟨bb, 6, none⟩) eb).trans c6a) ((World.frozen?_of_block (a := ⟨bb, 6, none⟩) eb).trans f6))
  have HFIN := Lib.hid (fun (w7 : World) (g7 cap7 : Nat) (hg : (V.alloc (.cells #[] 82)).grownBy w7 (some V.heap.size)) (hown : w7.ownsRow V.heap.size 82 3 (.slice (some ⟨g7, 0, none⟩) (n - k) cap7) (n - k) (bcells (cm - k) (B.s.recs.drop k))) => HB.out.fresh hbV hg hdl hown)
  clear hnews hmade hone hln hrow f6 hb0 h0 hbA hv
  refine startH (S := fun _ => True) 18 (by kernel_rfl) (by kernel_rfl) trivial (fun hHeld => ?_)
  simp only [List.replicate_succ, List.replicate_zero]
  rw [hV]
  clear hV
  refine takeH (i := 0) (v := .pointer (some ⟨bb, 0, none⟩)) rfl rfl (by kernel_rfl) (by kernel_rfl) (by kernel_rfl) (fun _ _ _ h => h) (Or.inl ⟨rfl, fun _ _ => rfl⟩) hHeld ?_
  simp only [List.set_cons_zero, List.set_cons_succ]
  refine takeH (i := 2) (v := .pointer (some ⟨bb, 0, none⟩)) rfl rfl (by kernel_rfl) (by kernel_rfl) (by kernel_rfl) (fun _ _ _ h => h) (Or.inl ⟨rfl, fun _ _ => rfl⟩) hHeld ?_
  simp only [List.set_cons_zero, List.set_cons_succ]
  refine takeH (i := 3) (v := .pointer (some ⟨bb, 0, none⟩)) rfl rfl (by kernel_rfl) (by kernel_rfl) (by kernel_rfl) (fun _ _ _ h => h) (Or.inl ⟨rfl, by intro w' _; generalize hE : Act.eval _ = ρ; have e20 : ρ (.tmp 20) = .pointer (some ⟨bb, 0, none⟩) := (by rw [← hE]; rfl); clear hE; go_simp⟩) hHeld ?_
  simp only [List.set_cons_zero, List.set_cons_succ]
  refine takeH (i := 4) (v := .pointer (some ⟨bb, 6, none⟩)) rfl rfl (by kernel_rfl) (by kernel_rfl) (by kernel_rfl) (fun _ _ _ h => h) (Or.inl ⟨rfl, by intro w' _; generalize hE : Act.eval _ = ρ; have e21 : ρ (.tmp 21) = .pointer (some ⟨bb, 0, none⟩) := (by rw [← hE]; rfl); clear hE; go_simp⟩) hHeld ?_
  simp only [List.set_cons_zero, List.set_cons_succ]
  refine takeH (i := 6) (v := .int .i64 num) rfl rfl (by kernel_rfl) (by kernel_rfl) (by kernel_rfl) (fun _ _ _ h => h) (Or.inl ⟨rfl, fun _ _ => rfl⟩) hHeld ?_
  simp only [List.set_cons_zero, List.set_cons_succ]
  refine takeH (i := 7) (v := .pointer (some ⟨bb, 0, none⟩)) rfl rfl (by kernel_rfl) (by kernel_rfl) (by kernel_rfl) (fun _ _ _ h => h) (Or.inl ⟨rfl, fun _ _ => rfl⟩) hHeld ?_
  simp only [List.set_cons_zero, List.set_cons_succ]
  refine takeH (i := 8) (v := .pointer (some ⟨bb, 0, none⟩)) rfl rfl (by kernel_rfl) (by kernel_rfl) (by kernel_rfl) (fun _ _ _ h => h) (Or.inl ⟨rfl, by intro w' _; generalize hE : Act.eval _ = ρ; have e25 : ρ (.tmp 25) = .pointer (some ⟨bb, 0, none⟩) := (by rw [← hE]; rfl); clear hE; go_simp⟩) hHeld ?_
  simp only [List.set_cons_zero, List.set_cons_succ]
  refine takeH (i := 9) (v := .pointer (some ⟨bb, 4, none⟩)) rfl rfl (by kernel_rfl) (by kernel_rfl) (by kernel_rfl) (fun _ _ _ h => h) (Or.inl ⟨rfl, by intro w' _; generalize hE : Act.eval _ = ρ; have e26 : ρ (.tmp 26) = .pointer (some ⟨bb, 0, none⟩) := (by rw [← hE]; rfl); clear hE; go_simp⟩) hHeld ?_
  simp only [List.set_cons_zero, List.set_cons_succ]
  refine wpAnyH_ready (rs := [1, 5, 10]) (by kernel_rfl) (by simp) ?_
  refine AllReadyH.cons (nthL_get rfl) (fun K hK => ?_) (AllReadyH.cons (nthL_get rfl) (fun K hK => ?_) (AllReadyH.cons (nthL_get rfl) (fun K hK => ?_) AllReadyH.nil))
  go_simp
  refine hK.out _ _ trivial (fun hHeld => ?_)
  clear hK K
  simp only [List.setIfInBounds_toArray, List.set_cons_zero, List.set_cons_succ]
  refine wpAnyH_ready (rs := [5, 10]) (by kernel_rfl) (by simp) ?_
  refine AllReadyH.cons (nthL_get rfl) (fun K hK => ?_) (AllReadyH.cons (nthL_get rfl) (fun K hK => ?_) AllReadyH.nil)
  go_simp
  refine hK.out _ _ trivial (fun hHeld => ?_)
  clear hK K
  simp only [List.setIfInBounds_toArray, List.set_cons_zero, List.set_cons_succ]
  refine wpAnyH_ready (rs := [10]) (by kernel_rfl) (by simp) ?_
  refine AllReadyH.cons (nthL_get rfl) (fun K hK => ?_) AllReadyH.nil
  go_simp
  refine hK.out _ _ trivial (fun hHeld => ?_)
  clear hK K
  simp only [List.setIfInBounds_toArray, List.set_cons_zero, List.set_cons_succ]
  refine takeH (i := 11) (v := .int .i64 ((k : Int) - 1)) rfl rfl (by kernel_rfl) (by kernel_rfl) (by kernel_rfl) (fun _ _ _ h => h) (Or.inl ⟨rfl, by intro w' _; generalize hE : Act.eval _ = ρ; have e24 : ρ (.tmp 24) = .int .i64 num := (by rw [← hE]; rfl); have e28 : ρ (.tmp 28) = .int .i64 (B.s.first : Int) := (by rw [← hE]; rfl); clear hE; go_simp⟩) hHeld ?_
  simp only [List.set_cons_zero, List.set_cons_succ]
  refine takeH (i := 12) (v := .int .i64 (k : Int)) rfl rfl (by kernel_rfl) (by kernel_rfl) (by kernel_rfl) (fun _ _ _ h => h) (Or.inl ⟨rfl, by intro w' _; generalize hE : Act.eval _ = ρ; have e29 : ρ (.tmp 29) = .int .i64 ((k : Int) - 1) := (by rw [← hE]; rfl); have ec : ρ (.const (.int .i64 1)) = .int .i64 1 := (by rw [← hE]; rfl); clear hE; go_simp⟩) hHeld ?_
  simp only [List.set_cons_zero, List.set_cons_succ]
  refine takeH (i := 13) (v := .slice (some ⟨g6, off, none⟩) (n - k) (cap - k)) rfl rfl (by kernel_rfl) (by kernel_rfl) (by kernel_rfl) (fun _ _ _ h => h) (Or.inl ⟨rfl, ?_⟩) hHeld ?_
  · intro w' _; generalize hE : Act.eval _ = ρ; have e23 : ρ (.tmp 23) = .slice (some ⟨g6, 0, none⟩) n cap := (by rw [← hE]; rfl); have e30 : ρ (.tmp 30) = .int .i64 (k : Int) := (by rw [← hE]; rfl); clear hE; by_cases hck : cap = k
    · rw [hoff1 hck]; go_simp; intro hlt; exact absurd hlt (by omega)
    · rw [hoff2 hck]; go_simp; intro hlt; exact absurd hlt (by omega)
  simp only [List.set_cons_zero, List.set_cons_succ]
  refine wpAnyH_ready (rs := [14]) (by kernel_rfl) (by simp) ?_
  refine AllReadyH.cons (nthL_get rfl) (fun K hK => ?_) AllReadyH.nil
  refine step_append_shown _ (by rfl) _ _ _ (by rfl) V.heap.size 82 i0 _ 3 32 Tryz.underlying34 hi0 hz0 hz1 hz2 rfl (by decide) V.heap.size (by rfl) HN.out.2.1 _ (n - k) (cap - k) (bcells (cm - k) (B.s.recs.drop k)) (by rfl) HN.out.2.2.2 HN.out.1 HN.out.2.2.1 hk63 hkb (by simp) ?_
  intro g7 cap7 w7 hown hg
  refine hK.out _ _ trivial (fun hHeld => ?_)
  clear hK K
  simp only [List.setIfInBounds_toArray, List.set_cons_zero, List.set_cons_succ]
  refine takeH (i := 15) (v := .pointer (some ⟨bb, 0, none⟩)) rfl rfl (by kernel_rfl) (by kernel_rfl) (by kernel_rfl) (fun _ _ _ h => h) (Or.inl ⟨rfl, by intro w' _; generalize hE : Act.eval _ = ρ; have e18 : ρ (.tmp 18) = .pointer (some ⟨bb, 0, none⟩) := (by rw [← hE]; rfl); clear hE; go_simp⟩) hHeld ?_
  simp only [List.set_cons_zero, List.set_cons_succ]
  refine takeH (i := 16) (v := .pointer (some ⟨bb, 6, none⟩)) rfl rfl (by kernel_rfl) (by kernel_rfl) (by kernel_rfl) (fun _ _ _ h => h) (Or.inl ⟨rfl, by intro w' _; generalize hE : Act.eval _ = ρ; have e33 : ρ (.tmp 33) = .pointer (some ⟨bb, 0, none⟩) := (by rw [← hE]; rfl); clear hE; go_simp⟩) hHeld ?_
  simp only [List.set_cons_zero, List.set_cons_succ]
  obtain ⟨k6, f7⟩ := HK.out w7 hg
  refine wpAnyH_ready (rs := [17]) (by kernel_rfl) (by simp) ?_
  refine AllReadyH.cons (nthL_get rfl) (fun K hK => ?_) AllReadyH.nil
  go_simp
  refine hK.out _ _ trivial (fun hHeld => ?_)
  clear hK K
  simp only [List.setIfInBounds_toArray, List.set_cons_zero, List.set_cons_succ]
  refine wpAnyH_done (by kernel_rfl) ?_ _
  have HP := Lib.hid (HFIN.out w7 g7 cap7 hg hown)
  clear hown hg k6 f7
  rotate_left
  go_simp
  refine hK.out _ _ trivial (fun hHeld => ?_)
  clear hK K
  simp only [List.setIfInBounds_toArray, List.set_cons_zero, List.set_cons_succ]
  refine takeH (i := 11) (v := .int .i64 ((k : Int) - 1)) rfl rfl (by kernel_rfl) (by kernel_rfl) (by kernel_rfl) (fun _ _ _ h => h) (Or.inl ⟨rfl, by intro w' _; generalize hE : Act.eval _ = ρ; have e24 : ρ (.tmp 24) = .int .i64 num := (by rw [← hE]; rfl); have e28 : ρ (.tmp 28) = .int .i64 (B.s.first : Int) := (by rw [← hE]; rfl); clear hE; go_simp⟩) hHeld ?_
  simp only [List.set_cons_zero, List.set_cons_succ]
  refine takeH (i := 12) (v := .int .i64 (k : Int)) rfl rfl (by kernel_rfl) (by kernel_rfl) (by kernel_rfl) (fun _ _ _ h => h) (Or.inl ⟨rfl, by intro w' _; generalize hE : Act.eval _ = ρ; have e29 : ρ (.tmp 29) = .int .i64 ((k : Int) - 1) := (by rw [← hE]; rfl); have ec : ρ (.const (.int .i64 1)) = .int .i64 1 := (by rw [← hE]; rfl); clear hE; go_simp⟩) hHeld ?_
  simp only [List.set_cons_zero, List.set_cons_succ]
  refine wpAnyH_ready (rs := [5]) (by kernel_rfl) (by simp) ?_
  refine AllReadyH.cons (nthL_get rfl) (fun K hK => ?_) AllReadyH.nil
  go_simp
  refine hK.out _ _ trivial (fun hHeld => ?_)
  clear hK K
  simp only [List.setIfInBounds_toArray, List.set_cons_zero, List.set_cons_succ]
  refine takeH (i := 13) (v := .slice (some ⟨g6, off, none⟩) (n - k) (cap - k)) rfl rfl (by kernel_rfl) (by kernel_rfl) (by kernel_rfl) (fun _ _ _ h => h) (Or.inl ⟨rfl, ?_⟩) hHeld ?_
  · intro w' _; generalize hE : Act.eval _ = ρ; have e23 : ρ (.tmp 23) = .slice (some ⟨g6, 0, none⟩) n cap := (by rw [← hE]; rfl); have e30 : ρ (.tmp 30) = .int .i64 (k : Int) := (by rw [← hE]; rfl); clear hE; by_cases hck : cap = k
    · rw [hoff1 hck]; go_simp; intro hlt; exact absurd hlt (by omega)
    · rw [hoff2 hck]; go_simp; intro hlt; exact absurd hlt (by omega)
  simp only [List.set_cons_zero, List.set_cons_succ]
  refine wpAnyH_ready (rs := [14]) (by kernel_rfl) (by simp) ?_
  refine AllReadyH.cons (nthL_get rfl) (fun K hK => ?_) AllReadyH.nil
  refine step_append_shown _ (by rfl) _ _ _ (by rfl) V.heap.size 82 i0 _ 3 32 Tryz.underlying34 hi0 hz0 hz1 hz2 rfl (by decide) V.heap.size (by rfl) HN.out.2.1 _ (n - k) (cap - k) (bcells (cm - k) (B.s.recs.drop k)) (by rfl) HN.out.2.2.2 HN.out.1 HN.out.2.2.1 hk63 hkb (by simp) ?_
  intro g7 cap7 w7 hown hg
  refine hK.out _ _ trivial (fun hHeld => ?_)
  clear hK K
  simp only [List.setIfInBounds_toArray, List.set_cons_zero, List.set_cons_succ]
  refine takeH (i := 15) (v := .pointer (some ⟨bb, 0, none⟩)) rfl rfl (by kernel_rfl) (by kernel_rfl) (by kernel_rfl) (fun _ _ _ h => h) (Or.inl ⟨rfl, by intro w' _; generalize hE : Act.eval _ = ρ; have e18 : ρ (.tmp 18) = .pointer (some ⟨bb, 0, none⟩) := (by rw [← hE]; rfl); clear hE; go_simp⟩) hHeld ?_
  simp only [List.set_cons_zero, List.set_cons_succ]
  refine takeH (i := 16) (v := .pointer (some ⟨bb, 6, none⟩)) rfl rfl (by kernel_rfl) (by kernel_rfl) (by kernel_rfl) (fun _ _ _ h => h) (Or.inl ⟨rfl, by intro w' _; generalize hE : Act.eval _ = ρ; have e33 : ρ (.tmp 33) = .pointer (some ⟨bb, 0, none⟩) := (by rw [← hE]; rfl); clear hE; go_simp⟩) hHeld ?_
  simp only [List.set_cons_zero, List.set_cons_succ]
  obtain ⟨k6, f7⟩ := HK.out w7 hg
  refine wpAnyH_ready (rs := [17]) (by kernel_rfl) (by simp) ?_
  refine AllReadyH.cons (nthL_get rfl) (fun K hK => ?_) AllReadyH.nil
  go_simp
  refine hK.out _ _ trivial (fun hHeld => ?_)
  clear hK K
  simp only [List.setIfInBounds_toArray, List.set_cons_zero, List.set_cons_succ]
  refine wpAnyH_done (by kernel_rfl) ?_ _
  have HP := Lib.hid (HFIN.out w7 g7 cap7 hg hown)
  clear hown hg k6 f7
  rotate_left
  go_simp
  refine hK.out _ _ trivial (fun hHeld => ?_)
  clear hK K
  simp only [List.setIfInBounds_toArray, List.set_cons_zero, List.set_cons_succ]
  refine wpAnyH_ready (rs := [1, 10]) (by kernel_rfl) (by simp) ?_
  refine AllReadyH.cons (nthL_get rfl) (fun K hK => ?_) (AllReadyH.cons (nthL_get rfl) (fun K hK => ?_) AllReadyH.nil)
  go_simp
  refine hK.out _ _ trivial (fun hHeld => ?_)
  clear hK K
  simp only [List.setIfInBounds_toArray, List.set_cons_zero, List.set_cons_succ]
  refine wpAnyH_ready (rs := [10]) (by kernel_rfl) (by simp) ?_
  refine AllReadyH.cons (nthL_get rfl) (fun K hK => ?_) AllReadyH.nil
  go_simp
  refine hK.out _ _ trivial (fun hHeld => ?_)
  clear hK K
  simp only [List.setIfInBounds_toArray, List.set_cons_zero, List.set_cons_succ]
  refine takeH (i := 11) (v := .int .i64 ((k : Int) - 1)) rfl rfl (by kernel_rfl) (by kernel_rfl) (by kernel_rfl) (fun _ _ _ h => h) (Or.inl ⟨rfl, by intro w' _; generalize hE : Act.eval _ = ρ; have e24 : ρ (.tmp 24) = .int .i64 num := (by rw [← hE]; rfl); have e28 : ρ (.tmp 28) = .int .i64 (B.s.first : Int) := (by rw [← hE]; rfl); clear hE; go_simp⟩) hHeld ?_
  simp only [List.set_cons_zero, List.set_cons_succ]
  refine takeH (i := 12) (v := .int .i64 (k : Int)) rfl rfl (by kernel_rfl) (by kernel_rfl) (by kernel_rfl) (fun _ _ _ h => h) (Or.inl ⟨rfl, by intro w' _; generalize hE : Act.eval _ = ρ; have e29 : ρ (.tmp 29) = .int .i64 ((k : Int) - 1) := (by rw [← hE]; rfl); have ec : ρ (.const (.int .i64 1)) = .int .i64 1 := (by rw [← hE]; rfl); clear hE; go_simp⟩) hHeld ?_
  simp only [List.set_cons_zero, List.set_cons_succ]
  refine takeH (i := 13) (v := .slice (some ⟨g6, off, none⟩) (n - k) (cap - k)) rfl rfl (by kernel_rfl) (by kernel_rfl) (by kernel_rfl) (fun _ _ _ h => h) (Or.inl ⟨rfl, ?_⟩) hHeld ?_
  · intro w' _; generalize hE : Act.eval _ = ρ; have e23 : ρ (.tmp 23) = .slice (some ⟨g6, 0, none⟩) n cap := (by rw [← hE]; rfl); have e30 : ρ (.tmp 30) = .int .i64 (k : Int) := (by rw [← hE]; rfl); clear hE; by_cases hck : cap = k
    · rw [hoff1 hck]; go_simp; intro hlt; exact absurd hlt (by omega)
    · rw [hoff2 hck]; go_simp; intro hlt; exact absurd hlt (by omega)
  simp only [List.set_cons_zero, List.set_cons_succ]
  refine wpAnyH_ready (rs := [14]) (by kernel_rfl) (by simp) ?_
  refine AllReadyH.cons (nthL_get rfl) (fun K hK => ?_) AllReadyH.nil
  refine step_append_shown _ (by rfl) _ _ _ (by rfl) V.heap.size 82 i0 _ 3 32 Tryz.underlying34 hi0 hz0 hz1 hz2 rfl (by decide) V.heap.size (by rfl) HN.out.2.1 _ (n - k) (cap - k) (bcells (cm - k) (B.s.recs.drop k)) (by rfl) HN.out.2.2.2 HN.out.1 HN.out.2.2.1 hk63 hkb (by simp) ?_
  intro g7 cap7 w7 hown hg
  refine hK.out _ _ trivial (fun hHeld => ?_)
  clear hK K
  simp only [List.setIfInBounds_toArray, List.set_cons_zero, List.set_cons_succ]
  refine takeH (i := 15) (v := .pointer (some ⟨bb, 0, none⟩)) rfl rfl (by kernel_rfl) (by kernel_rfl) (by kernel_rfl) (fun _ _ _ h => h) (Or.inl ⟨rfl, by intro w' _; generalize hE : Act.eval _ = ρ; have e18 : ρ (.tmp 18) = .pointer (some ⟨bb, 0, none⟩) := (by rw [← hE]; rfl); clear hE; go_simp⟩) hHeld ?_
  simp only [List.set_cons_zero, List.set_cons_succ]
  refine takeH (i := 16) (v := .pointer (some ⟨bb, 6, none⟩)) rfl rfl (by kernel_rfl) (by kernel_rfl) (by kernel_rfl) (fun _ _ _ h => h) (Or.inl ⟨rfl, by intro w' _; generalize hE : Act.eval _ = ρ; have e33 : ρ (.tmp 33) = .pointer (some ⟨bb, 0, none⟩) := (by rw [← hE]; rfl); clear hE; go_simp⟩) hHeld ?_
  simp only [List.set_cons_zero, List.set_cons_succ]
  obtain ⟨k6, f7⟩ := HK.out w7 hg
  refine wpAnyH_ready (rs := [17]) (by kernel_rfl) (by simp) ?_
  refine AllReadyH.cons (nthL_get rfl) (fun K hK => ?_) AllReadyH.nil
  go_simp
  refine hK.out _ _ trivial (fun hHeld => ?_)
  clear hK K
  simp only [List.setIfInBounds_toArray, List.set_cons_zero, List.set_cons_succ]
  refine wpAnyH_done (by kernel_rfl) ?_ _
  have HP := Lib.hid (HFIN.out w7 g7 cap7 hg hown)
  clear hown hg k6 f7
  rotate_left
  go_simp
  refine hK.out _ _ trivial (fun hHeld => ?_)
  clear hK K
  simp only [List.setIfInBounds_toArray, List.set_cons_zero, List.set_cons_succ]
  refine takeH (i := 11) (v := .int .i64 ((k : Int) - 1)) rfl rfl (by kernel_rfl) (by kernel_rfl) (by kernel_rfl) (fun _ _ _ h => h) (Or.inl ⟨rfl, by intro w' _; generalize hE : Act.eval _ = ρ; have e24 : ρ (.tmp 24) = .int .i64 num := (by rw [← hE]; rfl); have e28 : ρ (.tmp 28) = .int .i64 (B.s.first : Int) := (by rw [← hE]; rfl); clear hE; go_simp⟩) hHeld ?_
  simp only [List.set_cons_zero, List.set_cons_succ]
  refine takeH (i := 12) (v := .int .i64 (k : Int)) rfl rfl (by kernel_rfl) (by kernel_rfl) (by kernel_rfl) (fun _ _ _ h => h) (Or.inl ⟨rfl, by intro w' _; generalize hE : Act.eval _ = ρ; have e29 : ρ (.tmp 29) = .int .i64 ((k : Int) - 1) := (by rw [← hE]; rfl); have ec : ρ (.const (.int .i64 1)) = .int .i64 1 := (by rw [← hE]; rfl); clear hE; go_simp⟩) hHeld ?_
  simp only [List.set_cons_zero, List.set_cons_succ]
  refine takeH (i := 13) (v := .slice (some ⟨g6, off, none⟩) (n - k) (cap - k)) rfl rfl (by kernel_rfl) (by kernel_rfl) (by kernel_rfl) (fun _ _ _ h => h) (Or.inl ⟨rfl, ?_⟩) hHeld ?_
  · intro w' _; generalize hE : Act.eval _ = ρ; have e23 : ρ (.tmp 23) = .slice (some ⟨g6, 0, none⟩) n cap := (by rw [← hE]; rfl); have e30 : ρ (.tmp 30) = .int .i64 (k : Int) := (by rw [← hE]; rfl); clear hE; by_cases hck : cap = k
    · rw [hoff1 hck]; go_simp; intro hlt; exact absurd hlt (by omega)
    · rw [hoff2 hck]; go_simp; intro hlt; exact absurd hlt (by omega)
  simp only [List.set_cons_zero, List.set_cons_succ]
  refine wpAnyH_ready (rs := [1]) (by kernel_rfl) (by simp) ?_
  refine AllReadyH.cons (nthL_get rfl) (fun K hK => ?_) AllReadyH.nil
  go_simp
  refine hK.out _ _ trivial (fun hHeld => ?_)
  clear hK K
  simp only [List.setIfInBounds_toArray, List.set_cons_zero, List.set_cons_succ]
  refine wpAnyH_ready (rs := [14]) (by kernel_rfl) (by simp) ?_
  refine AllReadyH.cons (nthL_get rfl) (fun K hK => ?_) AllReadyH.nil
  refine step_append_shown _ (by rfl) _ _ _ (by rfl) V.heap.size 82 i0 _ 3 32 Tryz.underlying34 hi0 hz0 hz1 hz2 rfl (by decide) V.heap.size (by rfl) HN.out.2.1 _ (n - k) (cap - k) (bcells (cm - k) (B.s.recs.drop k)) (by rfl) HN.out.2.2.2 HN.out.1 HN.out.2.2.1 hk63 hkb (by simp) ?_
  intro g7 cap7 w7 hown hg
  refine hK.out _ _ trivial (fun hHeld => ?_)
  clear hK K
  simp only [List.setIfInBounds_toArray, List.set_cons_zero, List.set_cons_succ]
  refine takeH (i := 15) (v := .pointer (some ⟨bb, 0, none⟩)) rfl rfl (by kernel_rfl) (by kernel_rfl) (by kernel_rfl) (fun _ _ _ h => h) (Or.inl ⟨rfl, by intro w' _; generalize hE : Act.eval _ = ρ; have e18 : ρ (.tmp 18) = .pointer (some ⟨bb, 0, none⟩) := (by rw [← hE]; rfl); clear hE; go_simp⟩) hHeld ?_
  simp only [List.set_cons_zero, List.set_cons_succ]
  refine takeH (i := 16) (v := .pointer (some ⟨bb, 6, none⟩)) rfl rfl (by kernel_rfl) (by kernel_rfl) (by kernel_rfl) (fun _ _ _ h => h) (Or.inl ⟨rfl, by intro w' _; generalize hE : Act.eval _ = ρ; have e33 : ρ (.tmp 33) = .pointer (some ⟨bb, 0, none⟩) := (by rw [← hE]; rfl); clear hE; go_simp⟩) hHeld ?_
  simp only [List.set_cons_zero, List.set_cons_succ]
  obtain ⟨k6, f7⟩ := HK.out w7 hg
  refine wpAnyH_ready (rs := [17]) (by kernel_rfl) (by simp) ?_
  refine AllReadyH.cons (nthL_get rfl) (fun K hK => ?_) AllReadyH.nil
  go_simp
  refine hK.out _ _ trivial (fun hHeld => ?_)
  clear hK K
  simp only [List.setIfInBounds_toArray, List.set_cons_zero, List.set_cons_succ]
  refine wpAnyH_done (by kernel_rfl) ?_ _
  have HP := Lib.hid (HFIN.out w7 g7 cap7 hg hown)
  clear hown hg k6 f7
  rotate_left
  go_simp
  refine hK.out _ _ trivial (fun hHeld => ?_)
  clear hK K
  simp only [List.setIfInBounds_toArray, List.set_cons_zero, List.set_cons_succ]
  refine takeH (i := 11) (v := .int .i64 ((k : Int) - 1)) rfl rfl (by kernel_rfl) (by kernel_rfl) (by kernel_rfl) (fun _ _ _ h => h) (Or.inl ⟨rfl, by intro w' _; generalize hE : Act.eval _ = ρ; have e24 : ρ (.tmp 24) = .int .i64 num := (by rw [← hE]; rfl); have e28 : ρ (.tmp 28) = .int .i64 (B.s.first : Int) := (by rw [← hE]; rfl); clear hE; go_simp⟩) hHeld ?_
  simp only [List.set_cons_zero, List.set_cons_succ]
  refine takeH (i := 12) (v := .int .i64 (k : Int)) rfl rfl (by kernel_rfl) (by kernel_rfl) (by kernel_rfl) (fun _ _ _ h => h) (Or.inl ⟨rfl, by intro w' _; generalize hE : Act.eval _ = ρ; have e29 : ρ (.tmp 29) = .int .i64 ((k : Int) - 1) := (by rw [← hE]; rfl); have ec : ρ (.const (.int .i64 1)) = .int .i64 1 := (by rw [← hE]; rfl); clear hE; go_simp⟩) hHeld ?_
  simp only [List.set_cons_zero, List.set_cons_succ]
  refine wpAnyH_ready (rs := [1, 5]) (by kernel_rfl) (by simp) ?_
  refine AllReadyH.cons (nthL_get rfl) (fun K hK => ?_) (AllReadyH.cons (nthL_get rfl) (fun K hK => ?_) AllReadyH.nil)
  go_simp
  refine hK.out _ _ trivial (fun hHeld => ?_)
  clear hK K
  simp only [List.setIfInBounds_toArray, List.set_cons_zero, List.set_cons_succ]
  refine wpAnyH_ready (rs := [5]) (by kernel_rfl) (by simp) ?_
  refine AllReadyH.cons (nthL_get rfl) (fun K hK => ?_) AllReadyH.nil
  go_simp
  refine hK.out _ _ trivial (fun hHeld => ?_)
  clear hK K
  simp only [List.setIfInBounds_toArray, List.set_cons_zero, List.set_cons_succ]
  refine takeH (i := 13) (v := .slice (some ⟨g6, off, none⟩) (n - k) (cap - k)) rfl rfl (by kernel_rfl) (by kernel_rfl) (by kernel_rfl) (fun _ _ _ h => h) (Or.inl ⟨rfl, ?_⟩) hHeld ?_
  · intro w' _; generalize hE : Act.eval _ = ρ; have e23 : ρ (.tmp 23) = .slice (some ⟨g6, 0, none⟩) n cap := (by rw [← hE]; rfl); have e30 : ρ (.tmp 30) = .int .i64 (k : Int) := (by rw [← hE]; rfl); clear hE; by_cases hck : cap = k
    · rw [hoff1 hck]; go_simp; intro hlt; exact absurd hlt (by omega)
    · rw [hoff2 hck]; go_simp; intro hlt; exact absurd hlt (by omega)
  simp only [List.set_cons_zero, List.set_cons_succ]
  refine wpAnyH_ready (rs := [14]) (by kernel_rfl) (by simp) ?_
  refine AllReadyH.cons (nthL_get rfl) (fun K hK => ?_) AllReadyH.nil
  refine step_append_shown _ (by rfl) _ _ _ (by rfl) V.heap.size 82 i0 _ 3 32 Tryz.underlying34 hi0 hz0 hz1 hz2 rfl (by decide) V.heap.size (by rfl) HN.out.2.1 _ (n - k) (cap - k) (bcells (cm - k) (B.s.recs.drop k)) (by rfl) HN.out.2.2.2 HN.out.1 HN.out.2.2.1 hk63 hkb (by simp) ?_
  intro g7 cap7 w7 hown hg
  refine hK.out _ _ trivial (fun hHeld => ?_)
  clear hK K
  simp only [List.setIfInBounds_toArray, List.set_cons_zero, List.set_cons_succ]
  refine takeH (i := 15) (v := .pointer (some ⟨bb, 0, none⟩)) rfl rfl (by kernel_rfl) (by kernel_rfl) (by kernel_rfl) (fun _ _ _ h => h) (Or.inl ⟨rfl, by intro w' _; generalize hE : Act.eval _ = ρ; have e18 : ρ (.tmp 18) = .pointer (some ⟨bb, 0, none⟩) := (by rw [← hE]; rfl); clear hE; go_simp⟩) hHeld ?_
  simp only [List.set_cons_zero, List.set_cons_succ]
  refine takeH (i := 16) (v := .pointer (some ⟨bb, 6, none⟩)) rfl rfl (by kernel_rfl) (by kernel_rfl) (by kernel_rfl) (fun _ _ _ h => h) (Or.inl ⟨rfl, by intro w' _; generalize hE : Act.eval _ = ρ; have e33 : ρ (.tmp 33) = .pointer (some ⟨bb, 0, none⟩) := (by rw [← hE]; rfl); clear hE; go_simp⟩) hHeld ?_
  simp only [List.set_cons_zero, List.set_cons_succ]
  obtain ⟨k6, f7⟩ := HK.out w7 hg
  refine wpAnyH_ready (rs := [17]) (by kernel_rfl) (by simp) ?_
  refine AllReadyH.cons (nthL_get rfl) (fun K hK => ?_) AllReadyH.nil
  go_simp
  refine hK.out _ _ trivial (fun hHeld => ?_)
  clear hK K
  simp only [List.setIfInBounds_toArray, List.set_cons_zero, List.set_cons_succ]
  refine wpAnyH_done (by kernel_rfl) ?_ _
  have HP := Lib.hid (HFIN.out w7 g7 cap7 hg hown)
  clear hown hg k6 f7
  rotate_left
  go_simp
  refine hK.out _ _ trivial (fun hHeld => ?_)
  clear hK K
  simp only [List.setIfInBounds_toArray, List.set_cons_zero, List.set_cons_succ]
  refine takeH (i := 13) (v := .slice (some ⟨g6, off, none⟩) (n - k) (cap - k)) rfl rfl (by kernel_rfl) (by kernel_rfl) (by kernel_rfl) (fun _ _ _ h => h) (Or.inl ⟨rfl, ?_⟩) hHeld ?_
  · intro w' _; generalize hE : Act.eval _ = ρ; have e23 : ρ (.tmp 23) = .slice (some ⟨g6, 0, none⟩) n cap := (by rw [← hE]; rfl); have e30 : ρ (.tmp 30) = .int .i64 (k : Int) := (by rw [← hE]; rfl); clear hE; by_cases hck : cap = k
    · rw [hoff1 hck]; go_simp; intro hlt; exact absurd hlt (by omega)
    · rw [hoff2 hck]; go_simp; intro hlt; exact absurd hlt (by omega)
  simp only [List.set_cons_zero, List.set_cons_succ]
  refine wpAnyH_ready (rs := [1]) (by kernel_rfl) (by simp) ?_
  refine AllReadyH.cons (nthL_get rfl) (fun K hK => ?_) AllReadyH.nil
  go_simp
  refine hK.out _ _ trivial (fun hHeld => ?_)
  clear hK K
  simp only [List.setIfInBounds_toArray, List.set_cons_zero, List.set_cons_succ]
  refine wpAnyH_ready (rs := [14]) (by kernel_rfl) (by simp) ?_
  refine AllReadyH.cons (nthL_get rfl) (fun K hK => ?_) AllReadyH.nil
  refine step_append_shown _ (by rfl) _ _ _ (by rfl) V.heap.size 82 i0 _ 3 32 Tryz.underlying34 hi0 hz0 hz1 hz2 rfl (by decide) V.heap.size (by rfl) HN.out.2.1 _ (n - k) (cap - k) (bcells (cm - k) (B.s.recs.drop k)) (by rfl) HN.out.2.2.2 HN.out.1 HN.out.2.2.1 hk63 hkb (by simp) ?_
  intro g7 cap7 w7 hown hg
  refine hK.out _ _ trivial (fun hHeld => ?_)
  clear hK K
  simp only [List.setIfInBounds_toArray, List.set_cons_zero, List.set_cons_succ]
  refine takeH (i := 15) (v := .pointer (some ⟨bb, 0, none⟩)) rfl rfl (by kernel_rfl) (by kernel_rfl) (by kernel_rfl) (fun _ _ _ h => h) (Or.inl ⟨rfl, by intro w' _; generalize hE : Act.eval _ = ρ; have e18 : ρ (.tmp 18) = .pointer (some ⟨bb, 0, none⟩) := (by rw [← hE]; rfl); clear hE; go_simp⟩) hHeld ?_
  simp only [List.set_cons_zero, List.set_cons_succ]
  refine takeH (i := 16) (v := .pointer (some ⟨bb, 6, none⟩)) rfl rfl (by kernel_rfl) (by kernel_rfl) (by kernel_rfl) (fun _ _ _ h => h) (Or.inl ⟨rfl, by intro w' _; generalize hE : Act.eval _ = ρ; have e33 : ρ (.tmp 33) = .pointer (some ⟨bb, 0, none⟩) := (by rw [← hE]; rfl); clear hE; go_simp⟩) hHeld ?_
  simp only [List.set_cons_zero, List.set_cons_succ]
  obtain ⟨k6, f7⟩ := HK.out w7 hg
  refine wpAnyH_ready (rs := [17]) (by kernel_rfl) (by simp) ?_
  refine AllReadyH.cons (nthL_get rfl) (fun K hK => ?_) AllReadyH.nil
  go_simp
  refine hK.out _ _ trivial (fun hHeld => ?_)
  clear hK K
  simp only [List.setIfInBounds_toArray, List.set_cons_zero, List.set_cons_succ]
  refine wpAnyH_done (by kernel_rfl) ?_ _
  have HP := Lib.hid (HFIN.out w7 g7 cap7 hg hown)
  clear hown hg k6 f7
  rotate_left
  all_goals
    obtain ⟨P1, P2, P3⟩ := HP.out
    obtain ⟨W8, hW8⟩ : ∃ W8, w7.setCell ⟨bb, 6, none⟩ (.slice (some ⟨g7, 0, none⟩) (n - k) cap7) = W8 := ⟨_, rfl⟩
    rw [hW8] at P1 P2 ⊢
    have b := P1.blk
    have p4 : W8.cell? ⟨bb, 4, none⟩ = _ := b.cell 4
    have p5 : W8.cell? ⟨bb, 5, none⟩ = _ := b.cell 5
    have p6 : W8.cell? ⟨bb, 6, none⟩ = _ := b.cell 6
    have z4 := b.frozen 4
    have z5 := b.frozen 5
    simp at p4 p5 p6
    have hgb : g7 ≠ bb := by have := HB.out.blk.lt; omega
    obtain ⟨bg, hbg⟩ : ∃ bg, rend B.s.beg (B.s.recs.take k) = bg := ⟨_, rfl⟩
    have hwd := hS.drop (k := k) (by omega)
    have hen : (B.s.drop k).en = B.s.en := JS.en_drop (by omega)
    have hel := hS.en_le
    rw [hnx] at hel
    have hbl : bg ≤ nx := by have h1 := hwd.beg_le; rw [hen] at h1; have h2 : (B.s.drop k).beg = bg := hbg; omega
    have hfoot : ∀ i, i ∈ bfoot bb g0 g1 ga (.slice (some ⟨g7, 0, none⟩) (n - k) cap7) → i ∈ bfoot bb g0 g1 ga (.slice (some ⟨g6, 0, none⟩) n cap) ∨ w.heap.size ≤ i := by
      intro i hi
      unfold bfoot at hi ⊢
      simp [Value.ownBlock] at hi ⊢
      rcases hi with rfl | rfl | rfl | rfl | rfl
      · exact .inl (.inl rfl)
      · exact .inl (.inr (.inl rfl))
      · exact .inl (.inr (.inr (.inl rfl)))
      · exact .inl (.inr (.inr (.inr (.inl rfl))))
      · exact .inr P3
    have HHD := Lib.hid (fun (W9 : World) (t9 : Turn [bb] W8 W9) (hb9 : Blk W9 bb 36 #[.slice (some ⟨g0, 0, none⟩) 256 c0, .slice (some ⟨g1, 0, none⟩) 256 c1, .slice (some ⟨ga, 0, none⟩) B.area.length ca, .int .i64 (B.s.h : Int), .int .i64 ((B.s.first + k : Nat) : Int), .int .i64 (bg : Int), .slice (some ⟨g7, 0, none⟩) (n - k) cap7]) => by
      have h9 := P1.reset t9 (f := B.s.first + k) (b := bg) hb9
      obtain ⟨B', hB'⟩ : ∃ B', ({ B with s := ⟨B.s.h, B.s.first + k, bg, B.s.recs.drop k, cm - k⟩ } : BS) = B' := ⟨_, rfl⟩
      have h9 : Bk W9 bb g0 g1 ga c0 c1 ca (.slice (some ⟨g7, 0, none⟩) (n - k) cap7) B' := by rw [← hB']; exact h9
      have e1 : B'.s.h = B.s.h := by rw [← hB']
      have e2 : B'.s.first = B.s.first + k := by rw [← hB']
      have e3 : B'.s.beg = bg := by rw [← hB']
      have e4 : B'.s.recs = B.s.recs.drop k := by rw [← hB']
      have e5 : B'.s.comm = cm - k := by rw [← hB']
      have e6 : B'.s.en = B.s.en := by
        rw [← hen]
        unfold JS.en
        rw [e3, e4, e5, ← hcm, ← hbg]
        rfl
      have hcall := bheader_any ⟨_, _, _, _, _, _, _, h9, rfl⟩ (by rw [e1]; omega) (by rw [e2]; omega) (by rw [e3]; omega) (by rw [e6]; omega) (by rw [e4, e5, hdl]; omega) (by rw [e4, hdl]; omega) (by rw [e4]; intro r hr; exact hch r (List.mem_of_mem_drop hr))
      have eh : BS.header B' B'.bump.s = BS.header B (B.s.drop k) := by
        rw [← hB']
        unfold JS.drop
        rw [hcm, hbg]
        rfl
      rw [eh] at hcall
      exact hcall.mono (fun e w' h => And.intro h.1 (BStep.join (G := bfoot bb g0 g1 ga (.slice (some ⟨g6, 0, none⟩) n cap)) (P2.trans t9 (fun i hi => .inl hi)) (by simp [bfoot]) hfoot h.2)))
    by_cases hnk : n = k
    case' pos =>
      have d3 : n - k = 0 := by omega
      have hbn : bg = nx := by rw [← hbg, ← hnx, List.take_of_length_le (by omega)]; rfl
      rw [hbn] at HHD
      have HBL := Lib.hid (show Blk _ bb _ _ from (b.set_ 4 (.int .i64 ((B.s.first + k : Nat) : Int))).set_ 5 (.int .i64 (nx : Int)))
      have HT := Lib.hid (((Turn.refl [bb] W8).setCell (p := ⟨bb, 4, none⟩) (.inl (by simp)) (.int .i64 ((B.s.first + k : Nat) : Int))).setCell (p := ⟨bb, 5, none⟩) (.inl (by simp)) (.int .i64 (nx : Int)))
      clear P1 P2 P3 b hfoot hwd hen hel hbl
      go_wp2_with ((go_at_call 33; refine (HHD.out _ HT.out HBL.out).mono ?_; rintro e w9 ⟨rfl, hst9⟩))
      go_ret
      exact ⟨rfl, hst9⟩
    case' neg =>
      have d3 : (0 < n - k) := by omega
      have hr0 : (B.s.recs.drop k)[0]? = some (B.s.recs.getD k (0, ⟨#[]⟩)) := by rw [List.getElem?_drop, Nat.add_zero, List.getD_eq_getElem?_getD, List.getElem?_eq_getElem (by omega)]; rfl
      have hr8 : W8.ownsRow 0 82 3 (.slice (some ⟨g7, 0, none⟩) (n - k) cap7) (B.s.recs.drop k).length (bcells (cm - k) (B.s.recs.drop k)) := P1.rs
      rw [hdl] at hr8
      obtain ⟨gg, hgg, _, k1, _⟩ := rec_cells hr8 hr0 (by omega)
      injection hgg with hgg
      injection hgg with hgg _ _
      subst hgg
      have hgk : B.s.recs[k]? = some (B.s.recs.getD k (0, ⟨#[]⟩)) := by rw [List.getD_eq_getElem?_getD, List.getElem?_eq_getElem (by omega)]; rfl
      rw [rec_pos hS.chain hgk, hbg, Nat.zero_mul, Nat.zero_add] at k1
      have HBL := Lib.hid (show Blk _ bb _ _ from ((b.set_ 4 (.int .i64 ((B.s.first + k : Nat) : Int))).set_ 5 (.int .i64 (nx : Int))).set_ 5 (.int .i64 (bg : Int)))
      have HT := Lib.hid ((((Turn.refl [bb] W8).setCell (p := ⟨bb, 4, none⟩) (.inl (by simp)) (.int .i64 ((B.s.first + k : Nat) : Int))).setCell (p := ⟨bb, 5, none⟩) (.inl (by simp)) (.int .i64 (nx : Int))).setCell (p := ⟨bb, 5, none⟩) (.inl (by simp)) (.int .i64 (bg : Int)))
      clear P1 P2 P3 b hfoot hwd hen hel hbl hr8 hr0 hgk
      go_wp2_with ((go_at_call 33; refine (HHD.out _ HT.out HBL.out).mono ?_; rintro e w9 ⟨rfl, hst9⟩))
      go_ret
      exact ⟨rfl, hst9⟩
end Go.Proofs.YtfdnpchbbngpjaaGreat
