/- Open. -/
import Derived.Test.YtfdnpchbbngpjaaGreatJfs
import Derived.Test.YtfdnpchbbngpjaaGreatJaq
import Derived.Test.YtfdnpchbbngpjaaGreatJpb
namespace Go.Proofs.YtfdnpchbbngpjaaGreat
open Go.RowKit Go.Maps Go.Shelf
attribute [local go_sem] Oper.semAt_some

theorem open_nil (w : World) : Calls Tryz.prog 20 #[.pointer none] w fun e w' => e = .returned (.tuple #[.pointer none, .int .i64 1]) ∧ w = w' := by
  go_enter Tryz.func20, Tryz.ntmps20
  go_wp2_with ((go_at_call 61; refine (check_nil _).mono ?_; rintro e w' ⟨rfl, rfl⟩))
  go_ret2
  exact ⟨rfl, rfl⟩
theorem open_chk {w : World} {vb : Nat} {st : VS} {F : List Nat} (hV : VolF w vb st F) (hc : st.chk ≠ 0) :
    Calls Tryz.prog 20 #[.pointer (some ⟨vb, 0, none⟩)] w fun e w' => e = .returned (.tuple #[.pointer none, .int .i64 (st.chk : Int)]) ∧ w = w' := by
  obtain ⟨c, hcc⟩ : ∃ c, st.chk = c := ⟨_, rfl⟩
  have e1 : ((c : Int) != 0) = true := by rw [bne_iff_ne]; omega
  have HC := Lib.hid (check_any hV)
  rw [hcc] at HC ⊢
  clear hcc hc
  go_enter Tryz.func20, Tryz.ntmps20
  go_wp2_with ((go_at_call 61; refine HC.out.mono ?_; rintro e w' ⟨rfl, rfl⟩))
  go_ret2
  exact ⟨rfl, rfl⟩
theorem findHd_bool {s0 s1 : List UInt8} {n : Nat} (h : (findHd s0 s1 n).2 = true) : (findHd s0 s1 n).1.small ∧ (findHd s0 s1 n).1.beg ≤ (findHd s0 s1 n).1.en ∧ (findHd s0 s1 n).1.en ≤ (findHd s0 s1 n).1.beg + n := by
  have key : ∀ {s : List UInt8} {k : Nat}, (readHd s k n).2 = true → (readHd s k n).1.small ∧ (readHd s k n).1.beg ≤ (readHd s k n).1.en ∧ (readHd s k n).1.en ≤ (readHd s k n).1.beg + n := by
    intro s k hk
    obtain ⟨h1, h2⟩ := readHd_bool hk
    unfold hdFits at h2
    simp at h2
    exact ⟨h1, h2.1.2, h2.2⟩
  unfold findHd at h ⊢
  split at h
  · rename_i hc
    simp only [hc, if_true]
    exact key (by simp at hc; exact hc.1)
  · rename_i hc
    simp only [hc]
    exact key h
theorem found_parts {st : VS} {m : Nat} (hw : st.wf) (hl : st.dur.length = m + 2) :
    st.found = if (findHd (st.sct 0) (st.sct 1) (256 * m)).2 then some ⟨(findHd (st.sct 0) (st.sct 1) (256 * m)).1.num, (findHd (st.sct 0) (st.sct 1) (256 * m)).1.first, (findHd (st.sct 0) (st.sct 1) (256 * m)).1.beg, fr st.area (findHd (st.sct 0) (st.sct 1) (256 * m)).1.en (findHd (st.sct 0) (st.sct 1) (256 * m)).1.beg (findHd (st.sct 0) (st.sct 1) (256 * m)).1.first,
      (fr st.area (findHd (st.sct 0) (st.sct 1) (256 * m)).1.en (findHd (st.sct 0) (st.sct 1) (256 * m)).1.beg (findHd (st.sct 0) (st.sct 1) (256 * m)).1.first).length⟩ else none := by
  have hA : st.area.length = 256 * m := by rw [hw.area, hl]; rfl
  unfold VS.found foundJ
  rw [hA]
set_option maxRecDepth 100000 in
set_option maxHeartbeats 4000000 in
theorem open_none {w : World} {vb : Nat} {st : VS} {F : List Nat} (hV : VolF w vb st F) (hd : st.down = false) {m : Nat} (hl : st.dur.length = m + 2) (hm : 1 ≤ m) (hf : st.found = none) :
    Calls Tryz.prog 20 #[.pointer (some ⟨vb, 0, none⟩)] w fun e w' => e = .returned (.tuple #[.pointer none, .int .i64 15]) ∧ Below w.heap.size w w' := by
  have hchk : st.chk = 0 := by unfold VS.chk; rw [hd, if_neg (by decide), if_neg (by omega)]
  have HC := Lib.hid hchk
  clear hchk
  rw [found_parts hV.wf hl] at hf
  obtain ⟨H, o, hH⟩ : ∃ H o, findHd (st.sct 0) (st.sct 1) (256 * m) = (H, o) := ⟨_, _, rfl⟩
  have hfind := fun (w : World) (tb : Nat) (hP : Pr w vb st tb F) => find_any hP hd hl
  rw [hH] at hf
  simp only [hH, hcells] at hfind
  have ho : o = false := by
    cases o with
    | false => rfl
    | true => simp at hf
  subst ho
  have HFD := Lib.hid hfind
  clear hfind hH hf
  have hP0 := Pr.new hV
  go_enter Tryz.func20, Tryz.ntmps20
  go_wp2_with (first
    | (go_at_call 61; refine (check_any hV).mono ?_; rw [HC.out]; rintro e w' ⟨rfl, rfl⟩)
    | (go_at_call 62; refine (HFD.out _ _ hP0).mono ?_; rintro e w1 ⟨rfl, hP1, ht1, _⟩))
  go_ret2
  refine ⟨rfl, ?_⟩
  have t1 : Turn [w.heap.size] w w1 := ((Turn.refl _ w).alloc _).trans ht1 (fun i hi => .inl hi)
  exact Turn.toBelow (t1.alloc _) (fun i hi => by simp at hi; omega) (Nat.le_refl _)

/-! ### the journal while its records are read -/
structure OpI (w2 : World) (jb vb tb : Nat) (H : Hd) (l : List Rc) (rv : Value) (W : World) : Prop where
  blk : Blk W jb 88 #[.pointer (some ⟨vb, 0, none⟩), .pointer (some ⟨tb, 0, none⟩), .int .i64 (H.num : Int), .int .i64 (H.first : Int), .int .i64 (H.beg : Int), .int .i64 (H.en : Int), rv, .int .i64 0, .int .i64 0, .int .i64 ((rend H.beg l : Nat) : Int), .bool false]
  row : W.ownsRow w2.heap.size 95 2 rv l.length (pcells l)
  turn : Turn [jb] w2 W
  low : jb < w2.heap.size
theorem own_cells {W W' : World} {row : Option Nat} {base e size n : Nat} {v : Value} {xs : List Value} (h : W.ownsRow base e size v n xs) (hg : W.grownBy W' row) (hr : ∀ r, row = some r → ∃ o : Obj, W.heap[r]? = some o ∧ o.isCells = false) : W'.ownsRow base e size v n xs := by
  obtain ⟨h1, h2⟩ := h
  refine ⟨h1, ?_⟩
  rcases h2 with h2 | ⟨g, cap, cur, rfl, hg0, hh, r⟩
  · exact .inl h2
  · refine .inr ⟨g, cap, cur, rfl, hg0, (hg.block g (Array.getElem?_eq_some_iff.1 hh).1 (fun e => ?_)).trans hh, r⟩
    obtain ⟨o, ho, hc⟩ := hr g e.symm
    rw [hh] at ho
    cases ho
    cases hc
theorem OpI.own {w2 A B : World} {jb vb tb : Nat} {H : Hd} {l : List Rc} {rv : Value} {row : Option Nat} (h : OpI w2 jb vb tb H l rv A) (hg : A.grownBy B row) (hr : ∀ r, row = some r → w2.heap.size ≤ r ∧ ∃ o : Obj, A.heap[r]? = some o ∧ o.isCells = false) : OpI w2 jb vb tb H l rv B :=
  ⟨h.blk.grown hg (fun e => by have := (hr jb e.symm).1; have := h.low; omega), own_cells h.row hg (fun r e => (hr r e).2), h.turn.grown hg (fun g e => .inr (hr g e).1), h.low⟩
theorem OpI.ne {w2 W : World} {jb vb tb : Nat} {H : Hd} {l : List Rc} {rv : Value} (h : OpI w2 jb vb tb H l rv W) : rv.ownBlock ≠ some jb := own_blk_ne h.row h.blk (by decide)
theorem OpI.keeps {w2 A B : World} {jb vb tb : Nat} {H : Hd} {l l' : List Rc} {rv rv' : Value} (h : OpI w2 jb vb tb H l rv A) (h' : OpI w2 jb vb tb H l' rv' B) (hs : A.heap.size ≤ B.heap.size) {X : List Nat} (hX : ∀ i, i ∈ X → i < w2.heap.size ∧ i ≠ jb) : KeepX X A B :=
  ⟨hs, fun i hi => (h'.turn.block i (hX i hi).1 (by simpa using (hX i hi).2)).trans (h.turn.block i (hX i hi).1 (by simpa using (hX i hi).2)).symm⟩
theorem OpI.pushed {w2 W W1 W2 : World} {jb vb tb : Nat} {H : Hd} {l : List Rc} {rv : Value} (h : OpI w2 jb vb tb H l rv W) (x : Rc) (hb : Below W.heap.size W W1) (hg : W1.grownBy W2 rv.ownBlock) {g cap : Nat}
    (hown : W2.ownsRow w2.heap.size 95 2 (.slice (some ⟨g, 0, none⟩) (l.length + 1) cap) (l.length + 1) (pcells l ++ [.int .i64 (x.1 : Int), .string x.2])) {u : Int} (hu : u = ((x.1 + 16 + x.2.size : Nat) : Int)) :
    OpI w2 jb vb tb H (l ++ [x]) (.slice (some ⟨g, 0, none⟩) (l.length + 1) cap) ((W2.setCell ⟨jb, 6, none⟩ (.slice (some ⟨g, 0, none⟩) (l.length + 1) cap)).setCell ⟨jb, 9, none⟩ (.int .i64 u)) := by
  have t0 : Turn [jb] w2 W1 := h.turn.below hb h.turn.size
  have hge : w2.heap.size ≤ g := (hown.lt g rfl).1
  have t1 : Turn [jb] w2 W2 := t0.grown hg (fun k hk => .inr (h.row.lt k hk).1)
  have hblk : Blk W2 jb _ _ := (h.blk.below hb h.blk.lt).grown hg (fun e => h.ne e.symm)
  have t2 : Turn [jb] W2 ((W2.setCell ⟨jb, 6, none⟩ (.slice (some ⟨g, 0, none⟩) (l.length + 1) cap)).setCell ⟨jb, 9, none⟩ (.int .i64 u)) := ((Turn.refl _ W2).setCell (p := ⟨jb, 6, none⟩) (.inl (by simp)) _).setCell (p := ⟨jb, 9, none⟩) (.inl (by simp)) _
  refine ⟨?_, ?_, t1.trans t2 (fun i hi => .inl hi), h.low⟩
  · rw [rend_snoc, ← hu]
    exact (hblk.set_ 6 _).set_ 9 _
  · rw [List.length_append, pcells_append]
    exact row_turn hown t2 (fun k hk => by
      have : k = g := by simpa [Value.ownBlock] using hk.symm
      have := h.low
      simp; omega)
def OpX (w2 : World) (jb vb tb : Nat) (H : Hd) (ys : List RcK) (W : World) : Prop := ∃ rv, OpI w2 jb vb tb H (ys.map (·.1)) rv W
theorem opX_own (w2 : World) (jb vb tb : Nat) (H : Hd) : OwnFrom w2.heap.size (OpX w2 jb vb tb H) := fun _ _ _ _ ⟨rv, h⟩ hg hr => ⟨rv, h.own hg hr⟩
theorem keepX_t {X : List Nat} {A B C : World} (h : KeepX X A B) (k : KeepX X B C) : KeepX X A C := ⟨Nat.le_trans h.1 k.1, fun i hi => (k.2 i hi).trans (h.2 i hi)⟩
theorem keepX_b {X : List Nat} {w : World} (hX : ∀ i, i ∈ X → i < w.heap.size) (W : World) (l : Nat) (o o' : Obj) (hl : w.heap.size ≤ l) (_ : W.heap[l]? = some o) (_ : o.isCells = false) (_ : o.isWalk = false) : KeepX X W (W.putObj l o') :=
  ⟨(grownBy_putObj' W l o').size, fun i hi => World.putObj_heap_other (by have := hX i hi; omega)⟩
/-- the record that a round has been given -/
def OpA (w2 : World) (jb : Nat) (frm : RcK → Nat → Array Value) (x : RcK) (a' : Act) (W : World) : Prop :=
  ∃ B9 rv, w2.heap.size ≤ B9 ∧ Blk W B9 95 #[.int .i64 (x.1.1 : Int), .string x.1.2] ∧ jb < w2.heap.size ∧ W.cell? ⟨jb, 6, none⟩ = some rv ∧ rv.ownBlock ≠ some B9 ∧ a' = { tmps := frm x B9, defers := [] }
theorem opA_own (w2 : World) (jb : Nat) (frm : RcK → Nat → Array Value) (x : RcK) (a' : Act) : OwnFrom w2.heap.size (fun (_ : Unit) W => OpA w2 jb frm x a' W) := fun _ X Y row ⟨B9, rv, h1, h2, h3, h4, h5, h6⟩ hg hr =>
  ⟨B9, rv, h1, h2.grown hg (fun e => by obtain ⟨_, o, ho, hc⟩ := hr _ e.symm; rw [show X.heap[B9]? = _ from h2] at ho; cases ho; cases hc), h3,
    (World.cell?_of_block (a := ⟨jb, 6, none⟩) (hg.block jb (by
      rcases Nat.lt_or_ge jb X.heap.size with hlt | hge
      · exact hlt
      · exfalso
        have := (Array.getElem?_eq_some_iff.1 h2).1
        omega) (fun e => by have := (hr jb e.symm).1; omega))).trans h4, h5, h6⟩
end Go.Proofs.YtfdnpchbbngpjaaGreat
namespace Go.Proofs.YtfdnpchbbngpjaaGreat
open Go.RowKit Go.Maps Go.Shelf
attribute [local go_sem] Oper.semAt_some

theorem six (w : World) (o1 o2 o3 o4 o5 o6 : Obj) (W : World) (hW : W = (((((w.alloc o1).alloc o2).alloc o3).alloc o4).alloc o5).alloc o6) :
    Below w.heap.size w W ∧ W.heap.size = w.heap.size + 6 ∧ W.heap[w.heap.size]? = some o1 ∧ W.heap[w.heap.size + 1]? = some o2 ∧ W.heap[w.heap.size + 1 + 1]? = some o3 ∧ W.heap[w.heap.size + 1 + 1 + 1]? = some o4 ∧ W.heap[w.heap.size + 1 + 1 + 1 + 1]? = some o5 ∧ W.heap[w.heap.size + 1 + 1 + 1 + 1 + 1]? = some o6 := by
  have hh : W.heap = (((((w.heap.push o1).push o2).push o3).push o4).push o5).push o6 := by rw [hW]; rfl
  refine ⟨?_, ?_, ?_, ?_, ?_, ?_, ?_, ?_⟩
  · rw [hW]
    exact ((((((Below.refl _ w).alloc (Nat.le_refl _) _).alloc (by simp) _).alloc (by simp; omega) _).alloc (by simp; omega) _).alloc (by simp; omega) _).alloc (by simp; omega) _
  all_goals
    rw [hh]
    simp only [Array.getElem?_push, Array.size_push]
    repeat (first | rw [if_pos trivial] | rw [if_pos (by omega)] | rw [if_neg (by omega)])
theorem cell_other {w : World} {a b : Addr} (v : Value) (h : a.block ≠ b.block) : (w.setCell b v).cell? a = w.cell? a := World.cell?_of_block (Below.heap_setCell w b v a.block h)
theorem row_isCells {w : World} {base e size n : Nat} {v : Value} {xs : List Value} (h : w.ownsRow base e size v n xs) : ∀ (j : Nat) (o : Obj), v.ownBlock = some j → w.heap[j]? = some o → o.isCells = true := by
  intro j o hj ho
  rcases h.2 with ⟨rfl, _⟩ | ⟨g, cap, cur, rfl, _, hh, _⟩
  · simp [Value.ownBlock] at hj
  · have : g = j := by simpa [Value.ownBlock] using hj
    subst this
    rw [hh] at ho
    cases ho
    rfl
theorem fr_few (A : List UInt8) (en p k : Nat) : (fr A en p k).length ≤ en - p := by
  fun_induction fr A en p k with
  | case1 => exact Nat.zero_le _
  | case2 p k h1 h2 ih =>
    unfold frFits at h2
    simp at h2
    simp only [List.length_cons]
    omega
  | case3 => exact Nat.zero_le _
theorem keepJ1 {W : World} {N R : Nat} {v6 v : Value} (h0 : W.cell? ⟨N + 1 + 1, 0, none⟩ = some (.pointer (some ⟨N + 1, 0, none⟩))) (h6 : W.cell? ⟨N + 1, 6, none⟩ = some v6) (h9 : W.cell? ⟨N + 1, 9, none⟩ = some (.int .i64 (R : Int))) :
    (W.setCell ⟨N + 1, 7, none⟩ v).drew.cell? ⟨N + 1 + 1, 0, none⟩ = some (Value.pointer (some ⟨N + 1, 0, none⟩)) ∧ (W.setCell ⟨N + 1, 7, none⟩ v).drew.cell? ⟨N + 1, 6, none⟩ = some v6 ∧ (W.setCell ⟨N + 1, 7, none⟩ v).drew.cell? ⟨N + 1, 9, none⟩ = some (Value.int .i64 (R : Int)) :=
  ⟨(World.cell?_setCell_other _ ⟨N + 1, 7, none⟩ ⟨N + 1 + 1, 0, none⟩ _ (by simp)).trans h0, (World.cell?_setCell_other _ ⟨N + 1, 7, none⟩ ⟨N + 1, 6, none⟩ _ (by simp)).trans h6, (World.cell?_setCell_other _ ⟨N + 1, 7, none⟩ ⟨N + 1, 9, none⟩ _ (by simp)).trans h9⟩
theorem keepJ2 {W : World} {N R : Nat} {v6 v u : Value} (h0 : W.cell? ⟨N + 1 + 1, 0, none⟩ = some (.pointer (some ⟨N + 1, 0, none⟩))) (h6 : W.cell? ⟨N + 1, 6, none⟩ = some v6) (h9 : W.cell? ⟨N + 1, 9, none⟩ = some (.int .i64 (R : Int))) :
    ((W.setCell ⟨N + 1, 7, none⟩ v).setCell ⟨N + 1, 8, none⟩ u).drew.cell? ⟨N + 1 + 1, 0, none⟩ = some (Value.pointer (some ⟨N + 1, 0, none⟩)) ∧ ((W.setCell ⟨N + 1, 7, none⟩ v).setCell ⟨N + 1, 8, none⟩ u).drew.cell? ⟨N + 1, 6, none⟩ = some v6 ∧ ((W.setCell ⟨N + 1, 7, none⟩ v).setCell ⟨N + 1, 8, none⟩ u).drew.cell? ⟨N + 1, 9, none⟩ = some (Value.int .i64 (R : Int)) :=
  ⟨(World.cell?_setCell_other _ ⟨N + 1, 8, none⟩ ⟨N + 1 + 1, 0, none⟩ _ (by simp)).trans ((World.cell?_setCell_other _ ⟨N + 1, 7, none⟩ ⟨N + 1 + 1, 0, none⟩ _ (by simp)).trans h0), (World.cell?_setCell_other _ ⟨N + 1, 8, none⟩ ⟨N + 1, 6, none⟩ _ (by simp)).trans ((World.cell?_setCell_other _ ⟨N + 1, 7, none⟩ ⟨N + 1, 6, none⟩ _ (by simp)).trans h6), (World.cell?_setCell_other _ ⟨N + 1, 8, none⟩ ⟨N + 1, 9, none⟩ _ (by simp)).trans ((World.cell?_setCell_other _ ⟨N + 1, 7, none⟩ ⟨N + 1, 9, none⟩ _ (by simp)).trans h9)⟩
theorem row_low {w : World} {B e size n : Nat} {v : Value} {xs : List Value} (h : w.ownsRow B e size v n xs) : w.ownsRow 0 e size v n xs := by
  obtain ⟨h1, h2⟩ := h
  refine ⟨h1, ?_⟩
  rcases h2 with h2 | ⟨g, cap, cur, rfl, _, r⟩
  · exact .inl h2
  · exact .inr ⟨g, cap, cur, rfl, Nat.zero_le _, r⟩
set_option maxRecDepth 100000 in
set_option maxHeartbeats 4000000 in
theorem open_yes {w : World} {vb : Nat} {st : VS} {F : List Nat} (hV : VolF w vb st F) (hd : st.down = false) {m : Nat} (hl : st.dur.length = m + 2) (hm : 1 ≤ m) (hm2 : m ≤ 64) {S : JS} (hf : st.found = some S) :
    Calls Tryz.prog 20 #[.pointer (some ⟨vb, 0, none⟩)] w fun e w' => ∃ jb tb rv hen, e = .returned (.tuple #[.pointer (some ⟨jb, 0, none⟩), .int .i64 0]) ∧ Jr w' jb vb tb S false rv hen ∧ Tb w' tb 1 0 crc8 ∧
      Below w.heap.size w w' ∧ w.heap.size ≤ tb ∧ (∀ i, i ∈ jfoot jb rv → w.heap.size ≤ i ∧ i ≠ tb) := by
  have hchk : st.chk = 0 := by unfold VS.chk; rw [hd, if_neg (by decide), if_neg (by omega)]
  have HC := Lib.hid hchk
  clear hchk
  rw [found_parts hV.wf hl] at hf
  have hfb := findHd_bool (s0 := st.sct 0) (s1 := st.sct 1) (n := 256 * m)
  obtain ⟨H, o, hH⟩ : ∃ H o, findHd (st.sct 0) (st.sct 1) (256 * m) = (H, o) := ⟨_, _, rfl⟩
  have hfind := fun (w : World) (tb : Nat) (hP : Pr w vb st tb F) => find_any hP hd hl
  rw [hH] at hf hfb
  simp only [hH, hcells] at hfind
  have ho : o = true := by
    cases o with
    | true => rfl
    | false => simp at hf
  subst ho
  simp only [if_true, Option.some.injEq] at hf
  have hsm := hfb rfl
  have HFD := Lib.hid hfind
  have HS := Lib.hid hf
  clear hfind hH hf hfb
  have hP0 := Pr.new hV
  have hlF := hV.lt
  have hA : st.area.length = 256 * m := by rw [hV.wf.area, hl]; rfl
  refine (callsIn_wide (n := 4)).1 ?_
  refine callsIn_of_wp_marks Tryz.func20 rfl trivial ?_ rfl
  simp only [Tryz.ntmps20, List.size_toArray, List.length_cons, List.length_nil, Nat.reduceAdd, Nat.reduceSub, Array.replicate_succ, Array.replicate_zero, List.push_toArray, List.append_toArray, List.nil_append, List.cons_append]
  gi_wp2_with (first
    | (refine ⟨trivial, ?_⟩; gi_at_call 61; refine (callsIn_wide.2 (check_any hV)).mono ?_; rw [HC.out]; rintro e w' ⟨rfl, rfl⟩)
    | (refine ⟨trivial, ?_⟩; gi_at_call 62; refine (callsIn_wide.2 (HFD.out _ _ hP0)).mono ?_; rintro e w1 ⟨rfl, hP1, ht1, hD1⟩)
    | (refine ⟨trivial, ?_⟩; gi_at_call 63; refine (frames_in _ _ _ _ _ _ _ _).mono ?_; rintro e w2 ⟨rfl, hw2⟩))
  --GEN--
  obtain ⟨N, hN⟩ : ∃ N, w1.heap.size = N := ⟨_, rfl⟩
  rw [hN] at hw2 ⊢
  obtain ⟨s0, s1, s2, s3, s4, s5, s6, s7⟩ := six w1 (.cells #[.int .i64 (H.num : Int), .int .i64 (H.first : Int), .int .i64 (H.beg : Int), .int .i64 (H.en : Int)] 85) _ _ _ _ _ w2 hw2
  rw [hN] at s0 s1 s2 s3 s4 s5 s6 s7
  rw [← hw2]
  have hP2 := hP1.below (hN ▸ s0)
  have htb0 : w.heap.size < N := by rw [← hN]; exact hP1.tab.lt
  obtain ⟨tb, htbe⟩ : ∃ tb, w.heap.size = tb := ⟨_, rfl⟩
  rw [htbe] at hP1 hP2 ht1 hD1 htb0 hw2 s3 s6 ⊢
  have hlF : ∀ i, i ∈ F → i < tb := fun i hi => by rw [← htbe]; exact hlF i hi
  have hTb2 : Tb w2 tb 1 0 crc8 := Blk.below (hD1 trivial) (hN ▸ s0) (Blk.lt (hD1 trivial))
  have hHeld2 : Held w2 (N + 1 + 1 + 1 + 1 + 1) (N + 1 + 1 + 1) (N + 1 + 1 + 1 + 1) vb tb H st F := ⟨s7, s5, s6, hP2.vol, hTb2⟩
  have hX : ∀ i, i ∈ holdX (N + 1 + 1 + 1 + 1 + 1) (N + 1 + 1 + 1) (N + 1 + 1 + 1 + 1) tb F → i < w2.heap.size ∧ i ≠ N + 1 := by
    intro i hi
    unfold holdX at hi
    simp only [List.mem_cons] at hi
    rcases hi with rfl | rfl | rfl | rfl | hi
    · omega
    · omega
    · omega
    · omega
    · have := hlF i hi; omega
  have hI0 : OpI w2 (N + 1) vb tb H [] (.slice none 0 0) w2 := ⟨s3, World.ownsRow_nil _ _ _ _, Turn.refl _ _, by omega⟩
  obtain ⟨i0, hi0, hz0, hz1, hz2⟩ := info_parts rec_info
  have HN := Lib.hid (fr_few st.area H.en H.beg H.first)
  have hbw2 : Below tb w w2 := by
    have t1 : Turn [tb] w w1 := ((Turn.refl _ w).alloc _).trans ht1 (fun i hi => .inl hi)
    exact (t1.toBelow (fun i hi => by simp at hi; omega) (by omega)).trans ((hN ▸ s0).mono (by omega))
  clear hw2 ht1 hD1 hP1 s2 s3 s5 s6 s7
  refine wpIn_rangeFunc_ownH rfl (by omega) (gf := 81) (lb := #[.pointer (some ⟨N + 1 + 1 + 1 + 1 + 1, 0, none⟩), .pointer (some ⟨N + 1 + 1 + 1, 0, none⟩), .pointer (some ⟨N + 1 + 1 + 1 + 1, 0, none⟩)]) rfl trivial (enters_of Tryz.func81 (by kernel_rfl) rfl)
    (frames_stops 3 (by omega) (N + 1 + 1 + 1 + 1 + 1) (N + 1 + 1 + 1) (N + 1 + 1 + 1 + 1) vb tb H hsm.1 hd hl hm w2 hHeld2) keepX_t (keepX_b (fun i hi => (hX i hi).1)) (Below.refl _ _) (fun _ => rfl)
    (OpX w2 (N + 1) vb tb H) (fun _ _ _ => False) (opX_own _ _ _ _ _) (fun c _ _ _ _ h => h.elim) ⟨_, hI0⟩
    (OpA w2 (N + 1) (fun x B9 => #[.pointer (some ⟨vb, 0, none⟩), undef, .pointer none, .int .i64 0, .int .i64 0, .pointer (some ⟨tb, 0, none⟩), .pointer (some ⟨N, 0, none⟩), .bool true, .pointer (some ⟨N + 1 + 1, 0, none⟩), .pointer (some ⟨B9, 0, none⟩), .pointer (some ⟨vb, 0, none⟩), .int .i64 0, .int .i64 0, .bool false, undef, .agg Tryz.zeroCells125, .pointer (some ⟨tb, 0, none⟩), .tuple #[.agg #[.int .i64 (H.num : Int), .int .i64 (H.first : Int), .int .i64 (H.beg : Int), .int .i64 (H.en : Int)], .bool true], .pointer (some ⟨vb, 0, none⟩), .pointer (some ⟨tb, 0, none⟩), .tuple #[.agg #[.int .i64 (H.num : Int), .int .i64 (H.first : Int), .int .i64 (H.beg : Int), .int .i64 (H.en : Int)], .bool true], .agg #[.int .i64 (H.num : Int), .int .i64 (H.first : Int), .int .i64 (H.beg : Int), .int .i64 (H.en : Int)], .bool true, .bool true, .bool false, .pointer (some ⟨vb, 0, none⟩), .pointer (some ⟨tb, 0, none⟩), .agg #[.int .i64 (H.num : Int), .int .i64 (H.first : Int), .int .i64 (H.beg : Int), .int .i64 (H.en : Int)], .pointer (some ⟨N, 2, none⟩), .int .i64 (H.beg : Int), .agg #[.pointer (some ⟨vb, 0, none⟩), .pointer (some ⟨tb, 0, none⟩), .int .i64 (H.num : Int), .int .i64 (H.first : Int), .int .i64 (H.beg : Int), .int .i64 (H.en : Int), .slice none 0 0, .int .i64 0, .int .i64 0, .int .i64 (H.beg : Int), .bool false], .pointer (some ⟨N + 1, 0, none⟩), .pointer (some ⟨vb, 0, none⟩), .pointer (some ⟨tb, 0, none⟩), .agg #[.int .i64 (H.num : Int), .int .i64 (H.first : Int), .int .i64 (H.beg : Int), .int .i64 (H.en : Int)], .func (.func 81) #[] #[.pointer (some ⟨N + 1 + 1 + 1 + 1 + 1, 0, none⟩), .pointer (some ⟨N + 1 + 1 + 1, 0, none⟩), .pointer (some ⟨N + 1 + 1 + 1 + 1, 0, none⟩)], .agg #[.int .i64 (x.1.1 : Int), .string x.1.2], undef, undef, undef, undef, undef, undef, undef, undef, undef, undef, undef, undef, undef, undef, undef, undef, undef, undef, undef, undef, undef, undef, undef, undef, undef, undef, undef, undef, undef, undef, undef, undef, undef, undef, undef, undef])) (opA_own _ _ _)
    ?assign ?body ?done ?stop
  case assign =>
    rintro l pre x W K ⟨rv, hI⟩ hK
    simp only [encR]
    gi_wp2
    have hal := hI.own (B := W.alloc (.cells #[.int .i64 (x.1.1 : Int), .string x.1.2] 95)) (row := none) (World.grownBy_alloc W _ none) (fun r e => by cases e)
    refine hK _ _ ((KeepsOthers.alloc _ _).from _) (hI.keeps hal (by simp) hX) ⟨rv, hal⟩ ⟨W.heap.size, rv, hI.turn.size, Blk.new W _ _, hI.low, ?_, ?_, rfl⟩
    · have := hal.blk.cell 6
      simpa using this
    · intro e
      have := (hI.row.lt _ e).2
      omega
  case body =>
    rintro l pre x a' W hl1 _ ⟨rv, hI⟩ ⟨B9, rv9, hB9, bX, _, hc9, hne9, rfl⟩ hlt
    have c6 := hI.blk.cell 6
    simp only [List.getElem?_toArray, List.getElem?_cons_succ, List.getElem?_cons_zero] at c6
    rw [c6] at hc9
    obtain rfl : rv = rv9 := by injection hc9
    obtain ⟨L, hL⟩ : ∃ L, pre.map (·.1) = L := ⟨_, rfl⟩
    rw [hL] at hI
    obtain ⟨ao, cap0, rfl⟩ := row_shape hI.row
    have hlow := hI.low
    have hWs : w2.heap.size ≤ W.heap.size := hI.turn.size
    have hB9l : B9 < W.heap.size := bX.lt
    have y8 : W.cell? ⟨N + 1 + 1, 0, none⟩ = some (.pointer (some ⟨N + 1, 0, none⟩)) := by
      rw [hI.turn.cell (p := ⟨N + 1 + 1, 0, none⟩) (by show N + 1 + 1 < _; omega) (by simp)]
      exact Blk.cell (w := w2) (t := 25) (cs := #[.pointer (some ⟨N + 1, 0, none⟩)]) s4 0
    have hS0 : (W.drew.cell? ⟨N + 1 + 1, 0, none⟩ = some (Value.pointer (some ⟨N + 1, 0, none⟩)) ∧ W.drew.cell? ⟨B9, 0, none⟩ = some (Value.int .i64 (x.1.1 : Int)) ∧ W.drew.cell? ⟨B9, 1, none⟩ = some (Value.string x.1.2)) := ⟨y8, bX.cell 0, bX.cell 1⟩
    have hb1 : Below W.heap.size W (W.alloc (.cells #[.int .i64 (x.1.1 : Int), .string x.1.2] 95)).drew := ((Below.refl _ W).alloc (Nat.le_refl _) _).drew
    have hS1 : ((W.alloc (.cells #[.int .i64 (x.1.1 : Int), .string x.1.2] 95)).drew.cell? ⟨N + 1 + 1, 0, none⟩ = some (Value.pointer (some ⟨N + 1, 0, none⟩)) ∧ (W.alloc (.cells #[.int .i64 (x.1.1 : Int), .string x.1.2] 95)).drew.cell? ⟨B9, 0, none⟩ = some (Value.int .i64 (x.1.1 : Int)) ∧ (W.alloc (.cells #[.int .i64 (x.1.1 : Int), .string x.1.2] 95)).drew.cell? ⟨B9, 1, none⟩ = some (Value.string x.1.2)) := ⟨(hb1.cell (p := ⟨N + 1 + 1, 0, none⟩) (by show N + 1 + 1 < _; omega)).trans y8, (hb1.cell (p := ⟨B9, 0, none⟩) hB9l).trans (bX.cell 0), (hb1.cell (p := ⟨B9, 1, none⟩) hB9l).trans (bX.cell 1)⟩
    have c6d : W.drew.cell? ⟨N + 1, 6, none⟩ = some (.slice ao L.length cap0) := c6
    have c61 : (W.alloc (.cells #[.int .i64 (x.1.1 : Int), .string x.1.2] 95)).drew.cell? ⟨N + 1, 6, none⟩ = some (.slice ao L.length cap0) := (hb1.cell (p := ⟨N + 1, 6, none⟩) (by show N + 1 < _; omega)).trans c6
    have f61 : (W.alloc (.cells #[.int .i64 (x.1.1 : Int), .string x.1.2] 95)).drew.frozen? ⟨N + 1, 6, none⟩ = false := ((hI.blk.below hb1 hI.blk.lt).frozen 6)
    have hr1 : (W.alloc (.cells #[.int .i64 (x.1.1 : Int), .string x.1.2] 95)).drew.ownsRow w2.heap.size 95 2 (.slice ao L.length cap0) L.length (pcells L) := row_turn hI.row (Turn.ofBelow (F := []) hb1 (Nat.le_refl _)) (fun _ _ => by simp)
    have hnw : (W.alloc (.cells #[.int .i64 (x.1.1 : Int), .string x.1.2] 95)).drew.heap[W.heap.size]? = some (.cells #[.int .i64 (x.1.1 : Int), .string x.1.2] 95 (0, 0)) := heap_alloc_new W _
    have hsz1 : (W.alloc (.cells #[.int .i64 (x.1.1 : Int), .string x.1.2] 95)).drew.heap.size = W.heap.size + 1 := by simp
    have hbas : w2.heap.size ≤ (W.alloc (.cells #[.int .i64 (x.1.1 : Int), .string x.1.2] 95)).drew.heap.size := by rw [hsz1]; omega
    have hSof : ∀ (W2 : World), (W.alloc (.cells #[.int .i64 (x.1.1 : Int), .string x.1.2] 95)).drew.grownBy W2 (Value.slice ao L.length cap0).ownBlock → (W2.cell? ⟨N + 1 + 1, 0, none⟩ = some (Value.pointer (some ⟨N + 1, 0, none⟩)) ∧ W2.cell? ⟨B9, 0, none⟩ = some (Value.int .i64 (x.1.1 : Int)) ∧ W2.cell? ⟨B9, 1, none⟩ = some (Value.string x.1.2)) := fun W2 hg =>
      ⟨(hg.cell_far ⟨N + 1 + 1, 0, none⟩ (by rw [hsz1]; show N + 1 + 1 < W.heap.size + 1; omega) (fun e => by have h1 : w2.heap.size ≤ N + 1 + 1 := (hI.row.lt _ e.symm).1; omega)).trans hS1.1, (hg.cell_far ⟨B9, 0, none⟩ (by rw [hsz1]; show B9 < W.heap.size + 1; omega) (fun e => hne9 e.symm)).trans hS1.2.1, (hg.cell_far ⟨B9, 1, none⟩ (by rw [hsz1]; show B9 < W.heap.size + 1; omega) (fun e => hne9 e.symm)).trans hS1.2.2⟩
    have hSset : ∀ (W2 : World), (W2.cell? ⟨N + 1 + 1, 0, none⟩ = some (Value.pointer (some ⟨N + 1, 0, none⟩)) ∧ W2.cell? ⟨B9, 0, none⟩ = some (Value.int .i64 (x.1.1 : Int)) ∧ W2.cell? ⟨B9, 1, none⟩ = some (Value.string x.1.2)) → ∀ v, ((W2.setCell ⟨N + 1, 6, none⟩ v).cell? ⟨N + 1 + 1, 0, none⟩ = some (Value.pointer (some ⟨N + 1, 0, none⟩)) ∧ (W2.setCell ⟨N + 1, 6, none⟩ v).cell? ⟨B9, 0, none⟩ = some (Value.int .i64 (x.1.1 : Int)) ∧ (W2.setCell ⟨N + 1, 6, none⟩ v).cell? ⟨B9, 1, none⟩ = some (Value.string x.1.2)) := fun W2 h v => ⟨(cell_other (a := ⟨N + 1 + 1, 0, none⟩) _ (by simp)).trans h.1, (cell_other (a := ⟨B9, 0, none⟩) _ (by show B9 ≠ N + 1; omega)).trans h.2.1, (cell_other (a := ⟨B9, 1, none⟩) _ (by show B9 ≠ N + 1; omega)).trans h.2.2⟩
    have hkeep : ∀ (W2 : World), (W.alloc (.cells #[.int .i64 (x.1.1 : Int), .string x.1.2] 95)).drew.grownBy W2 (Value.slice ao L.length cap0).ownBlock → ∀ u v, KeepsFrom w2.heap.size W ((W2.setCell ⟨N + 1, 6, none⟩ u).setCell ⟨N + 1, 9, none⟩ v) := fun W2 hg u v =>
      ((((KeepsOthers.alloc W _).trans (KeepsOthers.drew _)).trans (KeepsOthers.of_grownBy hg (row_isCells hr1))).trans ((KeepsOthers.setCell _ _ _).trans (KeepsOthers.setCell _ _ _))).from _
    have hpl : L.length ≤ 1048576 := by
      rw [← hL, List.length_map]
      have := HN.out
      omega
    have hok1 : x.1.1 < 281474976710656 := x.2.1
    have hok2 : x.1.2.size ≤ 65536 := x.2.2
    clear hl1 hc9 c6
    gi_wp2
    refine startR (k := 11) (S := (fun w' => w'.cell? ⟨N + 1 + 1, 0, none⟩ = some (Value.pointer (some ⟨N + 1, 0, none⟩)) ∧ w'.cell? ⟨B9, 0, none⟩ = some (Value.int .i64 (x.1.1 : Int)) ∧ w'.cell? ⟨B9, 1, none⟩ = some (Value.string x.1.2))) (by kernel_rfl) (by kernel_rfl) (by kernel_rfl) (by rintro ⟨_, _, h⟩; exact h) hS0 (fun hHeld => ?_)
    simp only [List.replicate_succ, List.replicate_zero]
    refine takeH (i := 0) (v := .pointer (some ⟨N + 1, 0, none⟩)) rfl rfl (by kernel_rfl) (by kernel_rfl) (by kernel_rfl) (fun _ _ _ h => h) (Or.inl ⟨rfl, by intro w' hSw; generalize hE : Act.eval _ = ρ; have e8 : ρ (.tmp 8) = .pointer (some ⟨N + 1 + 1, 0, none⟩) := (by rw [← hE]; rfl); clear hE; go_simp⟩) hHeld ?_
    simp only [List.set_cons_zero, List.set_cons_succ]
    refine takeH (i := 1) (v := .pointer (some ⟨N + 1, 0, none⟩)) rfl rfl (by kernel_rfl) (by kernel_rfl) (by kernel_rfl) (fun _ _ _ h => h) (Or.inl ⟨rfl, by intro w' hSw; generalize hE : Act.eval _ = ρ; have e8 : ρ (.tmp 8) = .pointer (some ⟨N + 1 + 1, 0, none⟩) := (by rw [← hE]; rfl); clear hE; go_simp⟩) hHeld ?_
    simp only [List.set_cons_zero, List.set_cons_succ]
    refine takeH (i := 2) (v := .pointer (some ⟨N + 1, 0, none⟩)) rfl rfl (by kernel_rfl) (by kernel_rfl) (by kernel_rfl) (fun _ _ _ h => h) (Or.inl ⟨rfl, by intro w' hSw; generalize hE : Act.eval _ = ρ; have e38 : ρ (.tmp 38) = .pointer (some ⟨N + 1, 0, none⟩) := (by rw [← hE]; rfl); clear hE; go_simp⟩) hHeld ?_
    simp only [List.set_cons_zero, List.set_cons_succ]
    refine takeH (i := 3) (v := .pointer (some ⟨N + 1, 6, none⟩)) rfl rfl (by kernel_rfl) (by kernel_rfl) (by kernel_rfl) (fun _ _ _ h => h) (Or.inl ⟨rfl, by intro w' hSw; generalize hE : Act.eval _ = ρ; have e39 : ρ (.tmp 39) = .pointer (some ⟨N + 1, 0, none⟩) := (by rw [← hE]; rfl); clear hE; go_simp⟩) hHeld ?_
    simp only [List.set_cons_zero, List.set_cons_succ]
    refine takeH (i := 5) (v := .agg #[.int .i64 (x.1.1 : Int), .string x.1.2]) rfl rfl (by kernel_rfl) (by kernel_rfl) (by kernel_rfl) (fun _ _ _ h => h) (Or.inl ⟨rfl, by intro w' hSw; generalize hE : Act.eval _ = ρ; have e9 : ρ (.tmp 9) = .pointer (some ⟨B9, 0, none⟩) := (by rw [← hE]; rfl); clear hE; go_simp⟩) hHeld ?_
    simp only [List.set_cons_zero, List.set_cons_succ]
    refine wpAnyH_ready (rs := [4, 6]) (by kernel_rfl) (by simp) ?_
    refine AllReadyH.cons (nthL_get rfl) (fun K hK => ?_) (AllReadyH.cons (nthL_get rfl) (fun K hK => ?_) AllReadyH.nil)
    · go_simp
      refine hK.out _ _ hHeld (fun hHeld => ?_)
      clear hK K
      simp only [List.setIfInBounds_toArray, List.set_cons_zero, List.set_cons_succ]
      refine wpAnyH_ready (rs := [6]) (by kernel_rfl) (by simp) ?_
      refine AllReadyH.cons (nthL_get rfl) (fun K hK => ?_) AllReadyH.nil
      go_simp
      refine hK.out _ _ hS1 (fun hHeld => ?_)
      clear hK K
      simp only [List.setIfInBounds_toArray, List.set_cons_zero, List.set_cons_succ]
      refine wpAnyH_ready (rs := [7]) (by kernel_rfl) (by simp) ?_
      refine AllReadyH.cons (nthL_get rfl) (fun K hK => ?_) AllReadyH.nil
      refine step_append_lies _ (by rfl) _ _ _ (by rfl) w2.heap.size 95 i0 _ 2 24 Tryz.underlying86 hi0 hz0 hz1 hz2 rfl (by omega) (.slice ao L.length cap0) L.length (pcells L) (by rfl) hr1 ⟨W.heap.size, 0, none⟩ 1 1 [.int .i64 (x.1.1 : Int), .string x.1.2] (by rfl) (by rfl) (World.news_of_block (cs := #[.int .i64 (x.1.1 : Int), .string x.1.2]) (t := 95) (fr := (0, 0)) hnw) (by simp [Value.oneCell']) (by omega) (by unfold maxLen; omega) (by omega) hbas (W.heap.size + 1) hsz1 ?_
      intro g cap W2 hown hg _ _
      have hS2 := hSof W2 hg
      refine hK.out _ _ hS2 (fun hHeld => ?_)
      clear hK K
      simp only [List.setIfInBounds_toArray, List.set_cons_zero, List.set_cons_succ]
      refine takeH (i := 8) (v := .pointer (some ⟨N + 1, 0, none⟩)) rfl rfl (by kernel_rfl) (by kernel_rfl) (by kernel_rfl) (fun _ _ _ h => h) (Or.inl ⟨rfl, by intro w' hSw; generalize hE : Act.eval _ = ρ; have e37 : ρ (.tmp 37) = .pointer (some ⟨N + 1, 0, none⟩) := (by rw [← hE]; rfl); clear hE; go_simp⟩) hHeld ?_
      simp only [List.set_cons_zero, List.set_cons_succ]
      refine takeH (i := 9) (v := .pointer (some ⟨N + 1, 6, none⟩)) rfl rfl (by kernel_rfl) (by kernel_rfl) (by kernel_rfl) (fun _ _ _ h => h) (Or.inl ⟨rfl, by intro w' hSw; generalize hE : Act.eval _ = ρ; have e45 : ρ (.tmp 45) = .pointer (some ⟨N + 1, 0, none⟩) := (by rw [← hE]; rfl); clear hE; go_simp⟩) hHeld ?_
      simp only [List.set_cons_zero, List.set_cons_succ]
      have k6 := (hg.cell_far ⟨N + 1, 6, none⟩ (by rw [hsz1]; show N + 1 < W.heap.size + 1; omega) (Ne.symm hI.ne)).trans c61
      have f6 := (hg.frozen_far ⟨N + 1, 6, none⟩ (by rw [hsz1]; show N + 1 < W.heap.size + 1; omega) (Ne.symm hI.ne)).trans f61
      refine wpAnyH_ready (rs := [10]) (by kernel_rfl) (by simp) ?_
      refine AllReadyH.cons (nthL_get rfl) (fun K hK => ?_) AllReadyH.nil
      go_simp
      refine hK.out _ _ (hSset W2 hS2 _) (fun hHeld => ?_)
      clear hK K
      simp only [List.setIfInBounds_toArray, List.set_cons_zero, List.set_cons_succ]
      refine wpAnyH_done (by kernel_rfl) ?_ _
      obtain ⟨q0, q1, q2⟩ := hHeld
      have hblk2 : Blk W2 (N + 1) _ _ := (hI.blk.below hb1 hI.blk.lt).grown hg (fun e => hI.ne e.symm)
      have hblk3 := hblk2.set_ 6 (.slice (some ⟨g, 0, none⟩) (L.length + 1) cap)
      have k9 := hblk3.cell 9
      have f9 := hblk3.frozen 9
      simp at k9
      gi_wp2
      have hu : ((x.1.1 : Int) + 16 + (x.1.2.size : Int)) = ((x.1.1 + 16 + x.1.2.size : Nat) : Int) := by omega
      have hP := hI.pushed x.1 hb1 hg hown hu
      have hkf : KeepsFrom w2.heap.size W ((W2.setCell ⟨N + 1, 6, none⟩ (.slice (some ⟨g, 0, none⟩) (L.length + 1) cap)).setCell ⟨N + 1, 9, none⟩ (.int .i64 ((x.1.1 : Int) + 16 + (x.1.2.size : Int)))) := hkeep W2 hg _ _
      refine ⟨hkf, hI.keeps hP hkf.size hX, .slice (some ⟨g, 0, none⟩) (L.length + 1) cap, ?_⟩
      rw [List.map_append, hL]
      exact hP
    · go_simp
      refine hK.out _ _ hS1 (fun hHeld => ?_)
      clear hK K
      simp only [List.setIfInBounds_toArray, List.set_cons_zero, List.set_cons_succ]
      refine wpAnyH_ready (rs := [4]) (by kernel_rfl) (by simp) ?_
      refine AllReadyH.cons (nthL_get rfl) (fun K hK => ?_) AllReadyH.nil
      go_simp
      refine hK.out _ _ hHeld (fun hHeld => ?_)
      clear hK K
      simp only [List.setIfInBounds_toArray, List.set_cons_zero, List.set_cons_succ]
      refine wpAnyH_ready (rs := [7]) (by kernel_rfl) (by simp) ?_
      refine AllReadyH.cons (nthL_get rfl) (fun K hK => ?_) AllReadyH.nil
      refine step_append_lies _ (by rfl) _ _ _ (by rfl) w2.heap.size 95 i0 _ 2 24 Tryz.underlying86 hi0 hz0 hz1 hz2 rfl (by omega) (.slice ao L.length cap0) L.length (pcells L) (by rfl) hr1 ⟨W.heap.size, 0, none⟩ 1 1 [.int .i64 (x.1.1 : Int), .string x.1.2] (by rfl) (by rfl) (World.news_of_block (cs := #[.int .i64 (x.1.1 : Int), .string x.1.2]) (t := 95) (fr := (0, 0)) hnw) (by simp [Value.oneCell']) (by omega) (by unfold maxLen; omega) (by omega) hbas (W.heap.size + 1) hsz1 ?_
      intro g cap W2 hown hg _ _
      have hS2 := hSof W2 hg
      refine hK.out _ _ hS2 (fun hHeld => ?_)
      clear hK K
      simp only [List.setIfInBounds_toArray, List.set_cons_zero, List.set_cons_succ]
      refine takeH (i := 8) (v := .pointer (some ⟨N + 1, 0, none⟩)) rfl rfl (by kernel_rfl) (by kernel_rfl) (by kernel_rfl) (fun _ _ _ h => h) (Or.inl ⟨rfl, by intro w' hSw; generalize hE : Act.eval _ = ρ; have e37 : ρ (.tmp 37) = .pointer (some ⟨N + 1, 0, none⟩) := (by rw [← hE]; rfl); clear hE; go_simp⟩) hHeld ?_
      simp only [List.set_cons_zero, List.set_cons_succ]
      refine takeH (i := 9) (v := .pointer (some ⟨N + 1, 6, none⟩)) rfl rfl (by kernel_rfl) (by kernel_rfl) (by kernel_rfl) (fun _ _ _ h => h) (Or.inl ⟨rfl, by intro w' hSw; generalize hE : Act.eval _ = ρ; have e45 : ρ (.tmp 45) = .pointer (some ⟨N + 1, 0, none⟩) := (by rw [← hE]; rfl); clear hE; go_simp⟩) hHeld ?_
      simp only [List.set_cons_zero, List.set_cons_succ]
      have k6 := (hg.cell_far ⟨N + 1, 6, none⟩ (by rw [hsz1]; show N + 1 < W.heap.size + 1; omega) (Ne.symm hI.ne)).trans c61
      have f6 := (hg.frozen_far ⟨N + 1, 6, none⟩ (by rw [hsz1]; show N + 1 < W.heap.size + 1; omega) (Ne.symm hI.ne)).trans f61
      refine wpAnyH_ready (rs := [10]) (by kernel_rfl) (by simp) ?_
      refine AllReadyH.cons (nthL_get rfl) (fun K hK => ?_) AllReadyH.nil
      go_simp
      refine hK.out _ _ (hSset W2 hS2 _) (fun hHeld => ?_)
      clear hK K
      simp only [List.setIfInBounds_toArray, List.set_cons_zero, List.set_cons_succ]
      refine wpAnyH_done (by kernel_rfl) ?_ _
      obtain ⟨q0, q1, q2⟩ := hHeld
      have hblk2 : Blk W2 (N + 1) _ _ := (hI.blk.below hb1 hI.blk.lt).grown hg (fun e => hI.ne e.symm)
      have hblk3 := hblk2.set_ 6 (.slice (some ⟨g, 0, none⟩) (L.length + 1) cap)
      have k9 := hblk3.cell 9
      have f9 := hblk3.frozen 9
      simp at k9
      gi_wp2
      have hu : ((x.1.1 : Int) + 16 + (x.1.2.size : Int)) = ((x.1.1 + 16 + x.1.2.size : Nat) : Int) := by omega
      have hP := hI.pushed x.1 hb1 hg hown hu
      have hkf : KeepsFrom w2.heap.size W ((W2.setCell ⟨N + 1, 6, none⟩ (.slice (some ⟨g, 0, none⟩) (L.length + 1) cap)).setCell ⟨N + 1, 9, none⟩ (.int .i64 ((x.1.1 : Int) + 16 + (x.1.2.size : Int)))) := hkeep W2 hg _ _
      refine ⟨hkf, hI.keeps hP hkf.size hX, .slice (some ⟨g, 0, none⟩) (L.length + 1) cap, ?_⟩
      rw [List.map_append, hL]
      exact hP
  case done =>
    rintro D ys W hD hys ⟨rv, hI⟩ hK
    obtain ⟨L, hL⟩ : ∃ L, ys.map (·.1) = L := ⟨_, rfl⟩
    simp only [hL] at hI hys
    have hlow := hI.low
    have hpl : L.length ≤ 1048576 := by
      rw [hys]
      have h1 := HN.out
      obtain ⟨_, h2, h3⟩ := hsm
      omega
    obtain ⟨R, hR⟩ : ∃ R, rend H.beg L = R := ⟨_, rfl⟩
    obtain ⟨ao, cap0, rfl⟩ := row_shape hI.row
    have hblk := hI.blk
    rw [hR] at hblk
    have y8 : W.cell? ⟨N + 1 + 1, 0, none⟩ = some (.pointer (some ⟨N + 1, 0, none⟩)) := by
      rw [hI.turn.cell (p := ⟨N + 1 + 1, 0, none⟩) (by show N + 1 + 1 < _; omega) (by simp)]
      exact Blk.cell (w := w2) (t := 25) (cs := #[.pointer (some ⟨N + 1, 0, none⟩)]) s4 0
    have c6 := hblk.cell 6
    have c7 := hblk.cell 7
    have c8 := hblk.cell 8
    have c9 := hblk.cell 9
    have f7 := hblk.frozen 7
    have f8 := hblk.frozen 8
    simp at c6 c7 c8 c9
    have HI := Lib.hid (And.intro hI (And.intro hblk (And.intro hys (And.intro hL hK))))
    have HT := Lib.hid hTb2
    clear hI hblk hK hHeld2 hI0 hX hTb2 hys hL
    gi_wp2
    refine wpIn_wide.2 ?_
    go_region_held3 (fun w' => w'.cell? ⟨N + 1 + 1, 0, none⟩ = some (Value.pointer (some ⟨N + 1, 0, none⟩)) ∧ w'.cell? ⟨N + 1, 6, none⟩ = some (Value.slice ao L.length cap0) ∧ w'.cell? ⟨N + 1, 9, none⟩ = some (Value.int .i64 (R : Int)))
      (first | with_reducible exact keepJ1 y8 c6 c9 | with_reducible exact keepJ2 y8 c6 c9 | go_keep) (fail)
    obtain ⟨q8, q6, q9⟩ := keepJ2 (v := .int .i64 (L.length : Int)) (u := .int .i64 (R : Int)) y8 c6 c9
    gi_wp2
    obtain ⟨hI, hblk, hys, hL, hK⟩ := HI.out
    have hDn : N + 1 ≠ D := by omega
    have hK1 := ((KeepsOthers.setCell W ⟨N + 1, 7, none⟩ (.int .i64 (L.length : Int))).trans (KeepsOthers.setCell _ ⟨N + 1, 8, none⟩ (.int .i64 (R : Int)))).same D _ hK rfl
    refine ⟨by simp, .inl ⟨_, _, rfl, run_takeDeferred hK1, ?_⟩⟩
    refine ⟨.tuple #[.pointer (some ⟨N + 1, 0, none⟩), .int .i64 0], by simp [results, Tryz.f20, go_sem], ?_⟩
    obtain ⟨W5, hW5⟩ : ∃ W5, ((W.setCell ⟨N + 1, 7, none⟩ (.int .i64 (L.length : Int))).setCell ⟨N + 1, 8, none⟩ (.int .i64 (R : Int))).drew = W5 := ⟨_, rfl⟩
    have hb5 := (hblk.set_ 7 (.int .i64 (L.length : Int))).set_ 8 (.int .i64 (R : Int))
    have t5 : Turn [N + 1] W W5 := by
      rw [← hW5]
      exact (((Turn.refl _ W).setCell (p := ⟨N + 1, 7, none⟩) (.inl (by simp)) _).setCell (p := ⟨N + 1, 8, none⟩) (.inl (by simp)) _).drew
    have hK5 : W5.heap[D]? = some (.deferred (some [])) := by rw [← hW5]; exact hK1
    have hb5' := hb5.drew
    rw [hW5] at hb5'
    rw [hW5]
    have hgr := grownBy_putObj' W5 D (.deferred none)
    have hr5 := row_turn hI.row t5 (fun g hg => by have := (hI.row.lt g hg).1; simp; omega)
    have hr6 := own_cells hr5 hgr (fun r e => by cases e; exact ⟨_, hK5, rfl⟩)
    refine ⟨N + 1, tb, .slice ao L.length cap0, H.en, rfl, ⟨?_, by rw [← HS.out, ← hys]; exact row_low hr6⟩, ?_, ?_, by omega, ?_⟩
    · have := hb5'.grown hgr (fun e => hDn (by simpa using e))
      have e1 : S.comm = L.length := by rw [← HS.out, hys]
      have e2 : S.en = R := by rw [← hR, hys, ← HS.out]; show rend H.beg ((fr st.area H.en H.beg H.first).take (fr st.area H.en H.beg H.first).length) = _; rw [List.take_length]
      have e3 : S.next = R := by rw [← hR, hys, ← HS.out]; rfl
      rw [e1, e2, e3, ← HS.out]
      exact this
    · have ht6 : Turn [N + 1] w2 W5 := hI.turn.trans t5 (fun i hi => .inl hi)
      exact Blk.grown (Blk.turn HT.out ht6 (by simp; omega)) hgr (by simp; omega)
    · have ht6 : Turn [N + 1] w2 W5 := hI.turn.trans t5 (fun i hi => .inl hi)
      rw [htbe]
      exact (hbw2.trans (ht6.toBelow (fun i hi => by simp at hi; omega) (by omega))).grown hgr (by have := hbw2.size; have := ht6.size; omega) (fun k hk => by cases hk; omega)
    · intro i hi
      unfold jfoot at hi
      rcases List.mem_cons.1 hi with rfl | hi
      · omega
      · have := (hI.row.lt i (by simpa using hi)).1
        omega
  case stop =>
    rintro D c pre W hD hpre h hK
    exact h.elim
end Go.Proofs.YtfdnpchbbngpjaaGreat
