/- Commit. -/
import Derived.Test.YtfdnpchbbngpjaaGreatJcv
import Derived.Test.YtfdnpchbbngpjaaGreatJaq
import Derived.Test.YtfdnpchbbngpjaaGreatJwd
import Derived.BigRegion
namespace Go.Proofs.YtfdnpchbbngpjaaGreat
attribute [local go_sem ↓] Go.wp_at_zero Go.wp_at_succ
open Go.RowKit Go.Maps

set_option maxRecDepth 100000 in
theorem commit_nil (w : World) : Calls Tryz.prog 16 #[.pointer none] w fun e w' => e = .returned (.int .i64 1) ∧ w = w' := by
  go_enter Tryz.func16, Tryz.ntmps16
  go_wp2_with ((go_at_call 46; refine (state_nil _).mono ?_; rintro e w1 ⟨rfl, rfl⟩))
  go_ret
  exact ⟨rfl, rfl⟩
set_option maxRecDepth 100000 in
theorem commit_broken {w : World} {jb vb tb : Nat} {S : JS} {rv : Value} {hen : Nat} (h : Jr w jb vb tb S true rv hen) : Calls Tryz.prog 16 #[.pointer (some ⟨jb, 0, none⟩)] w fun e w' => e = .returned (.int .i64 38) ∧ w = w' := by
  have hst := state_any h
  simp only [if_true] at hst
  have HST := Lib.hid hst
  clear hst h
  go_enter Tryz.func16, Tryz.ntmps16
  go_wp2_with ((go_at_call 46; refine HST.out.mono ?_; rintro e w1 ⟨rfl, rfl⟩))
  go_ret
  exact ⟨rfl, rfl⟩
set_option maxRecDepth 100000 in
theorem commit_none {w : World} {jb vb tb : Nat} {S : JS} {rv : Value} {hen : Nat} (h : Jr w jb vb tb S false rv hen) (hc : S.comm = S.recs.length) :
    Calls Tryz.prog 16 #[.pointer (some ⟨jb, 0, none⟩)] w fun e w' => e = .returned (.int .i64 0) ∧ ∃ n, w' = w.drewN n := by
  have hst := state_any h
  simp only [Bool.false_eq_true, if_false] at hst
  have HST := Lib.hid hst
  obtain ⟨ao, cap, rfl⟩ := row_shape h.row
  have c6 := h.blk.cell 6
  have c7 := h.blk.cell 7
  simp at c6 c7
  rw [hc] at c7
  clear hst h
  go_enter Tryz.func16, Tryz.ntmps16
  go_wp2_with ((go_at_call 46; refine HST.out.mono ?_; rintro e w1 ⟨rfl, rfl⟩))
  go_quiet (fail)
  go_wp2_with fail
  go_ret
  exact ⟨rfl, _, rfl⟩
theorem ring_made (w : World) (vb m : Nat) (A : List UInt8) (hA : A.length = 256 * m) :
    Rng ((w.alloc (.map #[] 0)).alloc (.cells #[.pointer (some ⟨vb, 0, none⟩), .slice none 0 0, .map (some w.heap.size), .int .i64 0] 93)) w.heap.size (w.heap.size + 1) w.heap.size vb (.slice none 0 0) [] A A m := by
  have h0 := World.ownsMap_made (H := Unit) w Tryz.prog 3 RB
  have hb := Blk.new (w.alloc (.map #[] 0)) 93 #[.pointer (some ⟨vb, 0, none⟩), .slice none 0 0, .map (some w.heap.size), .int .i64 0]
  rw [World.size_alloc] at hb
  exact ⟨hb, World.ownsRow_nil _ _ _ _, ⟨_, h0.alloc _, fun k => rfl⟩, ⟨by omega, Nat.le_refl _⟩, (fun p hp => by cases hp), by simp, by simp, fun k _ _ => rfl, hA, hA⟩
theorem chain_get {q : Nat} {l : List Rc} (h : Chain q l) {i : Nat} {x : Rc} (hx : l[i]? = some x) : q ≤ x.1 ∧ x.2.size ≤ 65536 ∧ x.1 + 16 + x.2.size ≤ rend q l := by
  induction l generalizing q i with
  | nil => simp at hx
  | cons r t ih =>
    obtain ⟨h1, h2, h3⟩ := h
    subst h1
    have hge := rend_ge h3
    cases i with
    | zero =>
      simp at hx
      subst hx
      simp only [rend]
      exact ⟨by omega, h2, by omega⟩
    | succ i =>
      obtain ⟨a, b, c⟩ := ih h3 (i := i) (by simpa using hx)
      simp only [rend]
      exact ⟨by omega, b, c⟩
theorem JV.failed {w w' : World} {jb vb tb : Nat} {S : JS} {br br' : Bool} {rv : Value} {hen : Nat} {st : VS} {F : List Nat} (h : JV w jb vb tb S br rv hen st F) (hj : Jr w' jb vb tb S br' rv hen) (ht : Turn [jb] w w') : JV w' jb vb tb S br' rv hen st F :=
  ⟨hj, h.v.turn ht (fun i hi => by simp; rintro rfl; exact h.jF i (by simp [jfoot]) hi), Blk.turn h.t ht (by simp; rintro e; exact h.jt (by simp [jfoot, e])), h.jF, h.jt, h.tF⟩
theorem StepP.turn {F : List Nat} {w w' : World} {vb tb : Nat} {st : VS} (h : StepP F w w' vb st tb) : Turn (tb :: F) w w' := by
  obtain ⟨_, _, h, _⟩ := h
  exact h
/-- a header is put -/
theorem JV.put {w w' : World} {jb vb tb : Nat} {S : JS} {br : Bool} {rv : Value} {hen : Nat} {st st' : VS} {F : List Nat} (h : JV w jb vb tb S br rv hen st F) (hs : StepP F w w' vb st' tb) (hT : Tb w' tb 1 0 crc8) :
    ∃ F', JV w' jb vb tb S br rv hen st' F' ∧ Turn (tb :: F) w w' ∧ ∀ i, i ∈ F' → i ∈ F ∨ w.heap.size ≤ i := by
  obtain ⟨F', hP, ht, hf⟩ := hs
  refine ⟨F', ⟨h.j.turn ht (fun i hi => ?_), hP.vol, hT, fun i hi hi2 => ?_, h.jt, hP.off⟩, ht, hf⟩
  · simp
    exact ⟨fun e => h.jt (e ▸ hi), h.jF i hi⟩
  · rcases hf i hi2 with e | e
    · exact h.jF i hi e
    · have := h.j.lt i hi; omega
set_option maxRecDepth 100000 in
set_option maxHeartbeats 8000000 in
theorem commit_go {w : World} {jb vb tb : Nat} {S : JS} {rv : Value} {hen : Nat} {st : VS} {F : List Nat} (h : JV w jb vb tb S false rv hen st F) (hd : st.down = false) {m c : Nat} (hl : st.dur.length = m + 2) (hm : 1 ≤ m) (hm2 : m ≤ 64)
    (hS : S.wf (256 * m) c) (hc : c + 1 ≤ 1048576) (hlt : S.comm < S.recs.length) :
    Calls Tryz.prog 16 #[.pointer (some ⟨jb, 0, none⟩)] w fun e w' => ∃ L, RingOK st.area (puts st.area (S.first + S.comm) (S.recs.drop S.comm)) m L ∧ e = .returned (.int .i64 ((st.commitV L S.commit.hd).1 : Int)) ∧
      StepV w w' jb vb tb rv F (if (st.commitV L S.commit.hd).1 = 0 then S.commit else S) ((st.commitV L S.commit.hd).1 == 36) (st.commitV L S.commit.hd).2 := by
  have hA : st.area.length = 256 * m := by rw [h.v.wf.area, hl]; rfl
  have hst := state_any h.j
  simp only [Bool.false_eq_true, if_false] at hst
  have HST := Lib.hid hst
  obtain ⟨n, hn⟩ : ∃ n, S.recs.length = n := ⟨_, rfl⟩
  obtain ⟨ao, cap, rfl⟩ := row_shape h.j.row
  rw [hn] at h hlt ⊢
  have hnb : n ≤ 1048576 := by have := hS.nums; omega
  have c0 := h.j.blk.cell 0
  have c6 := h.j.blk.cell 6
  have c7 := h.j.blk.cell 7
  simp at c0 c6 c7
  have e7 : ((S.comm : Int) == (n : Int)) = false := by rw [beq_eq_false_iff_ne]; omega
  clear hst
  go_enter Tryz.func16, Tryz.ntmps16
  go_wp2_with ((go_at_call 46; refine HST.out.mono ?_; rintro e w1 ⟨rfl, rfl⟩))
  go_quiet (fail)
  obtain ⟨W0, hW0⟩ : ∃ W0, w.drewN nq = W0 := ⟨_, rfl⟩
  have hb0 : Below w.heap.size w W0 := by rw [← hW0]; exact below_drewN (Below.refl _ _)
  rw [hW0]
  have h0 := h.below hb0
  have HSZ := Lib.hid (show W0.heap.size = w.heap.size by rw [← hW0]; rfl)
  clear hW0 c0 c6 c7
  have c0 := h0.j.blk.cell 0
  have c7 := h0.j.blk.cell 7
  simp at c0 c7
  have hmm := @run_makeMap Tryz.prog
  have hlj := h0.j.blk.lt
  have k7 : ((W0.alloc (.map #[] 0)).alloc (.cells #[.pointer (some ⟨vb, 0, none⟩), .slice none 0 0, .map (some W0.heap.size), .int .i64 0] 93)).cell? ⟨jb, 7, none⟩ = some (.int .i64 (S.comm : Int)) :=
    ((((Below.refl _ W0).alloc (Nat.le_refl _) _).alloc (by simp) _).cell (p := ⟨jb, 7, none⟩) hlj).trans c7
  go_wp2_with fail
  clear c0 c7 k7 HST e7
  have hring := ring_made W0 vb m st.area hA
  have hbm : Below W0.heap.size W0 ((W0.alloc (.map #[] 0)).alloc (.cells #[.pointer (some ⟨vb, 0, none⟩), .slice none 0 0, .map (some W0.heap.size), .int .i64 0] 93)) := ((Below.refl _ W0).alloc (Nat.le_refl _) _).alloc (by simp) _
  obtain ⟨W1, hW1⟩ : ∃ W1, ((W0.alloc (.map #[] 0)).alloc (.cells #[.pointer (some ⟨vb, 0, none⟩), .slice none 0 0, .map (some W0.heap.size), .int .i64 0] 93)) = W1 := ⟨_, rfl⟩
  rw [hW1] at hring hbm ⊢
  obtain ⟨B, hB⟩ : ∃ B, W0.heap.size = B := ⟨_, rfl⟩
  rw [hB] at hring hbm ⊢
  clear hW1 hmm
  go_loopw [5] (fun i wr_ => ∃ (k : Nat) (ov' : Value) (os' : List (Nat × Nat)), S.comm + k ≤ n ∧ i = .int .i64 ((S.comm + k : Nat) : Int) ∧ Rng wr_ B (B + 1) B vb ov' os' st.area (puts st.area (S.first + S.comm) ((S.recs.drop S.comm).take k)) m ∧ Below B W0 wr_) (fun i _ => n - (intOf i).toNat)
  case atStart => exact ⟨0, _, _, by omega, rfl, hring, hbm⟩
  case round =>
    obtain ⟨k, ov', os', hk, rfl, hR, hbel⟩ := hrel
    have hJ : JV wr jb vb tb S false (.slice ao n cap) hen st F := h0.below (by rw [hB]; exact hbel)
    have c6 := hJ.j.blk.cell 6
    simp at c6
    by_cases hke : S.comm + k = n
    · have hF1 : ∀ i, i ∈ F → i < B := fun i hi => by rw [← hB]; exact h0.v.lt i hi
      have hall : (S.recs.drop S.comm).take k = S.recs.drop S.comm := List.take_of_length_le (by rw [List.length_drop]; omega)
      rw [hall] at hR
      have hok := hR.ok
      obtain ⟨L, hL⟩ : ∃ L, ringL os' (puts st.area (S.first + S.comm) (S.recs.drop S.comm)) = L := ⟨_, rfl⟩
      have hfl := flush_any hR hJ.v hF1 hm2
      rw [hL] at hok hfl
      obtain ⟨x, hx⟩ : ∃ x, st.flushL L = x := ⟨_, rfl⟩
      have hcv : st.commitV L S.commit.hd = if x.1 ≠ 0 then x else x.2.putHd S.commit.hd := by unfold VS.commitV; rw [hx]
      rw [hx] at hfl
      have HFL := Lib.hid hfl
      have HOK := Lib.hid (And.intro hok hcv)
      have HW := Lib.hid (show Below w.heap.size w wr from hb0.trans (hbel.mono (by rw [← hB]; exact hb0.size)))
      have HJ := Lib.hid hJ
      clear hfl hok hR hall hJ hx hbel hcv
      by_cases hz : x.1 = 0
      · rw [hz] at HFL
        go_wp2_with (first
          | (go_at_call 50; refine HFL.out.mono ?_; rintro e w2 ⟨rfl, hst2⟩; obtain ⟨F2, hJ2, ht2, hf2⟩ := HJ.out.stepD hst2; have q2 : w2.cell? ⟨jb, 2, none⟩ = _ := hJ2.j.blk.cell 2; have q3 : w2.cell? ⟨jb, 3, none⟩ = _ := hJ2.j.blk.cell 3; have q4 : w2.cell? ⟨jb, 4, none⟩ = _ := hJ2.j.blk.cell 4; have q5 : w2.cell? ⟨jb, 5, none⟩ = _ := hJ2.j.blk.cell 5; simp at q2 q3 q4 q5))
        have hbX : Below w2.heap.size w2 (w2.alloc (.cells #[.int .i64 (S.h : Int), .int .i64 (S.first : Int), .int .i64 (S.beg : Int), .int .i64 (hen : Int)] 85)) := (Below.refl _ w2).alloc (Nat.le_refl _) _
        have hX := Blk.new w2 85 #[.int .i64 (S.h : Int), .int .i64 (S.first : Int), .int .i64 (S.beg : Int), .int .i64 (hen : Int)]
        obtain ⟨W3, hW3⟩ : ∃ W3, w2.alloc (.cells #[.int .i64 (S.h : Int), .int .i64 (S.first : Int), .int .i64 (S.beg : Int), .int .i64 (hen : Int)] 85) = W3 := ⟨_, rfl⟩
        rw [hW3] at hbX hX ⊢
        obtain ⟨H, hH⟩ : ∃ H, w2.heap.size = H := ⟨_, rfl⟩
        rw [hH] at hX ⊢
        have hJ3 := hJ2.below hbX
        have g0 : W3.cell? ⟨H, 0, none⟩ = some (.int .i64 (S.h : Int)) := hX.cell 0
        have g3 : W3.cell? ⟨H, 3, none⟩ = some (.int .i64 (hen : Int)) := hX.cell 3
        have k0 : W3.frozen? ⟨H, 0, none⟩ = false := hX.frozen 0
        have k3 : W3.frozen? ⟨H, 3, none⟩ = false := hX.frozen 3
        have j9 : W3.cell? ⟨jb, 9, none⟩ = some (.int .i64 (S.next : Int)) := hJ3.j.blk.cell 9
        have hjH : jb ≠ H := by have := hJ2.j.blk.lt; omega
        have hSh : S.h ≤ 1048576 := by have := hS.h; omega
        clear hW3 q2 q3 q4 q5
        go_region
        have hX4 := (hX.set_ 0 (.int .i64 ((S.h : Int) + 1))).set_ 3 (.int .i64 (S.next : Int))
        have ht4 : Turn [H] W3 (((W3.setCell ⟨H, 0, none⟩ (.int .i64 ((S.h : Int) + 1))).setCell ⟨H, 3, none⟩ (.int .i64 (S.next : Int))).drew) := (((Turn.refl _ W3).setCell (p := ⟨H, 0, none⟩) (.inl (by simp)) _).setCell (p := ⟨H, 3, none⟩) (.inl (by simp)) _).drew
        have hX4' := hX4.drew
        obtain ⟨W4, hW4⟩ : ∃ W4, ((W3.setCell ⟨H, 0, none⟩ (.int .i64 ((S.h : Int) + 1))).setCell ⟨H, 3, none⟩ (.int .i64 (S.next : Int))).drew = W4 := ⟨_, rfl⟩
        rw [hW4] at ht4 hX4' ⊢
        have hHF : ∀ i, i ∈ jvfoot jb tb (.slice ao n cap) F2 → i ∉ [H] := fun i hi => by have := hJ2.lt i hi; simp; omega
        have hJ4 := hJ3.turn ht4 hHF
        have hlj4 := hJ4.j.blk.lt
        have hlH4 := hX4'.lt
        have g0 : W4.drew.cell? ⟨H, 0, none⟩ = some (.int .i64 ((S.h : Int) + 1)) := hX4'.cell 0
        have g1 : W4.drew.cell? ⟨H, 1, none⟩ = some (.int .i64 (S.first : Int)) := hX4'.cell 1
        have g2 : W4.drew.cell? ⟨H, 2, none⟩ = some (.int .i64 (S.beg : Int)) := hX4'.cell 2
        have g3 : W4.drew.cell? ⟨H, 3, none⟩ = some (.int .i64 (S.next : Int)) := hX4'.cell 3
        have j0 : W4.drew.cell? ⟨jb, 0, none⟩ = some (.pointer (some ⟨vb, 0, none⟩)) := hJ4.j.blk.cell 0
        have j1 : W4.drew.cell? ⟨jb, 1, none⟩ = some (.pointer (some ⟨tb, 0, none⟩)) := hJ4.j.blk.cell 1
        have hce : hcells S.commit.hd = #[.int .i64 ((S.h : Int) + 1), .int .i64 (S.first : Int), .int .i64 (S.beg : Int), .int .i64 (S.next : Int)] := by
          have : S.commit.hd.en = S.next := S.commit_en
          unfold hcells
          rw [this]
          rfl
        have hsm : S.commit.hd.small := hS.commit.hd_small (by omega)
        have hwr := jwrite_done S.commit.hd hsm (hJ4.below (Below.drew (Below.refl _ W4))).pr
        obtain ⟨y, hy⟩ : ∃ y, x.2.putHd S.commit.hd = y := ⟨_, rfl⟩
        rw [hce, hy] at hwr
        have hnj : jb ∉ tb :: F2 := by
          intro hi
          rcases List.mem_cons.1 hi with e | hi
          · exact hJ4.jt (by simp [jfoot, e])
          · exact hJ4.jF jb (by simp [jfoot]) hi
        have hnH : H ∉ tb :: F2 := by
          intro hi
          refine hHF H ?_ (by simp)
          rcases List.mem_cons.1 hi with e | hi
          · simp [jvfoot, e]
          · simp [jvfoot, hi]
        have HP4 := Lib.hid (And.intro hJ4 (And.intro hJ2 (And.intro hX4' (And.intro ht2 (And.intro hf2 (And.intro ht4 (And.intro hbX hHF)))))))
        have HWR := Lib.hid (And.intro hwr hy)
        clear hW4 hX hX4 hX4' hJ4 hJ3 hJ2 hwr hce hst2 ht2 hf2 ht4 hbX j9 k0 k3 hHF
        go_wp2_with fail
        go_region_held3 (fun w' => w'.cell? ⟨jb, 0, none⟩ = some (Value.pointer (some ⟨vb, 0, none⟩)) ∧ w'.cell? ⟨jb, 1, none⟩ = some (Value.pointer (some ⟨tb, 0, none⟩)) ∧ w'.cell? ⟨H, 0, none⟩ = some (Value.int .i64 ((S.h : Int) + 1)) ∧ w'.cell? ⟨H, 1, none⟩ = some (Value.int .i64 (S.first : Int)) ∧ w'.cell? ⟨H, 2, none⟩ = some (Value.int .i64 (S.beg : Int)) ∧ w'.cell? ⟨H, 3, none⟩ = some (Value.int .i64 (S.next : Int)))
          (with_reducible exact ⟨j0, j1, g0, g1, g2, g3⟩)
          (first
            | (go_at_call 52; refine HWR.out.1.mono ?_; rintro e w5 ⟨rfl, hst5, hT5⟩; have ht5 := StepP.turn hst5; have j0 := (ht5.cell (p := ⟨jb, 0, none⟩) hlj4 hnj).trans j0; have j1 := (ht5.cell (p := ⟨jb, 1, none⟩) hlj4 hnj).trans j1; have g0 := (ht5.cell (p := ⟨H, 0, none⟩) hlH4 hnH).trans g0; have g1 := (ht5.cell (p := ⟨H, 1, none⟩) hlH4 hnH).trans g1; have g2 := (ht5.cell (p := ⟨H, 2, none⟩) hlH4 hnH).trans g2; have g3 := (ht5.cell (p := ⟨H, 3, none⟩) hlH4 hnH).trans g3))
        obtain ⟨hJ4, hJ2, hX4', ht2, hf2, ht4, hbX, hHF⟩ := HP4.out
        obtain ⟨F5, hJ5, ht5, hf5⟩ := (hJ4.below (Below.drew (Below.refl _ W4))).put hst5 hT5
        have T2 : Turn (jvfoot jb tb (.slice ao n cap) F) w w2 := (Turn.ofBelow HW.out (Nat.le_refl _)).trans (ht2.mono (fun i hi => by simp [jvfoot, hi])) (fun i hi => .inl hi)
        have hsub2 : ∀ i, i ∈ jvfoot jb tb (.slice ao n cap) F2 → i ∈ jvfoot jb tb (.slice ao n cap) F ∨ w.heap.size ≤ i := by
          intro i hi
          unfold jvfoot at hi ⊢
          rcases List.mem_cons.1 hi with rfl | hi
          · exact .inl (by simp)
          rcases List.mem_append.1 hi with hi | hi
          · exact .inl (by simp [hi])
          · rcases hf2 i hi with e | e
            · exact .inl (by simp [e])
            · exact .inr (Nat.le_trans HW.out.size e)
        have T4 : Turn (jvfoot jb tb (.slice ao n cap) F) w W4 := (T2.below hbX T2.size).trans ht4 (fun i hi => by
          simp at hi
          subst hi
          have := T2.size
          exact .inr (by omega))
        have T5 : Turn (jvfoot jb tb (.slice ao n cap) F) w w5 := T4.drew.trans ht5 (fun i hi => by
          refine hsub2 i ?_
          rcases List.mem_cons.1 hi with rfl | hi
          · simp [jvfoot]
          · simp [jvfoot, hi])
        have hsub5 : ∀ i, i ∈ jvfoot jb tb (.slice ao n cap) F5 → i ∈ jvfoot jb tb (.slice ao n cap) F ∨ w.heap.size ≤ i := by
          intro i hi
          unfold jvfoot at hi
          rcases List.mem_cons.1 hi with rfl | hi
          · exact .inl (by simp [jvfoot])
          rcases List.mem_append.1 hi with hi | hi
          · exact .inl (by simp [jvfoot, hi])
          · rcases hf5 i hi with e | e
            · exact hsub2 i (by simp [jvfoot, e])
            · exact .inr (Nat.le_trans T4.size e)
        have T5j : ∀ {w6 : World}, Turn [jb] w5 w6 → Turn (jvfoot jb tb (.slice ao n cap) F) w w6 := fun h => T5.trans h (fun i hi => by
          simp at hi
          subst hi
          exact .inl (by simp [jvfoot, jfoot]))
        have HE := Lib.hid (And.intro @T5j (And.intro hsub5 hJ5))
        clear T5j hsub5 T5 T4 T2 hsub2 hJ4 hJ2 hX4' ht2 hf2 ht4 hbX hHF hst5 hT5
        have HCV := Lib.hid (show st.commitV L S.commit.hd = y by rw [HOK.out.2, if_neg (by rw [hz]; simp), HWR.out.2])
        by_cases hz5 : y.1 = 0
        · rw [hz5]
          have b := hJ5.j.blk
          have p2 : w5.cell? ⟨jb, 2, none⟩ = _ := b.cell 2
          have p3 : w5.cell? ⟨jb, 3, none⟩ = _ := b.cell 3
          have p4 : w5.cell? ⟨jb, 4, none⟩ = _ := b.cell 4
          have p5 : w5.cell? ⟨jb, 5, none⟩ = _ := b.cell 5
          have p6 : w5.cell? ⟨jb, 6, none⟩ = _ := b.cell 6
          have p7 : w5.cell? ⟨jb, 7, none⟩ = _ := b.cell 7
          have p8 : w5.cell? ⟨jb, 8, none⟩ = _ := b.cell 8
          have p9 : w5.cell? ⟨jb, 9, none⟩ = _ := b.cell 9
          have z2 := b.frozen 2
          have z3 := b.frozen 3
          have z4 := b.frozen 4
          have z5 := b.frozen 5
          have z7 := b.frozen 7
          have z8 := b.frozen 8
          simp at p2 p3 p4 p5 p6 p7 p8 p9
          clear b j0 j1 hJ5 ht5
          go_wp2_with fail
          go_region
          have hJ5 := HE.out.2.2
          have hb6 := ((((((hJ5.j.blk.set_ 2 (.int .i64 ((S.h : Int) + 1))).set_ 3 (.int .i64 (S.first : Int))).set_ 4 (.int .i64 (S.beg : Int))).set_ 5 (.int .i64 (S.next : Int))).set_ 7 (.int .i64 (n : Int))).set_ 8 (.int .i64 (S.next : Int))).drew
          have t6 : Turn [jb] w5 ((((((w5.setCell ⟨jb, 2, none⟩ (.int .i64 ((S.h : Int) + 1))).setCell ⟨jb, 3, none⟩ (.int .i64 (S.first : Int))).setCell ⟨jb, 4, none⟩ (.int .i64 (S.beg : Int))).setCell ⟨jb, 5, none⟩ (.int .i64 (S.next : Int))).setCell ⟨jb, 7, none⟩ (.int .i64 (n : Int))).setCell ⟨jb, 8, none⟩ (.int .i64 (S.next : Int))).drew :=
            (((((((Turn.refl _ w5).setCell (p := ⟨jb, 2, none⟩) (.inl (by simp)) _).setCell (p := ⟨jb, 3, none⟩) (.inl (by simp)) _).setCell (p := ⟨jb, 4, none⟩) (.inl (by simp)) _).setCell (p := ⟨jb, 5, none⟩) (.inl (by simp)) _).setCell (p := ⟨jb, 7, none⟩) (.inl (by simp)) _).setCell (p := ⟨jb, 8, none⟩) (.inl (by simp)) _).drew
          obtain ⟨W6, hW6⟩ : ∃ W6, ((((((w5.setCell ⟨jb, 2, none⟩ (.int .i64 ((S.h : Int) + 1))).setCell ⟨jb, 3, none⟩ (.int .i64 (S.first : Int))).setCell ⟨jb, 4, none⟩ (.int .i64 (S.beg : Int))).setCell ⟨jb, 5, none⟩ (.int .i64 (S.next : Int))).setCell ⟨jb, 7, none⟩ (.int .i64 (n : Int))).setCell ⟨jb, 8, none⟩ (.int .i64 (S.next : Int))).drew = W6 := ⟨_, rfl⟩
          rw [hW6] at hb6 t6 ⊢
          have hj6 : Jr W6 jb vb tb S.commit false (.slice ao n cap) S.next := by
            refine ⟨?_, row_turn hJ5.j.row t6 (fun g hg => by have := hJ5.j.jb_ne; simp; rintro rfl; exact this hg)⟩
            rw [S.commit_en, show S.commit.comm = n from hn]
            exact hb6
          have HJ6 := Lib.hid (show JV W6 jb vb tb S.commit false (.slice ao n cap) S.next y.2 F5 from ⟨hj6, hJ5.v.turn t6 (fun i hi => by simp; rintro rfl; exact hJ5.jF i (by simp [jfoot]) hi), Blk.turn hJ5.t t6 (by simp; rintro e; exact hJ5.jt (by simp [jfoot, e])), hJ5.jF, hJ5.jt, hJ5.tF⟩)
          have HT6 := Lib.hid t6
          clear hb6 t6 hW6 hj6 hJ5
          go_wp2_with fail
          go_ret
          refine ⟨L, HOK.out.1, by rw [HCV.out, hz5]; rfl, ?_⟩
          rw [HCV.out, if_pos hz5, hz5]
          exact ⟨_, _, F5, HJ6.out, HE.out.1 HT6.out, HE.out.2.1⟩
        · have e5 : ((y.1 : Int) != 0) = true := by rw [bne_iff_ne]; omega
          go_wp2_with (first
            | (go_at_call 51; refine (fail_any y.1 hJ5.j).mono ?_; rintro e w6 ⟨rfl, hj6, ht6⟩))
          go_ret
          refine ⟨L, HOK.out.1, ?_, ?_⟩
          · rw [HCV.out]; rfl
          · rw [HCV.out, if_neg hz5]
            exact ⟨_, _, F5, hJ5.failed hj6 ht6, HE.out.1 ht6, HE.out.2.1⟩
      · have e1 : ((x.1 : Int) != 0) = true := by rw [bne_iff_ne]; omega
        go_wp2_with (first
          | (go_at_call 50; refine HFL.out.mono ?_; rintro e w2 ⟨rfl, hst2⟩; obtain ⟨F2, hJ2, ht2, hf2⟩ := HJ.out.stepD hst2)
          | (go_at_call 51; refine (fail_any x.1 hJ2.j).mono ?_; rintro e w3 ⟨rfl, hj3, ht3⟩))
        go_ret
        refine ⟨L, HOK.out.1, ?_, ?_⟩
        · rw [HOK.out.2, if_pos hz]; rfl
        · rw [HOK.out.2, if_pos hz, if_neg hz]
          have T2 : Turn (jvfoot jb tb (.slice ao n cap) F) w w2 := (Turn.ofBelow HW.out (Nat.le_refl _)).trans (ht2.mono (fun i hi => by simp [jvfoot, hi])) (fun i hi => .inl hi)
          refine ⟨_, _, F2, hJ2.failed hj3 ht3, T2.trans ht3 (fun i hi => by simp at hi; subst hi; exact .inl (by simp [jvfoot, jfoot])), fun i hi => ?_⟩
          unfold jvfoot at hi
          rcases List.mem_cons.1 hi with rfl | hi
          · exact .inl (by simp [jvfoot])
          rcases List.mem_append.1 hi with hi | hi
          · exact .inl (by simp [jvfoot, hi])
          · rcases hf2 i hi with e | e
            · exact .inl (by simp [jvfoot, e])
            · exact .inr (Nat.le_trans HW.out.size e)
    · have hkl : S.comm + k < n := by omega
      have hrow := hJ.j.row
      rw [hn] at hrow
      obtain ⟨g0, hao, hncap, r0, r1⟩ := row_cells hrow hn hkl
      subst hao
      obtain ⟨x, hx⟩ : ∃ x, S.recs.getD (S.comm + k) (0, ⟨#[]⟩) = x := ⟨_, rfl⟩
      rw [hx] at r0 r1
      obtain ⟨p, d⟩ := x
      simp only at r0 r1
      obtain ⟨i, hi⟩ : ∃ i, S.comm + k = i := ⟨_, rfl⟩
      rw [hi] at hkl r0 r1 ⊢
      rw [show 2 * i = i * 2 by omega] at r0 r1
      have hX := Blk.new wr 95 #[.int .i64 (p : Int), .string d]
      have hbX : Below wr.heap.size wr (wr.alloc (.cells #[.int .i64 (p : Int), .string d] 95)) := (Below.refl _ wr).alloc (Nat.le_refl _) _
      have hJX := hJ.below hbX
      have d0 : (wr.alloc (.cells #[.int .i64 (p : Int), .string d] 95)).cell? ⟨wr.heap.size, 0, none⟩ = some (.int .i64 (p : Int)) := hX.cell 0
      have d1 : (wr.alloc (.cells #[.int .i64 (p : Int), .string d] 95)).cell? ⟨wr.heap.size, 1, none⟩ = some (.string d) := hX.cell 1
      have j1 : (wr.alloc (.cells #[.int .i64 (p : Int), .string d] 95)).cell? ⟨jb, 1, none⟩ = some (.pointer (some ⟨tb, 0, none⟩)) := hJX.j.blk.cell 1
      have j3 : (wr.alloc (.cells #[.int .i64 (p : Int), .string d] 95)).cell? ⟨jb, 3, none⟩ = some (.int .i64 (S.first : Int)) := hJX.j.blk.cell 3
      have lX := hX.lt
      have lj := hJX.j.blk.lt
      go_wp2_with fail
      obtain ⟨W2, hW2⟩ : ∃ W2, wr.alloc (.cells #[.int .i64 (p : Int), .string d] 95) = W2 := ⟨_, rfl⟩
      rw [hW2] at hX hbX hJX d0 d1 j1 j3 lX lj ⊢
      obtain ⟨X, hXe⟩ : ∃ X, wr.heap.size = X := ⟨_, rfl⟩
      rw [hXe] at hX d0 d1 lX ⊢
      clear hW2 r0 r1 c6
      have hxs : S.recs[i]? = some (p, d) := by
        rw [hi, List.getD_eq_getElem?_getD, List.getElem?_eq_getElem (by omega)] at hx
        rw [List.getElem?_eq_getElem (by omega)]
        exact congrArg some hx
      obtain ⟨hp1, hds, hp2⟩ := chain_get hS.chain hxs
      simp only at hp1 hds hp2
      have hp3 : p ≤ 1125899906842624 := by have h1 := hS.pos; have : rend S.beg S.recs = S.next := rfl; omega
      have hfi : S.first + i ≤ 1048576 := by have := hS.nums; omega
      obtain ⟨n1, hn1⟩ : ∃ n1, bytesOf (beN 4 d.size) = n1 := ⟨_, rfl⟩
      obtain ⟨n2, hn2⟩ : ∃ n2, bytesOf (beN 8 (S.first + i)) = n2 := ⟨_, rfl⟩
      have z1 : n1.size = 4 := by rw [← hn1, bytesOf_size, beN_length]
      have z2 : n2.size = 8 := by rw [← hn2, bytesOf_size, beN_length]
      have z12 : n1.size + n2.size ≤ 9223372036854775807 := by omega
      have l12 : (n1 ++ n2).data.toList = frameH (S.first + i) d.data.toList := by
        rw [ByteArray.data_append, Array.toList_append, ← hn1, ← hn2, bytesOf_list, bytesOf_list]
        unfold frameH
        rw [Array.length_toList]
        rfl
      have HN1 := Lib.hid (number_any d.size 4 (by decide) (by decide))
      have HN2 := Lib.hid (number_any (S.first + i) 8 (by decide) (by decide))
      rw [hn1] at HN1
      rw [hn2] at HN2
      have HJX := Lib.hid (And.intro hX (And.intro hbX (And.intro hJX (And.intro hxs l12))))
      have HWR := Lib.hid (show IntKind.i64.wrap ((S.first : Int) + (i : Int)) = ((S.first + i : Nat) : Int) by rw [IntKind.wrap_i64]; omega)
      clear hX hbX hJX hrow hJ hxs l12 hn1 hn2 hx
      have d0 : W2.drew.cell? ⟨X, 0, none⟩ = some (.int .i64 (p : Int)) := d0
      have d1 : W2.drew.cell? ⟨X, 1, none⟩ = some (.string d) := d1
      have j1 : W2.drew.cell? ⟨jb, 1, none⟩ = some (.pointer (some ⟨tb, 0, none⟩)) := j1
      have j3 : W2.drew.cell? ⟨jb, 3, none⟩ = some (.int .i64 (S.first : Int)) := j3
      go_region_held3 (fun w' => w'.cell? ⟨X, 1, none⟩ = some (Value.string d) ∧ w'.cell? ⟨jb, 3, none⟩ = some (Value.int .i64 (S.first : Int)))
        (with_reducible exact ⟨d1, j3⟩)
        (first
          | (go_at_call_of 47 (Value.int .i64 (d.size : Int)); refine (HN1.out _).mono ?_; rintro e w3 ⟨rfl, hb3⟩; have d1 := (hb3.cell (p := ⟨X, 1, none⟩) lX).trans d1; have j3 := (hb3.cell (p := ⟨jb, 3, none⟩) lj).trans j3; have l3X := Nat.lt_of_lt_of_le lX hb3.size; have l3j := Nat.lt_of_lt_of_le lj hb3.size)
          | (go_at_call_of 47 (Value.int .i64 (IntKind.i64.wrap ((S.first : Int) + (i : Int)))); rw [HWR.out]; refine (HN2.out _).mono ?_; rintro e w4 ⟨rfl, hb4⟩; have d1 := (hb4.cell (p := ⟨X, 1, none⟩) l3X).trans d1; have j3 := (hb4.cell (p := ⟨jb, 3, none⟩) l3j).trans j3))
      have hb24 : Below W2.heap.size W2 w4 := (((Below.refl W2.heap.size W2).drew).trans hb3).trans (hb4.mono hb3.size)
      have hJ4 := HJX.out.2.2.1.below hb24
      have hR4 := hR.below ((HJX.out.2.1).trans (hb24.mono HJX.out.2.1.size))
      have d0 : w4.drew.cell? ⟨X, 0, none⟩ = some (.int .i64 (p : Int)) := (hb24.cell (p := ⟨X, 0, none⟩) lX).trans d0
      have d1 : w4.drew.cell? ⟨X, 1, none⟩ = some (.string d) := d1
      have j1 : w4.drew.cell? ⟨jb, 1, none⟩ = some (.pointer (some ⟨tb, 0, none⟩)) := (hb24.cell (p := ⟨jb, 1, none⟩) lj).trans j1
      obtain ⟨s, hs⟩ : ∃ s, n1 ++ n2 = s := ⟨_, rfl⟩
      have l12 := HJX.out.2.2.2.2
      rw [hs] at l12 ⊢
      have z12 : s.size = 12 := by rw [← hs, ByteArray.size_append, z1, z2]
      obtain ⟨cs, hcs⟩ : ∃ cs, crc (frameH (S.first + i) d.data.toList ++ d.data.toList) = cs := ⟨_, rfl⟩
      have zd : (s ++ d).size = 12 + d.size := by rw [ByteArray.size_append, z12]
      obtain ⟨n3, hn3⟩ : ∃ n3, bytesOf (beN 4 cs) = n3 := ⟨_, rfl⟩
      have z3 : n3.size = 4 := by rw [← hn3, bytesOf_size, beN_length]
      have lall : (s ++ n3 ++ d).data.toList = frameL (S.first + i) d.data.toList := by
        rw [ByteArray.data_append, Array.toList_append, ByteArray.data_append, Array.toList_append, l12, ← hn3, bytesOf_list, ← hcs]
        rfl
      have lsum : (s ++ d).data.toList = frameH (S.first + i) d.data.toList ++ d.data.toList := by rw [ByteArray.data_append, Array.toList_append, l12]
      have y1 : ¬ (9223372036854775807 < 12 + d.size) := by omega
      have y2 : ¬ (9223372036854775807 < 16 + d.size) := by omega
      have y3 : ¬ (9223372036854775807 < 12 + 4 + d.size) := by omega
      have y4 : (s ++ n3 ++ d).size ≤ 1048576 := by rw [ByteArray.size_append, ByteArray.size_append]; omega
      have HCK := Lib.hid (fun (w : World) (h : Tb w tb 1 0 crc8) => checksum_done (s ++ d) (by rw [zd]; omega) h)
      rw [lsum, hcs] at HCK
      have HN3 := Lib.hid (number_any cs 4 (by decide) (by decide))
      rw [hn3] at HN3
      have lX4 : X < w4.heap.size := Nat.lt_of_lt_of_le lX hb24.size
      have lj4 : jb < w4.heap.size := Nat.lt_of_lt_of_le lj hb24.size
      have hXn : X ∉ rfoot (B + 1) B ov' os' := fun hi => by have := (hR.lt X hi).2; omega
      have hjn : jb ∉ rfoot (B + 1) B ov' os' := fun hi => by have := (hR.lt jb hi).1; omega
      have hF1 : ∀ i, i ∈ F → i < B := fun i hi => by rw [← hB]; exact h0.v.lt i hi
      have hBw : B ≤ w4.heap.size := by have h1 := hbel.size; have h2 := hb24.size; have h3 := HJX.out.2.1.size; omega
      have HPU := Lib.hid (fun (w6 : World) (h : Below w4.heap.size w4 w6) => put_any (hR4.below h) (hJ4.below h).v hF1 hd hl hm hm2 rfl (Nat.le_trans hBw h.size) p hp3 (s ++ n3 ++ d) y4)
      have hnx : puts st.area (S.first + S.comm) ((S.recs.drop S.comm).take (k + 1)) = Go.Proofs.YtfdnpchbbngpjaaGreat.wr (puts st.area (S.first + S.comm) ((S.recs.drop S.comm).take k)) p (frameL (S.first + i) d.data.toList) := by
        have hg : (S.recs.drop S.comm)[k]? = some (p, d) := by rw [List.getElem?_drop, hi]; exact HJX.out.2.2.2.1
        have hlk : k < (S.recs.drop S.comm).length := (List.getElem?_eq_some_iff.1 hg).1
        rw [List.take_add_one, hg]
        simp only [Option.toList]
        rw [puts_snoc, List.length_take, Nat.min_eq_left (by omega), show S.first + S.comm + k = S.first + i by omega]
      rw [lall, ← hnx] at HPU
      have HL := Lib.hid (And.intro hJ4 (And.intro hb24 (And.intro hbel (fun i hi => (hR.lt i hi).1))))
      clear hJ4 hR4 lall lsum hn3 hcs hbel hR l12 hs y4 zd hnx hF1
      go_wp2_with fail
      go_region_held3 (fun w' => w'.cell? ⟨X, 0, none⟩ = some (Value.int .i64 (p : Int)) ∧ w'.cell? ⟨X, 1, none⟩ = some (Value.string d) ∧ w'.cell? ⟨jb, 1, none⟩ = some (Value.pointer (some ⟨tb, 0, none⟩)))
        (first | with_reducible exact ⟨d0, d1, j1⟩ | exact ⟨d0, d1, j1⟩)
        (first
          | (go_at_call 49; refine (HCK.out _ (show Tb w4.drew tb 1 0 crc8 from HL.out.1.t)).mono ?_; rintro e w5 ⟨rfl, n5, rfl⟩)
          | (go_at_call 47; refine (HN3.out _).mono ?_; rintro e w6 ⟨rfl, hb6⟩; have hb46 : Below w4.heap.size w4 w6 := (by first | exact (below_drewN (Below.refl _ w4).drew).trans hb6 | exact (below_drewN (Below.refl _ w4)).trans hb6); have d0 := (hb6.cell (p := ⟨X, 0, none⟩) lX4).trans d0; have d1 := (hb6.cell (p := ⟨X, 1, none⟩) lX4).trans d1; have j1 := (hb6.cell (p := ⟨jb, 1, none⟩) lj4).trans j1)
          | (go_at_call 48; refine (HPU.out _ hb46).mono ?_; rintro e w7 ⟨rfl, ov7, os7, hR7, ht7, hf7⟩; have d0 := (ht7.cell (p := ⟨X, 0, none⟩) (Nat.lt_of_lt_of_le lX4 hb46.size) hXn).trans d0; have d1 := (ht7.cell (p := ⟨X, 1, none⟩) (Nat.lt_of_lt_of_le lX4 hb46.size) hXn).trans d1; have j1 := (ht7.cell (p := ⟨jb, 1, none⟩) (Nat.lt_of_lt_of_le lj4 hb46.size) hjn).trans j1))
      have hb47 : Below B W0 w7 := by
        have b0 : Below B W0 wr := HL.out.2.2.1
        have b1 : Below B W0 W2 := b0.trans (HJX.out.2.1.mono (Nat.le_trans (Nat.le_of_eq hB.symm) b0.size))
        have b2 : Below B W0 w4 := b1.trans (HL.out.2.1.mono (Nat.le_trans (Nat.le_of_eq hB.symm) b1.size))
        have b3 : Below B W0 w6 := b2.trans (hb46.mono (Nat.le_trans (Nat.le_of_eq hB.symm) b2.size))
        exact b3.trans (ht7.toBelow HL.out.2.2.2 (Nat.le_trans (Nat.le_of_eq hB.symm) b3.size))
      have H7 := Lib.hid (And.intro hR7 hb47)
      clear hR7 hb47 ht7 hf7 d0 d1 j1 j3 hb46 hb6 hb3 hb4
      go_wp2_with fail
      go_roundw
      case rel => exact ⟨k + 1, ov7, os7, by omega, by go_num, H7.out⟩
      case measure => simp [intOf]; omega
end Go.Proofs.YtfdnpchbbngpjaaGreat
