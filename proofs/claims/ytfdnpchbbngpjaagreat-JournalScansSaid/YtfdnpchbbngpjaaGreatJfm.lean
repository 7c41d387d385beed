/- A device is checked; a header is written. -/
import Derived.Test.YtfdnpchbbngpjaaGreatJhd
namespace Go.Proofs.YtfdnpchbbngpjaaGreat
attribute [local go_sem ↓] Go.wp_at_zero Go.wp_at_succ
open Go.RowKit Go.Maps

def VS.chk (st : VS) : Nat := if st.down then 36 else if st.dur.length < 3 then 2 else 0
theorem check_nil (w : World) : Calls Tryz.prog 61 #[.pointer none] w fun e w' => e = .returned (.int .i64 1) ∧ w = w' := by
  go_enter Tryz.func61, Tryz.ntmps61
  go_wp2
  go_ret
  exact ⟨rfl, rfl⟩
theorem check_any {w : World} {vb : Nat} {st : VS} {F : List Nat} (h : VolF w vb st F) :
    Calls Tryz.prog 61 #[.pointer (some ⟨vb, 0, none⟩)] w fun e w' => e = .returned (.int .i64 (st.chk : Int)) ∧ w = w' := by
  unfold VS.chk
  cases hd : st.down with
  | true =>
    go_enter Tryz.func61, Tryz.ntmps61
    go_wp2_with ((go_at_call 14; refine (down_own h).mono ?_; rw [hd]; rintro e w' ⟨rfl, rfl⟩))
    go_ret
    exact ⟨rfl, rfl⟩
  | false =>
    by_cases hl : st.dur.length < 3
    · have e3 : decide ((st.dur.length : Int) < 3) = true := by simp; omega
      simp only [hl, if_true]
      go_enter Tryz.func61, Tryz.ntmps61
      go_wp2_with (first
        | (go_at_call 14; refine (down_own h).mono ?_; rw [hd]; rintro e w' ⟨rfl, rfl⟩)
        | (go_at_call 36; refine (len_own h).mono ?_; rintro e w' ⟨rfl, rfl⟩))
      go_ret
      exact ⟨rfl, rfl⟩
    · have e3 : decide ((st.dur.length : Int) < 3) = false := by simp; omega
      simp only [hl, if_false]
      go_enter Tryz.func61, Tryz.ntmps61
      go_wp2_with (first
        | (go_at_call 14; refine (down_own h).mono ?_; rw [hd]; rintro e w' ⟨rfl, rfl⟩)
        | (go_at_call 36; refine (len_own h).mono ?_; rintro e w' ⟨rfl, rfl⟩))
      go_ret
      exact ⟨rfl, rfl⟩

/-- a device and a table apart from it -/
structure Pr (w : World) (vb : Nat) (st : VS) (tb : Nat) (F : List Nat) : Prop where
  vol : VolF w vb st F
  tab : Tab w tb
  off : tb ∉ F
/-- what a step on both leaves -/
def StepP (F : List Nat) (w w' : World) (vb : Nat) (st : VS) (tb : Nat) : Prop := ∃ F', Pr w' vb st tb F' ∧ Turn (tb :: F) w w' ∧ ∀ i, i ∈ F' → i ∈ F ∨ w.heap.size ≤ i
theorem Pr.below {w w' : World} {vb tb : Nat} {st : VS} {F : List Nat} (h : Pr w vb st tb F) (hb : Below w.heap.size w w') : Pr w' vb st tb F := ⟨h.vol.below hb, h.tab.below hb h.tab.lt, h.off⟩
theorem Pr.tabs {w w' : World} {vb tb : Nat} {st : VS} {F : List Nat} (h : Pr w vb st tb F) (ht : Turn [tb] w w') (hT : Tab w' tb) : Pr w' vb st tb F := ⟨h.vol.turn ht (fun i hi => by simp; rintro rfl; exact h.off hi), hT, h.off⟩
theorem Pr.stepV {w w' : World} {vb tb : Nat} {st st' : VS} {F : List Nat} (h : Pr w vb st tb F) (hs : Step F w w' vb st') : StepP F w w' vb st' tb := by
  obtain ⟨F', h1, h2, h3⟩ := hs
  have hlt := h.tab.lt
  exact ⟨F', ⟨h1, h.tab.turn h2 h.off, fun hm => by rcases h3 _ hm with e | e; exact h.off e; omega⟩, h2.mono (fun i hi => by simp [hi]), h3⟩
theorem StepP.refl {w : World} {vb tb : Nat} {st : VS} {F : List Nat} (h : Pr w vb st tb F) : StepP F w w vb st tb := ⟨F, h, Turn.refl _ _, fun _ hi => .inl hi⟩
/-- steps one behind the other -/
theorem StepP.pre {F : List Nat} {w w1 w2 : World} {vb tb : Nat} {st : VS} (ht : Turn (tb :: F) w w1) (h2 : StepP F w1 w2 vb st tb) : StepP F w w2 vb st tb := by
  obtain ⟨F', h3, h4, h5⟩ := h2
  exact ⟨F', h3, ht.trans h4 (fun i hi => .inl hi), fun i hi => by
    rcases h5 i hi with e | e
    · exact .inl e
    · exact .inr (Nat.le_trans ht.size e)⟩
theorem StepP.then {F : List Nat} {w w1 w2 : World} {vb tb : Nat} {st1 st : VS} (h1 : StepP F w w1 vb st1 tb) (h2 : ∀ F', Pr w1 vb st1 tb F' → StepP F' w1 w2 vb st tb) : StepP F w w2 vb st tb := by
  obtain ⟨F1, k1, k2, k3⟩ := h1
  obtain ⟨F2, m1, m2, m3⟩ := h2 F1 k1
  refine ⟨F2, m1, k2.trans m2 (fun i hi => ?_), fun i hi => ?_⟩
  · rcases List.mem_cons.1 hi with rfl | hi
    · exact .inl (by simp)
    · rcases k3 i hi with e | e
      · exact .inl (by simp [e])
      · exact .inr e
  · rcases m3 i hi with e | e
    · exact k3 i e
    · exact .inr (Nat.le_trans k2.size e)
set_option maxRecDepth 100000 in
set_option maxHeartbeats 4000000 in
theorem jwrite_any (h : Hd) (hs : h.small) {w : World} {vb tb : Nat} {st : VS} {F : List Nat} (hP : Pr w vb st tb F) :
    Calls Tryz.prog 52 #[.pointer (some ⟨vb, 0, none⟩), .pointer (some ⟨tb, 0, none⟩), .agg (hcells h)] w fun e w' => e = .returned (.int .i64 ((st.putHd h).1 : Int)) ∧ StepP F w w' vb (st.putHd h).2 tb := by
  obtain ⟨x, hx⟩ : ∃ x, st.write ((h.num % 2 : Nat) : Int) (bytesOf (headT h)) = x := ⟨_, rfl⟩
  have hput : st.putHd h = if x.1 ≠ 0 then x else x.2.barrier := by unfold VS.putHd; rw [hx]
  unfold hcells
  have hb0 : Below w.heap.size w (w.alloc (.cells #[.int .i64 (h.num : Int), .int .i64 (h.first : Int), .int .i64 (h.beg : Int), .int .i64 (h.en : Int)] 85)) := (Below.refl _ w).alloc (Nat.le_refl _) _
  have b0 : Blk (w.alloc (.cells #[.int .i64 (h.num : Int), .int .i64 (h.first : Int), .int .i64 (h.beg : Int), .int .i64 (h.en : Int)] 85)) w.heap.size 85 #[.int .i64 (h.num : Int), .int .i64 (h.first : Int), .int .i64 (h.beg : Int), .int .i64 (h.en : Int)] := Blk.new _ _ _
  have c0 := b0.cell 0
  have c1 := b0.cell 1
  have c2 := b0.cell 2
  have c3 := b0.cell 3
  have lt := b0.lt
  go_enter Tryz.func52, Tryz.ntmps52
  go_wp2_with fail
  obtain ⟨W0, hW0⟩ : ∃ W0, (w.alloc (.cells #[.int .i64 (h.num : Int), .int .i64 (h.first : Int), .int .i64 (h.beg : Int), .int .i64 (h.en : Int)] 85)) = W0 := ⟨_, rfl⟩
  rw [hW0] at hb0 c0 c1 c2 c3 lt ⊢
  clear hW0 b0
  simp at c0 c1 c2 c3
  have hP0 := hP.below hb0
  have hlF := hP.vol.lt
  have htl := hP.tab.lt
  have hneF : w.heap.size ∉ F := fun hm => by have := hlF _ hm; omega
  have etm := Lib.hid (show (h.num : Int).tmod 2 = ((h.num % 2 : Nat) : Int) from rfl)
  have hne : w.heap.size ∉ [tb] := by have := hP.tab.lt; simp; omega
  have HP0 := Lib.hid hP0
  clear hP hP0
  go_region_held3 (fun w' => w'.cell? ⟨w.heap.size, 0, none⟩ = some (Value.int .i64 (h.num : Int)) ∧ w'.cell? ⟨w.heap.size, 1, none⟩ = some (Value.int .i64 (h.first : Int)) ∧ w'.cell? ⟨w.heap.size, 2, none⟩ = some (Value.int .i64 (h.beg : Int)) ∧ w'.cell? ⟨w.heap.size, 3, none⟩ = some (Value.int .i64 (h.en : Int)))
    (first | go_keep)
    (first
      | (go_at_call 77; refine (text_any h hs (Tab.below (HP0.out.tab) (below_drewN (n := 1) (Below.refl _ _)) HP0.out.tab.lt)).mono ?_; rintro e w1 ⟨rfl, hT1, ht1⟩; have c0 := (ht1.cell (p := ⟨w.heap.size, 0, none⟩) lt hne).trans c0; have c1 := (ht1.cell (p := ⟨w.heap.size, 1, none⟩) lt hne).trans c1; have c2 := (ht1.cell (p := ⟨w.heap.size, 2, none⟩) lt hne).trans c2; have c3 := (ht1.cell (p := ⟨w.heap.size, 3, none⟩) lt hne).trans c3)
      | (go_at_call 38; rw [etm.out]; refine (write_any _ (bytesOf (headT h)) (((HP0.out.below (below_drewN (n := 1) (Below.refl _ _))).tabs ht1 hT1).vol)).mono ?_; rw [hx]; rintro e w2 ⟨rfl, hst⟩; obtain ⟨F2, hv2, ht2, hf2⟩ := hst; have lt := Nat.lt_of_lt_of_le lt ht1.size; have c0 := (ht2.cell (p := ⟨w.heap.size, 0, none⟩) lt hneF).trans c0; have c1 := (ht2.cell (p := ⟨w.heap.size, 1, none⟩) lt hneF).trans c1; have c2 := (ht2.cell (p := ⟨w.heap.size, 2, none⟩) lt hneF).trans c2; have c3 := (ht2.cell (p := ⟨w.heap.size, 3, none⟩) lt hneF).trans c3))
  have hst2 : StepP F w w2 vb x.2 tb := by
    have hp1 := (HP0.out.below (below_drewN (n := 1) (Below.refl _ _))).tabs ht1 hT1
    have h1 := hp1.stepV ⟨F2, hv2, ht2, hf2⟩
    have t1 : Turn (tb :: F) w w1 := ((Turn.ofBelow hb0 (Nat.le_refl _)).trans (Turn.mono (F := [tb]) (G := tb :: F) ⟨ht1.os, ht1.tape, ht1.output, ht1.size, ht1.block⟩ (fun i hi => by simp at hi; simp [hi])) (fun i hi => .inl hi))
    exact StepP.pre t1 h1
  have H2 := Lib.hid hst2
  clear hst2 hv2 ht2 hf2 ht1 hT1 hb0 c0 c1 c2 c3
  by_cases hz : x.1 = 0
  · have hput' : st.putHd h = x.2.barrier := by rw [hput, if_neg (by rw [hz]; decide)]
    have HPU := Lib.hid hput'
    clear hput hput'
    obtain ⟨F3, hp3, ht3, hf3⟩ := H2.out
    go_wp2_with (first
      | (go_at_call 76; refine (barrier_any hp3.vol).mono ?_; rintro e w3 ⟨rfl, hst3⟩))
    go_ret
    rw [HPU.out]
    refine ⟨rfl, ?_⟩
    have h3 := hp3.stepV hst3
    obtain ⟨F4, k1, k2, k3⟩ := h3
    refine ⟨F4, k1, ht3.trans k2 (fun i hi => ?_), fun i hi => ?_⟩
    · rcases List.mem_cons.1 hi with rfl | hi
      · exact .inl (by simp)
      · rcases hf3 i hi with e | e
        · exact .inl (by simp [e])
        · exact .inr e
    · rcases k3 i hi with e | e
      · exact hf3 i e
      · exact .inr (Nat.le_trans ht3.size e)
  · have hput' : st.putHd h = x := by rw [hput, if_pos hz]
    have HPU := Lib.hid hput'
    clear hput hput'
    have hzi : ((x.1 : Int) != 0) = true := by simp; omega
    go_wp2_with fail
    go_ret
    rw [HPU.out]
    exact ⟨rfl, H2.out⟩
end Go.Proofs.YtfdnpchbbngpjaaGreat
