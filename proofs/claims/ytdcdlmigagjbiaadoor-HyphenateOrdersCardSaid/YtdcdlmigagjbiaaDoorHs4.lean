/- check, small, made walked. -/
import Derived.Test.YtdcdlmigagjbiaaDoorHs2m
import Derived.Test.YtdcdlmigagjbiaaDoorHs3
import Derived.Test.YtdcdlmigagjbiaaDoorHop
namespace Go.Proofs.YtdcdlmigagjbiaaDoor
open Go.RowKit Go.Maps
/-! ### small -/
def smallP (pats exs : List (List UInt8)) : Bool := decide (pats.length ≤ 40) && decide (exs.length ≤ 10) && pats.all (fun s => decide (s.length ≤ 100)) && exs.all (fun s => decide (s.length ≤ 100))
theorem smallP_iff {pats exs : List (List UInt8)} : smallP pats exs = true ↔ pats.length ≤ 40 ∧ exs.length ≤ 10 ∧ (∀ s, s ∈ pats → s.length ≤ 100) ∧ ∀ s, s ∈ exs → s.length ≤ 100 := by
  unfold smallP
  simp only [Bool.and_eq_true, decide_eq_true_eq, List.all_eq_true, and_assoc]
theorem smallP_no {pats exs : List (List UInt8)} (h : ¬ (pats.length ≤ 40 ∧ exs.length ≤ 10 ∧ (∀ s, s ∈ pats → s.length ≤ 100) ∧ ∀ s, s ∈ exs → s.length ≤ 100)) : smallP pats exs = false := by
  rw [← Bool.not_eq_true, smallP_iff]; exact h
theorem getD_in {α : Type} {l : List α} {d : α} {k : Nat} (h : k < l.length) : l.getD k d ∈ l := by
  rw [List.getD_eq_getElem?_getD, List.getElem?_eq_getElem h]; exact List.getElem_mem h
theorem all_len {l : List (List UInt8)} {n : Nat} (h : ∀ j, j < l.length → (l.getD j []).length ≤ n) : ∀ s, s ∈ l → s.length ≤ n := by
  intro s hs
  obtain ⟨j, hj, rfl⟩ := List.mem_iff_getElem.1 hs
  have := h j hj
  rwa [List.getD_eq_getElem?_getD, List.getElem?_eq_getElem hj] at this
/-- a dictionary's cells, as the callee boxes it -/
theorem dict_blk (w : World) (D : DictV) : Blk (w.alloc (.cells #[D.pv, D.ev, .int .i64 D.left, .int .i64 D.right] 44)) w.heap.size 44 #[D.pv, D.ev, .int .i64 D.left, .int .i64 D.right] := Blk.new _ _ _
theorem DictV.At.below {D : DictV} {w w' : World} (h : D.At w) (hb : Below w.heap.size w w') : D.At w' := ⟨h.pats.below hb, h.exs.below hb, h.left, h.right⟩
set_option maxRecDepth 100000 in
set_option maxHeartbeats 1600000 in
theorem small_any (D : DictV) (w : World) (H : D.At w) : Calls Tryd.prog 24 #[D.val] w (BoolPost (smallP D.pats D.exs) w) := by
  obtain ⟨pv, ev, pats, exs, left, right⟩ := D
  obtain ⟨hp0, he0, _, _⟩ := H
  have hp : Strs w pv pats := hp0
  have he : Strs w ev exs := he0
  clear hp0 he0
  show Calls Tryd.prog 24 #[.agg #[pv, ev, .int .i64 left, .int .i64 right]] w (BoolPost (smallP pats exs) w)
  obtain ⟨pao, pcap, rfl, _⟩ := id hp
  obtain ⟨eao, ecap, rfl, _⟩ := id he
  have HPS := Lib.hid hp
  have HES := Lib.hid he
  have HBK := Lib.hid (Blk.new w 44 #[.slice pao pats.length pcap, .slice eao exs.length ecap, .int .i64 left, .int .i64 right])
  have HBW := Lib.hid ((Below.refl w.heap.size w).alloc (Nat.le_refl _) (.cells #[.slice pao pats.length pcap, .slice eao exs.length ecap, .int .i64 left, .int .i64 right] 44))
  have HNO := Lib.hid (fun h => smallP_no (pats := pats) (exs := exs) h)
  have HYES := Lib.hid (fun h => (smallP_iff (pats := pats) (exs := exs)).2 h)
  clear hp he
  obtain ⟨W, hW⟩ : ∃ W, w.alloc (.cells #[.slice pao pats.length pcap, .slice eao exs.length ecap, .int .i64 left, .int .i64 right] 44) = W := ⟨_, rfl⟩
  rw [hW] at HBK HBW
  obtain ⟨c0, c1, c2, c3⟩ := HBK.out.four
  by_cases h1 : 40 < pats.length
  · have d1 : decide (40 < pats.length) = true := by simp [h1]
    have HX := Lib.hid (HNO.out (by omega))
    go_enter Tryd.func24, Tryd.ntmps24
    go_wp2_with fail
    refine bodyPost_ret (v := .bool false) (by simp [results, Tryd.f24, go_sem]) rfl (boolPost HX.out HBW.out)
  have d1 : decide (40 < pats.length) = false := by simp [h1]
  by_cases h2 : 10 < exs.length
  · have d2 : decide (10 < exs.length) = true := by simp [h2]
    have HX := Lib.hid (HNO.out (by omega))
    go_enter Tryd.func24, Tryd.ntmps24
    go_wp2_with fail
    refine bodyPost_ret (v := .bool false) (by simp [results, Tryd.f24, go_sem]) rfl (boolPost HX.out HBW.out)
  have d2 : decide (10 < exs.length) = false := by simp [h2]
  go_enter Tryd.func24, Tryd.ntmps24
  go_wp2_with fail
  go_loopw [3] (fun i wr => ∃ k : Nat, k ≤ pats.length ∧ i = .int .i64 (k : Int) ∧ wr = W ∧ Hid (∀ j, j < k → (pats.getD j []).length ≤ 100)) (fun i _ => pats.length - (intOf i).toNat)
  case atStart => exact ⟨0, Nat.zero_le _, rfl, rfl, Lib.hid (fun j hj => absurd hj (Nat.not_lt_zero j))⟩
  case round =>
    obtain ⟨k, hk, rfl, rfl, HA⟩ := hrel
    by_cases hlt : k < pats.length
    · obtain ⟨pb, poff, rfl, hcell⟩ := strs_at HPS.out HBW.out hlt
      have HM := Lib.hid (getD_in (d := []) hlt)
      have HA2 := Lib.hid (fun (h0 : (pats.getD k []).length ≤ 100) (j : Nat) (hj : j < k + 1) => show (pats.getD j []).length ≤ 100 by
        rcases Nat.lt_or_ge j k with hx | hx
        · exact HA.out j hx
        · have : j = k := by omega
          rw [this]; exact h0)
      obtain ⟨s, hs⟩ : ∃ s, pats.getD k [] = s := ⟨_, rfl⟩
      rw [hs] at hcell HM HA2
      clear hs
      by_cases h100 : 100 < s.length
      · have d3 : decide (100 < s.length) = true := by simp [h100]
        have HX := Lib.hid (HNO.out (fun h => by have := h.2.2.1 s HM.out; omega))
        go_wp2_with fail
        refine bodyPost_ret (v := .bool false) (by simp [results, Tryd.f24, go_sem]) rfl (boolPost HX.out HBW.out)
      · have d3 : decide (100 < s.length) = false := by simp [h100]
        go_wp2_with fail
        exact ⟨⟨k + 1, hlt, by go_num, trivial, Lib.hid (HA2.out (by omega))⟩, by simp [intOf]; omega⟩
    · have hke : k = pats.length := by omega
      subst hke
      have HAP := Lib.hid (all_len HA.out)
      have d7 : decide (pats.length < pats.length) = false := by simp
      clear HA
      go_wp2_with fail
      go_loopw [4] (fun i wr2 => ∃ k : Nat, k ≤ exs.length ∧ i = .int .i64 (k : Int) ∧ wr2 = wr ∧ Hid (∀ j, j < k → (exs.getD j []).length ≤ 100)) (fun i _ => exs.length - (intOf i).toNat)
      case atStart => exact ⟨0, Nat.zero_le _, rfl, rfl, Lib.hid (fun j hj => absurd hj (Nat.not_lt_zero j))⟩
      case round =>
        obtain ⟨k, hk, rfl, rfl, HA⟩ := hrel
        by_cases hlt : k < exs.length
        · obtain ⟨pb, poff, rfl, hcell⟩ := strs_at HES.out HBW.out hlt
          have HM := Lib.hid (getD_in (d := []) hlt)
          have HA2 := Lib.hid (fun (h0 : (exs.getD k []).length ≤ 100) (j : Nat) (hj : j < k + 1) => show (exs.getD j []).length ≤ 100 by
            rcases Nat.lt_or_ge j k with hx | hx
            · exact HA.out j hx
            · have : j = k := by omega
              rw [this]; exact h0)
          obtain ⟨s, hs⟩ : ∃ s, exs.getD k [] = s := ⟨_, rfl⟩
          rw [hs] at hcell HM HA2
          clear hs
          by_cases h100 : 100 < s.length
          · have d3 : decide (100 < s.length) = true := by simp [h100]
            have HX := Lib.hid (HNO.out (fun h => by have := h.2.2.2 s HM.out; omega))
            go_wp2_with fail
            refine bodyPost_ret (v := .bool false) (by simp [results, Tryd.f24, go_sem]) rfl (boolPost HX.out HBW.out)
          · have d3 : decide (100 < s.length) = false := by simp [h100]
            go_wp2_with fail
            exact ⟨⟨k + 1, hlt, by go_num, trivial, Lib.hid (HA2.out (by omega))⟩, by simp [intOf]; omega⟩
        · have hke : k = exs.length := by omega
          subst hke
          have HX := Lib.hid (HYES.out ⟨by omega, by omega, HAP.out, all_len HA.out⟩)
          have d8 : decide (exs.length < exs.length) = false := by simp
          go_wp2_with fail
          refine bodyPost_ret (v := .bool true) (by simp [results, Tryd.f24, go_sem]) rfl (boolPost HX.out HBW.out)
/-! ### made -/
def MadeP (n : Nat) (st : HS) (w : World) (e : Ending) (w' : World) : Prop :=
  Below w.heap.size w w' ∧ ((n ≠ 0 ∧ e = .returned (.tuple #[.pointer none, .bool false])) ∨ (n = 0 ∧ ∃ hb B, e = .returned (.tuple #[.pointer (some ⟨hb, 0, none⟩), .bool true]) ∧ Hyph w' B hb st))
def MadePost (D : DictV) : World → Ending → World → Prop := MadeP (newE D.pats D.exs D.left D.right) (newS D.pats D.exs D.left D.right)
theorem madeP_no {n : Nat} {st : HS} {w w' : World} (h : n ≠ 0) (hb : Below w.heap.size w w') : MadeP n st w (.returned (.tuple #[.pointer none, .bool false])) w' := ⟨hb, .inl ⟨h, rfl⟩⟩
theorem madeP_yes {st : HS} {w w' : World} {hb B : Nat} (hB : Below w.heap.size w w') (hh : Hyph w' B hb st) : MadeP 0 st w (.returned (.tuple #[.pointer (some ⟨hb, 0, none⟩), .bool true])) w' := ⟨hB, .inr ⟨rfl, hb, B, rfl, hh⟩⟩
set_option maxRecDepth 100000 in
theorem made_any (D : DictV) (w : World) (H : D.At w) (hpl : ∀ s, s ∈ D.pats → s.length ≤ 100000000) (hel : ∀ s, s ∈ D.exs → s.length ≤ 100000000) : Calls Tryd.prog 27 #[D.val] w (MadePost D w) := by
  obtain ⟨pv, ev, pats, exs, left, right⟩ := D
  obtain ⟨hp0, he0, _, _⟩ := H
  have hp : Strs w pv pats := hp0
  have he : Strs w ev exs := he0
  clear hp0 he0
  show Calls Tryd.prog 27 #[.agg #[pv, ev, .int .i64 left, .int .i64 right]] w (MadePost ⟨pv, ev, pats, exs, left, right⟩ w)
  have HBK := Lib.hid (Blk.new w 44 #[pv, ev, .int .i64 left, .int .i64 right])
  have HBW := Lib.hid ((Below.refl w.heap.size w).alloc (Nat.le_refl _) (.cells #[pv, ev, .int .i64 left, .int .i64 right] 44))
  obtain ⟨W, hW⟩ : ∃ W, w.alloc (.cells #[pv, ev, .int .i64 left, .int .i64 right] 44) = W := ⟨_, rfl⟩
  rw [hW] at HBK HBW
  obtain ⟨c0, c1, c2, c3⟩ := HBK.out.four
  have HN := Lib.hid (new_any pats exs left right pv ev W (hp.below HBW.out) (he.below HBW.out) hpl hel)
  have hws := HBW.out.size
  clear hp he hpl hel
  show Calls Tryd.prog 27 #[.agg #[pv, ev, .int .i64 left, .int .i64 right]] w (MadeP (newE pats exs left right) (newS pats exs left right) w)
  obtain ⟨n, hn⟩ : ∃ n, newE pats exs left right = n := ⟨_, rfl⟩
  unfold NewPost at HN
  rw [hn] at HN ⊢
  clear hn
  by_cases h0 : n = 0
  · subst h0
    go_enter Tryd.func27, Tryd.ntmps27
    go_wp2_with (go_at_call 25; refine (HN.out).mono ?_; rintro e w1 ⟨hb1, ⟨hx, _⟩ | ⟨_, hb, rfl, hh⟩⟩; · exact absurd rfl hx)
    refine bodyPost_ret (v := .tuple #[.pointer (some ⟨hb, 0, none⟩), .bool true]) (by simp [results, Tryd.f27, go_sem]) rfl (madeP_yes (HBW.out.trans (hb1.mono hws)) hh)
  · have d0 : (n = 0) = False := by simp [h0]
    go_enter Tryd.func27, Tryd.ntmps27
    go_wp2_with (go_at_call 25; refine (HN.out).mono ?_; rintro e w1 ⟨hb1, ⟨_, rfl⟩ | ⟨hx, _⟩⟩; rotate_left; · exact absurd hx h0)
    refine bodyPost_ret (v := .tuple #[.pointer none, .bool false]) (by simp [results, Tryd.f27, go_sem]) rfl (madeP_no h0 (HBW.out.trans (hb1.mono hws)))
end Go.Proofs.YtdcdlmigagjbiaaDoor
