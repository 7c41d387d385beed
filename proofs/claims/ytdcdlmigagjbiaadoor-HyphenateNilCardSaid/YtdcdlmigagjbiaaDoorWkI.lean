/- The walks of Offset, Unit, Slice. -/
import Derived.Test.YtdcdlmigagjbiaaDoorWkH
import Derived.StillTailTactics
import Derived.Outline
namespace Go.Proofs.YtdcdlmigagjbiaaDoor
open Go.RowKit
def begN (l : List UInt8) : List Nat := headPos 0 l ++ [l.length]
theorem beginsP_eq (l : List UInt8) : beginsP l = (begN l).map fun p => ((p : Nat) : Int) := by
  unfold beginsP begN posI; simp
theorem beginsP_len (l : List UInt8) : (beginsP l).length = (begN l).length := by rw [beginsP_eq]; simp
theorem beginsP_get (l : List UInt8) (i : Nat) : (beginsP l).getD i 0 = (((begN l).getD i 0 : Nat) : Int) := by
  rw [beginsP_eq, List.getD, List.getD, List.getElem?_map]
  cases (begN l)[i]? <;> rfl
theorem headPos_low (l : List UInt8) : ∀ i, ∀ x ∈ headPos i l, i ≤ x ∧ x < i + l.length := by
  induction l with
  | nil => intro i x h; simp [headPos] at h
  | cons c l ih =>
    intro i x h
    rw [List.length_cons]
    simp only [headPos] at h
    by_cases hc : isHead c = true
    · rw [if_pos hc] at h
      rcases List.mem_cons.1 h with h | h
      · omega
      · have := ih _ _ h; omega
    · rw [if_neg hc] at h
      have := ih _ _ h; omega
theorem headPos_sorted (l : List UInt8) : ∀ i, List.Pairwise (· < ·) (headPos i l) := by
  induction l with
  | nil => intro i; simp [headPos]
  | cons c l ih =>
    intro i
    simp only [headPos]
    by_cases hc : isHead c = true
    · rw [if_pos hc, List.pairwise_cons]
      exact ⟨fun x hx => by have := headPos_low l _ x hx; omega, ih _⟩
    · rw [if_neg hc]; exact ih _
theorem begN_sorted (l : List UInt8) : List.Pairwise (· < ·) (begN l) := by
  unfold begN
  rw [List.pairwise_append]
  refine ⟨headPos_sorted l 0, List.pairwise_singleton _ _, fun x hx y hy => ?_⟩
  rw [List.mem_singleton] at hy
  have := headPos_low l 0 x hx
  omega
theorem begN_le (l : List UInt8) (i : Nat) (h : i < (begN l).length) : (begN l).getD i 0 ≤ l.length := by
  rw [List.getD, List.getElem?_eq_getElem h]
  have hm := List.getElem_mem h
  generalize (begN l)[i] = x at hm
  unfold begN at hm
  rcases List.mem_append.1 hm with h | h
  · have := headPos_low l 0 x h; simp; omega
  · rw [List.mem_singleton] at h; simp; omega
theorem begN_mono (l : List UInt8) (i j : Nat) (hij : i ≤ j) (h : j < (begN l).length) : (begN l).getD i 0 ≤ (begN l).getD j 0 := by
  rcases Nat.lt_or_eq_of_le hij with hlt | rfl
  · have := List.pairwise_iff_getElem.1 (begN_sorted l) i j (by omega) h hlt
    rw [List.getD, List.getD, List.getElem?_eq_getElem h, List.getElem?_eq_getElem (by omega)]
    simp; omega
  · exact Nat.le_refl _
theorem begN_len (s : ByteArray) : (begN s.data.toList).length ≤ s.size + 1 := by
  unfold begN
  have := headPos_len s.data.toList 0
  rw [List.length_append]
  simp at this ⊢; omega

/-- what Offset returns -/
def offP (l : List UInt8) (u : Int) : Int × Int := if (U.bad l).isEmpty then (if u < 0 ∨ ((begN l).length : Int) ≤ u then (0, 2) else ((((begN l).getD u.toNat 0 : Nat) : Int), (0 : Int))) else (0, 12)
theorem ret_off {t : Int × Int} {a b : Int} (h : t = (a, b)) : Ending.returned (.tuple #[.int .i64 a, .int .i64 b]) = .returned (.tuple #[.int .i64 t.1, .int .i64 t.2]) := by rw [h]
/-- the row that begins hands back, opened -/
theorem begins_at (s : ByteArray) (hs : s.size ≤ 4294967296) (w : World) :
    Calls Tryd.prog 49 #[.string s] w fun e w' => ∃ b off cap : Nat, e = .returned (.slice (some ⟨b, off, none⟩) (begN s.data.toList).length cap) ∧ Below w.heap.size w w' ∧ (begN s.data.toList).length ≤ cap ∧ cap ≤ maxLen ∧ w.heap.size ≤ w'.heap.size ∧
      ∀ j, j < (begN s.data.toList).length → w'.cell? ⟨b, off + j, none⟩ = some (.int .i64 (((begN s.data.toList).getD j 0 : Nat) : Int)) := by
  refine (begins_any s hs w).mono fun e w' h => ?_
  obtain ⟨v, rfl, hb, hown⟩ := h
  have hI := Ints.of_owns hown
  rcases hI.open with ⟨h0, _⟩ | ⟨_, b, off, cap, rfl, h1, h2, _, hc⟩
  · exact absurd h0 (by unfold beginsP; simp)
  · rw [beginsP_len] at h1 hc ⊢
    exact ⟨b, off, cap, rfl, hb, h1, h2, hb.size, fun j hj => by rw [hc j hj, beginsP_get]⟩
set_option maxRecDepth 100000 in
set_option maxHeartbeats 400000 in
theorem offset_any (s : ByteArray) (u : Int) (hs : s.size ≤ 4294967296) (w : World) :
    Calls Tryd.prog 36 #[.string s, .int .i64 u] w fun e w' => e = .returned (.tuple #[.int .i64 (offP s.data.toList u).1, .int .i64 (offP s.data.toList u).2]) ∧ Below w.heap.size w w' := by
  obtain ⟨b, hb⟩ : ∃ b, (U.bad s.data.toList).isEmpty = b := ⟨_, rfl⟩
  have Hb := Lib.hid hb
  clear hb
  cases b
  · have hx := Lib.hid (show offP s.data.toList u = (0, 12) by unfold offP; rw [Hb.out]; rfl)
    go_enter Tryd.func36, Tryd.ntmps36
    go_wp2_with ((go_at_call 23; (with_reducible refine (valid_at s _ hs Hb _).mono ?_); rintro e w' ⟨rfl, rfl⟩))
    go_ret2
    exact ⟨ret_off hx.out, Below.refl _ _⟩
  · have hx := Lib.hid (show offP s.data.toList u = if u < 0 ∨ ((begN s.data.toList).length : Int) ≤ u then (0, 2) else ((((begN s.data.toList).getD u.toNat 0 : Nat) : Int), (0 : Int)) by unfold offP; rw [Hb.out]; rfl)
    have hlen := begN_len s
    have hle := begN_le s.data.toList
    have hba := Lib.hid (begins_at s hs w)
    have hbl := Lib.hid (fun i h => begN_le s.data.toList i h)
    clear hle
    generalize begN s.data.toList = L at hx hlen hba hbl
    rcases (by omega : u < 0 ∨ (0 ≤ u ∧ (L.length : Int) ≤ u) ∨ (0 ≤ u ∧ u < L.length)) with h | ⟨h, h'⟩ | ⟨h, h'⟩
    · have hx := Lib.hid (hx.out.trans (if_pos (Or.inl h)))
      go_enter Tryd.func36, Tryd.ntmps36
      go_wp2_with (first
        | (go_at_call 23; (with_reducible refine (valid_at s _ hs Hb _).mono ?_); rintro e w' ⟨rfl, rfl⟩)
        | (go_at_call 49; (with_reducible refine hba.out.mono ?_); rintro e w1 ⟨b, off, cap, rfl, hb1, hc1, hc2, hsz, hcells⟩; have Hcells := Lib.hid hcells; clear hcells))
      go_ret2
      exact ⟨ret_off hx.out, hb1⟩
    · have hx := Lib.hid (hx.out.trans (if_pos (Or.inr h')))
      go_enter Tryd.func36, Tryd.ntmps36
      go_wp2_with (first
        | (go_at_call 23; (with_reducible refine (valid_at s _ hs Hb _).mono ?_); rintro e w' ⟨rfl, rfl⟩)
        | (go_at_call 49; (with_reducible refine hba.out.mono ?_); rintro e w1 ⟨b, off, cap, rfl, hb1, hc1, hc2, hsz, hcells⟩; have Hcells := Lib.hid hcells; clear hcells))
      go_ret2
      exact ⟨ret_off hx.out, hb1⟩
    · obtain ⟨k, rfl⟩ := Int.eq_ofNat_of_zero_le h
      have hk : k < L.length := by omega
      obtain ⟨x, hxk⟩ : ∃ x, L.getD k 0 = x := ⟨_, rfl⟩
      have Hxk := Lib.hid hxk
      clear hxk
      have hx := Lib.hid (hx.out.trans (if_neg (by omega)))
      go_enter Tryd.func36, Tryd.ntmps36
      go_wp2_with (first
        | (go_at_call 23; (with_reducible refine (valid_at s _ hs Hb _).mono ?_); rintro e w' ⟨rfl, rfl⟩)
        | (go_at_call 49; (with_reducible refine hba.out.mono ?_); rintro e w1 ⟨b, off, cap, rfl, hb1, hc1, hc2, hsz, hcells⟩; have hcell := hcells k hk; rw [Hxk.out] at hcell; clear hcells))
      go_ret2
      exact ⟨ret_off (by rw [hx.out, Int.toNat_natCast, Hxk.out]), hb1⟩

/-- what Unit returns -/
def unitP (l : List UInt8) (o : Int) : Nat × Nat :=
  if (U.bad l).isEmpty then (if o < 0 ∨ (l.length : Int) < o ∨ (o < l.length ∧ ((l[o.toNat]?).map isHead) = some false) then (0, 2) else countP (l.take o.toNat)) else (0, 12)
theorem ret_unit {t : Nat × Nat} {a b : Nat} (h : t = (a, b)) : Ending.returned (.tuple #[.int .i64 a, .int .i64 b]) = .returned (.tuple #[.int .i64 t.1, .int .i64 t.2]) := by rw [h]
theorem extract_take (s : ByteArray) (k : Nat) : (s.extract 0 k).data.toList = s.data.toList.take k := by
  rw [Lib.extract_data, List.drop_zero, Nat.sub_zero]
theorem count_at (s : ByteArray) (t : Nat × Nat) (hs : s.size ≤ 4294967296) (h : Hid (countP s.data.toList = t)) (w : World) :
    Calls Tryd.prog 34 #[.string s] w fun e w' => e = .returned (.tuple #[.int .i64 t.1, .int .i64 t.2]) ∧ w = w' := by
  have := count_any s hs w
  rw [h.out] at this
  exact this
end Go.Proofs.YtdcdlmigagjbiaaDoor
