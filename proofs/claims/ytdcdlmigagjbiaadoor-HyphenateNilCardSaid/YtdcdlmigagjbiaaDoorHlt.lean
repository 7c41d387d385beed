/- letters walked. -/
import Derived.Test.YtdcdlmigagjbiaaDoorHle
namespace Go.Proofs.YtdcdlmigagjbiaaDoor
open Go.RowKit
theorem row_slice {W : World} {base : Nat} {e : TypeId} {v : Value} {k : Nat} {xs : List Value} (h : W.ownsRow base e 1 v k xs) : ∃ ao cap, v = .slice ao k cap := by
  rcases h.2 with ⟨h1, h2⟩ | ⟨g, cap, cur, h1, _⟩
  · exact ⟨none, 0, by rw [h1, h2]⟩
  · exact ⟨_, _, h1⟩
/-- what letters returns -/
def LettersPost (s : ByteArray) (w : World) (e : Ending) (w' : World) : Prop :=
  ∃ v, e = .returned (.tuple #[v, .bool (letsP s.data.toList)]) ∧ Below w.heap.size w w' ∧ (if letsP s.data.toList then IntRow w' w.heap.size v (ptsI s.data.toList) else v = .slice none 0 0)
theorem lettersPost_no {s : ByteArray} {w w' : World} (h : letsP s.data.toList = false) (hb : Below w.heap.size w w') : LettersPost s w (.returned (.tuple #[.slice none 0 0, .bool false])) w' := by
  refine ⟨.slice none 0 0, by rw [h], hb, ?_⟩
  rw [if_neg (by rw [h]; simp)]
theorem lettersPost_yes {s : ByteArray} {w w' : World} {v : Value} (h : letsP s.data.toList = true) (hb : Below w.heap.size w w') (hv : IntRow w' w.heap.size v (ptsI s.data.toList)) : LettersPost s w (.returned (.tuple #[v, .bool true])) w' := by
  refine ⟨v, by rw [h], hb, ?_⟩
  rw [if_pos h]
  exact hv
theorem letsP_no {l : List UInt8} {k : Nat} (h : k < (ptsI l).length) (hk : letC ((ptsI l).getD k 0) = false) : letsP l = false := by
  unfold letsP
  rw [Bool.and_eq_false_iff]
  right
  rw [List.all_eq_false]
  refine ⟨(ptsI l)[k], List.getElem_mem h, ?_⟩
  rw [List.getD_eq_getElem?_getD, List.getElem?_eq_getElem h] at hk
  simpa using hk
theorem letsP_yes {l : List UInt8} (hb : (U.bad l).isEmpty = true) (h : ∀ k, k < (ptsI l).length → letC ((ptsI l).getD k 0) = true) : letsP l = true := by
  unfold letsP
  rw [hb, Bool.true_and, List.all_eq_true]
  intro x hx
  obtain ⟨k, hk, rfl⟩ := List.mem_iff_getElem.1 hx
  have := h k hk
  rwa [List.getD_eq_getElem?_getD, List.getElem?_eq_getElem hk] at this
theorem pts_len0 (s : ByteArray) : (ptsI s.data.toList).length ≤ s.size := pts_len s 0 [] rfl |> fun h => by simpa using pts_len s s.size (ptsI s.data.toList) (by rw [List.drop_of_length_le (by simp)]; simp [ptsI, U.scan_nil.1])
set_option maxRecDepth 100000 in
set_option maxHeartbeats 400000 in
theorem letters_any (s : ByteArray) (hs : s.size ≤ 4294967296) (w : World) :
    Calls Tryd.prog 39 #[.string s] w (LettersPost s w) := by
  have hl := pts_len0 s
  obtain ⟨b, hb⟩ : ∃ b, (U.bad s.data.toList).isEmpty = b := ⟨_, rfl⟩
  cases b with
  | false =>
    have hp := fun w0 => points_any s hs w0
    unfold PointsPost at hp
    rw [hb] at hp
    have HP := Lib.hid hp
    have hv : letsP s.data.toList = false := by unfold letsP; rw [hb]; rfl
    have HV := Lib.hid hv
    clear hp hb hv hl
    go_enter Tryd.func39, Tryd.ntmps39
    go_wp2_with (go_at_call 38; refine (HP.out _).mono ?_; rintro e w1 ⟨v, rfl, hb1, rfl⟩)
    refine bodyPost_ret (v := .tuple #[.slice none 0 0, .bool false]) (by simp [results, Tryd.f39, go_sem]) rfl (lettersPost_no HV.out hb1)
  | true =>
    have hp := fun w0 => points_any s hs w0
    unfold PointsPost at hp
    rw [hb] at hp
    simp only [if_true] at hp
    have HP := Lib.hid hp
    have HB := Lib.hid hb
    have hvn := Lib.hid (fun k hk => letsP_no (l := s.data.toList) (k := k) hk)
    have hvy := Lib.hid (letsP_yes hb)
    obtain ⟨L, hL⟩ : ∃ L, ptsI s.data.toList = L := ⟨_, rfl⟩
    rw [hL] at HP hvn hvy hl
    have HL := Lib.hid hL
    clear hp hb hL
    go_enter Tryd.func39, Tryd.ntmps39
    go_wp2_with (go_at_call 38; refine (HP.out _).mono ?_; rintro e w1 ⟨v, rfl, hb1, hown⟩; obtain ⟨ao, cap, rfl⟩ := row_slice hown)
    have HI := Lib.hid (Ints.of_owns hown)
    have hcell : ∀ k, k < L.length → ∃ b off, ao = some ⟨b, off, none⟩ ∧ w1.cell? ⟨b, off + k, none⟩ = some (.int .i64 (L.getD k 0)) := fun k hk => by
      rcases HI.out.open with ⟨h0, _⟩ | ⟨_, b, off, cap', hv, _, _, _, hc⟩
      · rw [h0] at hk; cases hk
      · injection hv with e1 _ _
        exact ⟨b, off, e1, hc k hk⟩
    have HC := Lib.hid hcell
    have HO := Lib.hid hown
    clear hcell hown
    go_loopw [2, 16] (fun lv i wr => ∃ k : Nat, k ≤ L.length ∧ lv = .slice ao L.length cap ∧ i = .int .i64 (k : Int) ∧ wr = w1 ∧ Hid (∀ j, j < k → letC (L.getD j 0) = true)) (fun _ i _ => L.length - (intOf i).toNat)
    case atStart => exact ⟨0, Nat.zero_le _, rfl, rfl, rfl, Lib.hid (fun j hj => absurd hj (Nat.not_lt_zero j))⟩
    case round =>
      obtain ⟨k, hk, rfl, rfl, rfl, hall⟩ := hrel
      by_cases hlt : k < L.length
      · obtain ⟨b, off, rfl, hc⟩ := HC.out k hlt
        obtain ⟨c, hp⟩ : ∃ c, letC (L.getD k 0) = c := ⟨_, rfl⟩
        have hno := Lib.hid (fun h => hvn.out k hlt h)
        have hgo := Lib.hid (fun (h : letC (L.getD k 0) = true) j (hj : j < k + 1) => by
          rcases Nat.lt_or_ge j k with h1 | h1
          · exact hall.out j h1
          · obtain rfl : j = k := by omega
            exact h)
        generalize L.getD k 0 = z at hc hp hno hgo
        have HP2 := Lib.hid hp
        cases c
        · clear hp
          go_wp2_with (go_at_call 52; refine (letter_any _ _).mono ?_; rw [HP2.out]; rintro e w' ⟨rfl, rfl⟩)
          exact bodyPost_ret (v := .tuple #[.slice none 0 0, .bool false]) (by simp [results, Tryd.f39, go_sem]) rfl (lettersPost_no (hno.out HP2.out) hb1)
        · clear hp
          go_wp2_with (go_at_call 52; refine (letter_any _ _).mono ?_; rw [HP2.out]; rintro e w' ⟨rfl, rfl⟩)
          exact ⟨⟨k + 1, by omega, rfl, by go_num, trivial, Lib.hid (hgo.out HP2.out)⟩, by simp [intOf]; omega⟩
      · have hke : k = L.length := by omega
        subst hke
        go_wp2_with fail
        exact bodyPost_ret (v := .tuple #[.slice ao L.length cap, .bool true]) (by simp [results, Tryd.f39, go_sem]) rfl (lettersPost_yes (hvy.out hall.out) hb1 (by rw [HL.out]; exact HO.out))
end Go.Proofs.YtdcdlmigagjbiaaDoor
