/- the law's letters walked. -/
import Derived.Test.YtdcdlmigagjbiaaDoorHlt
namespace Go.Proofs.YtdcdlmigagjbiaaDoor
open Go.RowKit
set_option maxRecDepth 100000 in
set_option maxHeartbeats 400000 in
theorem letters2_any (s : ByteArray) (hs : s.size ≤ 4294967296) (w : World) :
    Calls Tryd.prog 44 #[.string s] w (LettersPost s w) := by
  have hl := pts_len0 s
  obtain ⟨b, hb⟩ : ∃ b, (U.bad s.data.toList).isEmpty = b := ⟨_, rfl⟩
  cases b with
  | false =>
    have hp := fun w0 => points_any s hs w0
    unfold PointsPost at hp
    rw [hb] at hp
    have HP := Lib.hid hp
    have hv : letsP s.data.toList = false := by unfold letsP; rw [hb]; rfl
    have HV := Lib.hid hv
    clear hp hb hv hl
    go_enter Tryd.func44, Tryd.ntmps44
    go_wp2_with (go_at_call 38; refine (HP.out _).mono ?_; rintro e w1 ⟨v, rfl, hb1, rfl⟩)
    refine bodyPost_ret (v := .tuple #[.slice none 0 0, .bool false]) (by simp [results, Tryd.f44, go_sem]) rfl (lettersPost_no HV.out hb1)
  | true =>
    have hp := fun w0 => points_any s hs w0
    unfold PointsPost at hp
    rw [hb] at hp
    simp only [if_true] at hp
    have HP := Lib.hid hp
    have HB := Lib.hid hb
    have hvn := Lib.hid (fun k hk => letsP_no (l := s.data.toList) (k := k) hk)
    have hvy := Lib.hid (letsP_yes hb)
    obtain ⟨L, hL⟩ : ∃ L, ptsI s.data.toList = L := ⟨_, rfl⟩
    rw [hL] at HP hvn hvy hl
    have HL := Lib.hid hL
    clear hp hb hL
    go_enter Tryd.func44, Tryd.ntmps44
    go_wp2_with (go_at_call 38; refine (HP.out _).mono ?_; rintro e w1 ⟨v, rfl, hb1, hown⟩; obtain ⟨ao, cap, rfl⟩ := row_slice hown)
    have HI := Lib.hid (Ints.of_owns hown)
    have hcell : ∀ k, k < L.length → ∃ b off, ao = some ⟨b, off, none⟩ ∧ w1.cell? ⟨b, off + k, none⟩ = some (.int .i64 (L.getD k 0)) := fun k hk => by
      rcases HI.out.open with ⟨h0, _⟩ | ⟨_, b, off, cap', hv, _, _, _, hc⟩
      · rw [h0] at hk; cases hk
      · injection hv with e1 _ _
        exact ⟨b, off, e1, hc k hk⟩
    have HC := Lib.hid hcell
    have HO := Lib.hid hown
    clear hcell hown
    go_loopw [6] (fun i wr => ∃ k : Nat, k ≤ L.length ∧ i = .int .i64 (k : Int) ∧ wr = w1 ∧ Hid (∀ j, j < k → letC (L.getD j 0) = true)) (fun i _ => L.length - (intOf i).toNat)
    case atStart => exact ⟨0, Nat.zero_le _, rfl, rfl, Lib.hid (fun j hj => absurd hj (Nat.not_lt_zero j))⟩
    case round =>
      obtain ⟨k, hk, rfl, rfl, hall⟩ := hrel
      by_cases hlt : k < L.length
      · obtain ⟨b, off, rfl, hc⟩ := HC.out k hlt
        obtain ⟨c, hp⟩ : ∃ c, letC (L.getD k 0) = c := ⟨_, rfl⟩
        have hno := Lib.hid (fun h => hvn.out k hlt h)
        have hgo := Lib.hid (fun (h : letC (L.getD k 0) = true) j (hj : j < k + 1) => by
          rcases Nat.lt_or_ge j k with h1 | h1
          · exact hall.out j h1
          · obtain rfl : j = k := by omega
            exact h)
        generalize L.getD k 0 = z at hc hp hno hgo
        have HP2 := Lib.hid hp
        cases c
        · clear hp
          go_wp2_with (go_at_call 48; refine (letter2_any _ _).mono ?_; rw [HP2.out]; rintro e w' ⟨rfl, rfl⟩)
          exact bodyPost_ret (v := .tuple #[.slice none 0 0, .bool false]) (by simp [results, Tryd.f44, go_sem]) rfl (lettersPost_no (hno.out HP2.out) hb1)
        · clear hp
          go_wp2_with (go_at_call 48; refine (letter2_any _ _).mono ?_; rw [HP2.out]; rintro e w' ⟨rfl, rfl⟩)
          exact ⟨⟨k + 1, by omega, by go_num, trivial, Lib.hid (hgo.out HP2.out)⟩, by simp [intOf]; omega⟩
      · have hke : k = L.length := by omega
        subst hke
        go_wp2_with fail
        exact bodyPost_ret (v := .tuple #[.slice ao L.length cap, .bool true]) (by simp [results, Tryd.f44, go_sem]) rfl (lettersPost_yes (hvy.out hall.out) hb1 (by rw [HL.out]; exact HO.out))
end Go.Proofs.YtdcdlmigagjbiaaDoor
