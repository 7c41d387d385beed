/- word walked. -/
import Derived.Test.YtdcdlmigagjbiaaDoorHnw
namespace Go.Proofs.YtdcdlmigagjbiaaDoor
open Go.RowKit Go.Maps
theorem foldP_len (t : List UInt8) : (foldP t).length = t.length := by unfold foldP; rw [List.length_map]
theorem word_nil (t : List UInt8) (w : World) : Calls Tryd.prog 35 #[.pointer none, .string ⟨t.toArray⟩] w fun e w' => e = .returned (.tuple #[.slice none 0 0, .bool false]) ∧ w = w' := by
  go_enter Tryd.func35, Tryd.ntmps35
  go_wp2
  refine bodyPost_ret (v := .tuple #[.slice none 0 0, .bool false]) (by simp [results, Tryd.f35, go_sem]) rfl ⟨rfl, rfl⟩
def WordYes (L : List Int) (w : World) (e : Ending) (w' : World) : Prop := ∃ ao cap, e = .returned (.tuple #[.slice ao L.length cap, .bool true]) ∧ Below w.heap.size w w' ∧ Hid (IntRow w' w.heap.size (.slice ao L.length cap) L)
def WordNo (w : World) (e : Ending) (w' : World) : Prop := ∃ v, e = .returned (.tuple #[v, .bool false]) ∧ Below w.heap.size w w'
theorem wordP_some {t : List UInt8} {L : List Int} (h : wordP t = some L) : letsP t = true ∧ ptsI t = L ∧ 0 < L.length ∧ L.length ≤ 64 := by
  unfold wordP at h
  split at h
  · rename_i h1
    obtain rfl := Option.some.inj h
    exact ⟨h1.1, rfl, h1.2.1, h1.2.2⟩
  · cases h
theorem word_yes {t : List UInt8} {L : List Int} (h : wordP (foldP t) = some L) (ht : t.length ≤ 100000000) (a : Addr) (w : World) :
    Calls Tryd.prog 35 #[.pointer (some a), .string ⟨t.toArray⟩] w (WordYes L w) := by
  obtain ⟨h1, h2, h3, h4⟩ := wordP_some h
  have hfl := foldP_len t
  have hy := fun w => lets_yes h1 (by omega) w
  rw [h2] at hy
  have HY := Lib.hid hy
  have d1 : decide (0 < L.length) = true := by simp [h3]
  have d2 : decide (L.length ≤ 64) = true := by simp [h4]
  clear h h1 h2 hy
  go_enter Tryd.func35, Tryd.ntmps35
  go_wp2_with (first
    | (go_at_call 29; refine (fold_at t (by omega) _).mono ?_; rintro e w1 ⟨rfl, hb1⟩; have hs1 := hb1.size)
    | (go_at_call 39; refine (HY.out _).mono ?_; rintro e w2 ⟨ao, cap, rfl, hb2, hr2⟩))
  refine bodyPost_ret (v := .tuple #[.slice ao L.length cap, .bool true]) (by simp [results, Tryd.f35, go_sem]; omega) rfl ⟨ao, cap, rfl, hb1.trans (hb2.mono hs1), Lib.hid (IntRow.weak hr2.out hs1)⟩
theorem word_no {t : List UInt8} (h : wordP (foldP t) = none) (ht : t.length ≤ 100000000) (a : Addr) (w : World) :
    Calls Tryd.prog 35 #[.pointer (some a), .string ⟨t.toArray⟩] w (WordNo w) := by
  have hfl := foldP_len t
  cases hle : letsP (foldP t) with
  | false =>
    have HY := Lib.hid (fun w => lets_no hle (by omega) w)
    clear h hle
    go_enter Tryd.func35, Tryd.ntmps35
    go_wp2_with (first
      | (go_at_call 29; refine (fold_at t (by omega) _).mono ?_; rintro e w1 ⟨rfl, hb1⟩; have hs1 := hb1.size)
      | (go_at_call 39; refine (HY.out _).mono ?_; rintro e w2 ⟨rfl, hb2⟩))
    refine bodyPost_ret (v := .tuple #[.slice none 0 0, .bool false]) (by simp [results, Tryd.f35, go_sem]) rfl ⟨_, rfl, hb1.trans (hb2.mono hs1)⟩
  | true =>
    have hn : ¬ (0 < (ptsI (foldP t)).length ∧ (ptsI (foldP t)).length ≤ 64) := by
      intro hc
      unfold wordP at h
      rw [if_pos ⟨hle, hc⟩] at h
      cases h
    obtain ⟨L, hL⟩ : ∃ L, ptsI (foldP t) = L := ⟨_, rfl⟩
    have hy := fun w => lets_yes hle (by omega) w
    rw [hL] at hy hn
    have HY := Lib.hid hy
    clear h hle hL hy
    by_cases h0 : L.length = 0
    · have d0 : decide (0 < L.length) = false := by simp [h0]
      go_enter Tryd.func35, Tryd.ntmps35
      go_wp2_with (first
        | (go_at_call 29; refine (fold_at t (by omega) _).mono ?_; rintro e w1 ⟨rfl, hb1⟩; have hs1 := hb1.size)
        | (go_at_call 39; refine (HY.out _).mono ?_; rintro e w2 ⟨ao, cap, rfl, hb2, hr2⟩))
      refine bodyPost_ret (v := .tuple #[.slice ao 0 cap, .bool false]) (by simp [results, Tryd.f35, go_sem]) rfl ⟨_, rfl, hb1.trans (hb2.mono hs1)⟩
    · have d0 : decide (0 < L.length) = true := by simp; omega
      have d2 : decide (L.length ≤ 64) = false := by simp; omega
      have h64 : 64 < L.length := by omega
      clear hn
      go_enter Tryd.func35, Tryd.ntmps35
      go_wp2_with (first
        | (go_at_call 29; refine (fold_at t (by omega) _).mono ?_; rintro e w1 ⟨rfl, hb1⟩; have hs1 := hb1.size)
        | (go_at_call 39; refine (HY.out _).mono ?_; rintro e w2 ⟨ao, cap, rfl, hb2, hr2⟩))
      refine bodyPost_ret (v := .tuple #[.slice ao L.length cap, .bool false]) (by simp [results, Tryd.f35, go_sem]; omega) rfl ⟨_, rfl, hb1.trans (hb2.mono hs1)⟩
end Go.Proofs.YtdcdlmigagjbiaaDoor
