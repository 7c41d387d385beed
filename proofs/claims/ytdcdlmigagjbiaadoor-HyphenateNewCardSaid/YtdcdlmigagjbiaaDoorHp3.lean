/- The law New. -/
import Derived.Test.YtdcdlmigagjbiaaDoorHs5
namespace Go.Proofs.YtdcdlmigagjbiaaDoor
open Go.RowKit Go.Maps
def NewN (n : Nat) (w : World) (e : Ending) (w' : World) : Prop := ∃ v, e = .returned (.tuple #[.pointer v, .int .i64 (n : Int)]) ∧ Below w.heap.size w w' ∧ (n = 0 → v ≠ none) ∧ (n ≠ 0 → v = none)
theorem newN_of {pats exs : List (List UInt8)} {left right : Int} {w w' : World} {e : Ending} (h : NewPost pats exs left right w e w') : NewN (newE pats exs left right) w e w' := by
  obtain ⟨hb, ⟨h1, rfl⟩ | ⟨h1, b, rfl, _⟩⟩ := h
  · exact ⟨none, rfl, hb, fun h => absurd h h1, fun _ => rfl⟩
  · exact ⟨some _, by rw [h1]; rfl, hb, fun _ => by simp, fun h => absurd h1 h⟩
set_option maxRecDepth 100000 in
set_option maxHeartbeats 1600000 in
theorem new_law (D : DictV) (w : World) (H : D.At w) : Calls Tryd.prog 6 #[D.val] w (KnPost w) := by
  obtain ⟨pv, ev, pats, exs, left, right⟩ := D
  show Calls Tryd.prog 6 #[.agg #[pv, ev, .int .i64 left, .int .i64 right]] w (KnPost w)
  have HBK := Lib.hid (Blk.new w 44 #[pv, ev, .int .i64 left, .int .i64 right])
  have HBW := Lib.hid ((Below.refl w.heap.size w).alloc (Nat.le_refl _) (.cells #[pv, ev, .int .i64 left, .int .i64 right] 44))
  obtain ⟨W, hW⟩ : ∃ W, w.alloc (.cells #[pv, ev, .int .i64 left, .int .i64 right] 44) = W := ⟨_, rfl⟩
  rw [hW] at HBK HBW
  have hws := HBW.out.size
  have HD := Lib.hid (H.below HBW.out)
  clear H
  have HSM := Lib.hid (fun (w : World) h => small_any ⟨pv, ev, pats, exs, left, right⟩ w h)
  cases hsm : smallP pats exs with
  | false =>
    have HSF := Lib.hid (show smallP (DictV.mk pv ev pats exs left right).pats (DictV.mk pv ev pats exs left right).exs = false from hsm)
    clear hsm
    go_enter Tryd.func6, Tryd.ntmps6
    go_wp2_with (first
      | (go_at_call 12; have HB0 := HB1; refine (known_any _).mono ?_; unfold KnPost; rintro e w3 ⟨rfl, hb3⟩; have HB3 := Lib.hid hb3; clear hb3)
      | (go_at_call 12; refine (known_any _).mono ?_; unfold KnPost; rintro e w1 ⟨rfl, hb1⟩; have HB1 := Lib.hid hb1; obtain ⟨c0, c1, c2, c3⟩ := (HBK.out.below hb1 HBK.out.lt).four; clear hb1)
      | (go_at_call 24; refine (HSM.out _ (HD.out.below HB1.out)).mono ?_; unfold BoolPost; rw [HSF.out]; rintro e w2 ⟨rfl, hb2⟩; have HB2 := Lib.hid (HB1.out.trans (hb2.mono HB1.out.size)); clear hb2))
    refine bodyPost_ret (v := .bool true) (by simp [results, Tryd.f6, go_sem]) rfl ⟨rfl, HBW.out.trans ((HB2.out.trans (HB3.out.mono HB2.out.size)).mono hws)⟩
  | true =>
    obtain ⟨b1, b2, b3, b4⟩ := smallP_iff.1 hsm
    have HN := Lib.hid (fun (w : World) (h : (DictV.mk pv ev pats exs left right).At w) => (new_any pats exs left right pv ev w h.pats h.exs (fun s hs => by have := b3 s hs; omega) (fun s hs => by have := b4 s hs; omega)).mono (fun e w' h => newN_of h))
    have HC := Lib.hid (fun (w : World) h => check_any ⟨pv, ev, pats, exs, left, right⟩ w h (fun s hs => by have := b3 s hs; omega) (fun s hs => by have := b4 s hs; omega))
    have HSF := Lib.hid (show smallP (DictV.mk pv ev pats exs left right).pats (DictV.mk pv ev pats exs left right).exs = true from hsm)
    obtain ⟨n, hn⟩ : ∃ n, newE pats exs left right = n := ⟨_, rfl⟩
    have HNE := Lib.hid (show newE (DictV.mk pv ev pats exs left right).pats (DictV.mk pv ev pats exs left right).exs (DictV.mk pv ev pats exs left right).left (DictV.mk pv ev pats exs left right).right = n from hn)
    rw [hn] at HN
    clear hsm b1 b2 b3 b4 hn
    by_cases h0 : n = 0
    · subst h0
      go_enter Tryd.func6, Tryd.ntmps6
      go_wp2_with (first
        | (go_at_call 12; refine (known_any _).mono ?_; unfold KnPost; rintro e w1 ⟨rfl, hb1⟩; have HB1 := Lib.hid hb1; obtain ⟨c0, c1, c2, c3⟩ := (HBK.out.below hb1 HBK.out.lt).four; clear hb1)
        | (go_at_call 24; refine (HSM.out _ (HD.out.below HB1.out)).mono ?_; unfold BoolPost; rw [HSF.out]; rintro e w2 ⟨rfl, hb2⟩; have HB2 := Lib.hid (HB1.out.trans (hb2.mono HB1.out.size)); obtain ⟨c0, c1, c2, c3⟩ := (HBK.out.below HB2.out HBK.out.lt).four; clear hb2)
        | (go_at_call 25; refine (HN.out _ (HD.out.below HB2.out)).mono ?_; rintro e w3 ⟨vv, rfl, hb3, hv0, _⟩; obtain ⟨va, hva⟩ := Option.ne_none_iff_exists'.1 (hv0 rfl); subst hva; have HB3 := Lib.hid (HB2.out.trans (hb3.mono HB2.out.size)); obtain ⟨c0, c1, c2, c3⟩ := (HBK.out.below HB3.out HBK.out.lt).four; clear hb3 hv0)
        | (go_at_call 26; refine (HC.out _ (HD.out.below HB3.out)).mono ?_; unfold NumPost; rw [HNE.out]; rintro e w4 ⟨rfl, hb4⟩; have HB4 := Lib.hid (HB3.out.trans (hb4.mono HB3.out.size)); clear hb4))
      refine bodyPost_ret (v := .bool true) (by simp [results, Tryd.f6, go_sem]) rfl ⟨rfl, HBW.out.trans (HB4.out.mono hws)⟩
    · have en0 : (((n : Nat) : Int) == 0) = false := by rw [beq_eq_false_iff_ne]; omega
      go_enter Tryd.func6, Tryd.ntmps6
      go_wp2_with (first
        | (go_at_call 12; refine (known_any _).mono ?_; unfold KnPost; rintro e w1 ⟨rfl, hb1⟩; have HB1 := Lib.hid hb1; obtain ⟨c0, c1, c2, c3⟩ := (HBK.out.below hb1 HBK.out.lt).four; clear hb1)
        | (go_at_call 24; refine (HSM.out _ (HD.out.below HB1.out)).mono ?_; unfold BoolPost; rw [HSF.out]; rintro e w2 ⟨rfl, hb2⟩; have HB2 := Lib.hid (HB1.out.trans (hb2.mono HB1.out.size)); obtain ⟨c0, c1, c2, c3⟩ := (HBK.out.below HB2.out HBK.out.lt).four; clear hb2)
        | (go_at_call 25; refine (HN.out _ (HD.out.below HB2.out)).mono ?_; rintro e w3 ⟨vv, rfl, hb3, _, hv0⟩; obtain rfl := hv0 h0; have HB3 := Lib.hid (HB2.out.trans (hb3.mono HB2.out.size)); obtain ⟨c0, c1, c2, c3⟩ := (HBK.out.below HB3.out HBK.out.lt).four; clear hb3 hv0)
        | (go_at_call 26; refine (HC.out _ (HD.out.below HB3.out)).mono ?_; unfold NumPost; rw [HNE.out]; rintro e w4 ⟨rfl, hb4⟩; have HB4 := Lib.hid (HB3.out.trans (hb4.mono HB3.out.size)); clear hb4))
      refine bodyPost_ret (v := .bool true) (by simp [results, Tryd.f6, go_sem]) rfl ⟨rfl, HBW.out.trans (HB4.out.mono hws)⟩
theorem new_row {D : DictV} {v : Value} {w : World} (h : v = D.val ∧ D.At w) : Calls Tryd.prog 6 #[v] w (KnPost w) := by
  obtain ⟨rfl, h⟩ := h
  exact new_law D w h
end Go.Proofs.YtdcdlmigagjbiaaDoor
