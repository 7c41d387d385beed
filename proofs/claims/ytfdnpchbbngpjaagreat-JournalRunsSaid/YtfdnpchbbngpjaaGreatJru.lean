/- The law Runs. -/
import Derived.Test.YtfdnpchbbngpjaaGreatJxb
namespace Go.Proofs.YtfdnpchbbngpjaaGreat
attribute [local go_sem ↓] Go.wp_at_zero Go.wp_at_succ
open Go.RowKit Go.Maps

set_option maxRecDepth 100000 in
set_option maxHeartbeats 4000000 in
theorem runs_law (a : Int) (ha : (Lit.int .u8 a).wf = true) {l : List JO} {v : Value} {w : World} (hL : JOps w v l) : Calls Tryz.prog 6 #[.int .u8 a, v] w (LawPost w) := by
  obtain ⟨n, rfl, hn⟩ := u8of ha
  have hL2 := hL
  obtain ⟨ao, cap, rfl, hmx, _⟩ := hL2
  have HL := Lib.hid hL
  unfold maxLen at hmx
  have HM := Lib.hid (made_any (1 + n % 10) (by omega) (by omega) w)
  unfold LawPost
  clear ha
  go_enter Tryz.func6, Tryz.ntmps6
  go_wp2_with (first
    | (go_at_call 10; refine (sectors_any n hn _).mono ?_; rintro e w1 ⟨rfl, rfl⟩)
    | (go_at_call 9; refine HM.out.mono ?_; rintro e w2 ⟨vb, jb0, bb, tb0, st0, rfl, hW0, hI0, hC0⟩)
    | (go_at_call 11; refine (known_any _).mono ?_; rintro e w3 ⟨rfl, hb3⟩))
  have hW0 := (Wk.of hW0).below hb3
  obtain ⟨m, hm⟩ : ∃ m, 1 + n % 10 = m := ⟨_, rfl⟩
  rw [hm] at hW0 hI0
  obtain ⟨B0, hB0⟩ : ∃ B0, BS.header (BS.blank m) (JS.blank 0) = B0 := ⟨_, rfl⟩
  have hs0 : B0.s = JS.blank 0 := by rw [← hB0]; exact header_s _ _
  rw [hB0] at hW0 hI0
  obtain ⟨S0, hS0⟩ : ∃ S0, JS.blank 0 = S0 := ⟨_, rfl⟩
  rw [hS0] at hW0 hs0
  have H0 := Lib.hid (And.intro hW0 (And.intro hI0 (And.intro hs0 hC0)))
  clear hW0 hI0 hs0 hC0 hB0 hS0 hb3 HM
  go_loopw [6, 8] (fun j i wr => ∃ (k jb tb : Nat) (S : JS) (st : VS) (B : BS), k ≤ l.length ∧ k ≤ 40 ∧ i = .int .i64 (k : Int) ∧ j = .pointer (some ⟨jb, 0, none⟩) ∧ Wk w wr vb jb bb tb S false st B [] ∧ Inv st B m (1 + k) ∧ B.s = S ∧ Calm st) (fun _ i _ => 40 - (intOf i).toNat)
  case atStart => exact ⟨0, jb0, tb0, S0, st0, B0, Nat.zero_le _, by omega, rfl, rfl, H0.out.1, H0.out.2.1, H0.out.2.2.1, H0.out.2.2.2⟩
  case round =>
    obtain ⟨k, jb, tb, S, st, B, hk, hk40, rfl, rfl, hW, hI, hs, hC⟩ := hrel
    clear H0
    have hIM := kimage hW hI
    by_cases hlt : k < l.length ∧ k < 40
    · obtain ⟨hlt, hlt4⟩ := hlt
      obtain ⟨b, off, cap', hv, hok, x0, x1, x2⟩ := op_cells HL.out hW.size hlt
      injection hv with hv1 hv2 hv3
      subst hv1 hv3
      clear hv2
      obtain ⟨o, ho⟩ : ∃ o, l[k] = o := ⟨_, rfl⟩
      rw [ho] at hok x0 x1 x2
      have hp := perform_calm o hok hW hI hs (by omega) hC
      unfold JO.val at hp
      have HP := Lib.hid hp
      clear hp hIM hW hI hs hC ho
      go_wp2_with (first
        | (go_at_call 13; refine HP.out.mono ?_; rintro e w4 ⟨jb', tb', S', st', B', rfl, hW, hI, hs, hC⟩; have HA := Lib.hid (kagrees hW hs hI.alen hI.len hI.m2 (by rw [← hs]; exact hI.s) hI.small); have HX := Lib.hid (And.intro hI (And.intro hs hC)); clear hW hI hs hC)
        | (go_at_call 15; refine HA.out.mono ?_; rintro e w5 ⟨rfl, hW⟩))
      go_roundw
      case rel => exact ⟨k + 1, jb', tb', S', st', B', by omega, by omega, by go_num, rfl, hW, by rw [show 1 + (k + 1) = 1 + k + 1 by omega]; exact HX.out.1, HX.out.2.1, HX.out.2.2⟩
      case measure => simp [intOf]; omega
    · have HIM := Lib.hid hIM
      clear hIM hW hI hs hC
      by_cases hlt2 : k < l.length
      case' pos =>
        have hk4 : ¬ (k < 40) := fun h => hlt ⟨hlt2, h⟩
      all_goals
        go_wp2_with ((go_at_call 22; refine HIM.out.mono ?_; rintro e w5 ⟨rfl, hW⟩))
        go_ret
        exact ⟨rfl, hW.size⟩
end Go.Proofs.YtfdnpchbbngpjaaGreat
