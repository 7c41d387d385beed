/- The law Formats, walked. -/
import Derived.Test.YtfdnpchbbngpjaaGreatJlo
namespace Go.Proofs.YtfdnpchbbngpjaaGreat
attribute [local go_sem ↓] Go.wp_at_zero Go.wp_at_succ
open Go.RowKit Go.Maps

theorem chk_small {st : VS} (hu : st.down = false) (hl : st.dur.length < 3) : st.chk = 2 := by unfold VS.chk; rw [hu, if_neg (by decide), if_pos hl]
theorem chk_down {st : VS} (hu : st.down = true) : st.chk = 36 := by unfold VS.chk; rw [hu, if_pos rfl]
set_option maxRecDepth 100000 in
set_option maxHeartbeats 4000000 in
theorem formats_small (a b : Nat) (ha : a < 256) (hs : a % 40 < 2) (w : World) : Calls Tryz.prog 5 #[.int .u8 (a : Int), .int .u8 (b : Int)] w (LawPost w) := by
  obtain ⟨q, hq⟩ : ∃ q, a % 40 = q := ⟨_, rfl⟩
  have eq : (a : Int) % 40 = (q : Int) := by omega
  have eq2 : (a : Int).tmod 40 = (q : Int) := by rw [Int.tmod_eq_emod_of_nonneg (by omega)]; exact eq
  rw [hq] at hs
  have hn := new_yes (q + 1) w (by omega) (by omega)
  rw [show ((q + 1 : Nat) : Int) = 1 + (q : Int) by omega] at hn
  have HN := Lib.hid hn
  have d3 : decide (1 + (q : Int) < 3) = true := by simp; omega
  have hchk := chk_small (st := VS.new (q + 1)) rfl (by show (List.replicate _ _).length < 3; rw [List.length_replicate]; omega)
  have HC := Lib.hid hchk
  clear hn hchk
  unfold LawPost
  go_enter Tryz.func5, Tryz.ntmps5
  go_wp2_with (first
    | (go_at_call 30; refine HN.out.mono ?_; rintro e w1 ⟨vb, F, rfl, hV, hb1, hF⟩)
    | (go_at_call_of 20 (Value.pointer none); refine (open_nil _).mono ?_; rintro e w2 ⟨rfl, rfl⟩)
    | (go_at_call_of 31 (Value.pointer none); refine (format_nil _).mono ?_; rintro e w2 ⟨rfl, rfl⟩)
    | (go_at_call 20; refine (open_chk hV (by rw [HC.out]; decide)).mono ?_; rw [HC.out]; rintro e w2 ⟨rfl, rfl⟩)
    | (go_at_call 31; refine (format_chk hV (by rw [HC.out]; decide)).mono ?_; rw [HC.out]; rintro e w2 ⟨rfl, rfl⟩)
    | (go_at_call 11; refine (known_any _).mono ?_; rintro e w3 ⟨rfl, hb3⟩))
  go_ret
  exact ⟨rfl, hb1.trans (hb3.mono hb1.size)⟩
def dX : ByteArray := ⟨#[120]⟩
set_option maxRecDepth 100000 in
set_option maxHeartbeats 4000000 in
theorem formats_big (a b m : Nat) (ha : a < 256) (hb : b < 256) (hq : a % 40 = m + 1) (hm : 1 ≤ m) (w : World) : Calls Tryz.prog 5 #[.int .u8 (a : Int), .int .u8 (b : Int)] w (LawPost w) := by
  have hm2 : m ≤ 38 := by omega
  obtain ⟨q, hqe⟩ : ∃ q, m + 1 = q := ⟨_, rfl⟩
  rw [hqe] at hq
  have eq : (a : Int) % 40 = (q : Int) := by omega
  have eq2 : (a : Int).tmod 40 = (q : Int) := by rw [Int.tmod_eq_emod_of_nonneg (by omega)]; exact eq
  have hn := new_yes (m + 2) w (by omega) (by omega)
  have hbl := fun (w : World) => blank_any m (by omega) w
  rw [show ((m + 2 : Nat) : Int) = 1 + (q : Int) by omega] at hn
  rw [show (m : Int) + 2 = 1 + (q : Int) by omega] at hbl
  have HN := Lib.hid hn
  have HBL := Lib.hid hbl
  have d3 : decide (1 + (q : Int) < 3) = false := by simp; omega
  obtain ⟨t, ht⟩ : ∃ t, b % 4 = t := ⟨_, rfl⟩
  have et : (b : Int) % 4 = (t : Int) := by omega
  have et2 : (b : Int).tmod 4 = (t : Int) := by rw [Int.tmod_eq_emod_of_nonneg (by omega)]; exact et
  obtain ⟨u, hu⟩ : ∃ u, b % 8 = u := ⟨_, rfl⟩
  have eu : (b : Int) % 8 = (u : Int) := by omega
  have eu2 : (b : Int).tmod 8 = (u : Int) := by rw [Int.tmod_eq_emod_of_nonneg (by omega)]; exact eu
  have ht4 : t ≤ 3 := by omega
  have hu8 : u ≤ 7 := by omega
  have hql : q ≤ 39 := by omega
  obtain ⟨B0, hB0⟩ : ∃ B0, BS.header (BS.blank m) (JS.blank 0) = B0 := ⟨_, rfl⟩
  have hcm0 : B0.s.comm = B0.s.recs.length := by rw [← hB0, header_s]; rfl
  have HFM := Lib.hid (fun (w' : World) (vb : Nat) (h : Vv w w' vb (VS.new (m + 2))) => xformat_new h hm (by omega))
  rw [hB0] at HFM
  have HH0 := Lib.hid (fun (w' : World) (vb bb : Nat) (st : VS) (h : Wv w w' vb bb st (BS.blank m)) => vheader0 h)
  rw [hB0] at HH0
  clear hn hbl ht hu hq hB0 hqe
  unfold LawPost
  go_enter Tryz.func5, Tryz.ntmps5
  go_wp2_with (first
    | (go_at_call 30; refine HN.out.mono ?_; rintro e w1 ⟨vb, F, rfl, hV, hb1, hF⟩; have hVv : Vv w w1 vb (VS.new (m + 2)) := ⟨F, hV, hF, hb1⟩; clear hV hb1 hF)
    | (go_at_call_of 20 (Value.pointer none); refine (open_nil _).mono ?_; rintro e w2 ⟨rfl, rfl⟩)
    | (go_at_call_of 31 (Value.pointer none); refine (format_nil _).mono ?_; rintro e w2 ⟨rfl, rfl⟩)
    | (go_at_call 20; refine (xopen_none hVv hm (by omega)).mono ?_; rintro e w2 ⟨rfl, hVo⟩; clear hVv)
    | (go_at_call 31; refine (HFM.out _ _ hVo).mono ?_; rintro e w3 ⟨rfl, st, hVf, hI, hC⟩; have HI := Lib.hid (And.intro hI hC); clear hVo hI hC)
    | (go_at_call 11; refine (known_any _).mono ?_; rintro e w4 ⟨rfl, hb4⟩; have hVk := hVf.below hb4; clear hVf hb4)
    | (go_at_call 32; refine (HBL.out _).mono ?_; rintro e w5 ⟨bb, G, rfl, hB5, hb5, hG⟩; have hWb := hVk.book hb5 hB5 hG; clear hVk hB5 hb5 hG)
    | (go_at_call 33; refine (HH0.out _ _ _ _ hWb).mono ?_; rintro e w6 ⟨rfl, hWv⟩; clear hWb)
    | (go_at_call 22; refine (vimage hWv HI.out.1).mono ?_; rintro e w7 ⟨rfl, hWi⟩; clear hWv))
  obtain ⟨hI, hC⟩ := HI.out
  have H0 := Lib.hid (And.intro hWi (And.intro hI (And.intro hC hcm0)))
  clear hWi hI hC hcm0 HI HH0 HFM HBL HN
  go_loopw [14] (fun i wr => ∃ (k : Nat) (st : VS) (B : BS), k ≤ t ∧ i = .int .i64 (k : Int) ∧ Wv w wr vb bb st B ∧ Inv st B m (1 + 3 * k) ∧ Calm st ∧ B.s.comm = B.s.recs.length) (fun i _ => 3 - (intOf i).toNat)
  case atStart => exact ⟨0, st, B0, Nat.zero_le _, rfl, H0.out.1, H0.out.2.1, H0.out.2.2.1, H0.out.2.2.2⟩
  case round =>
    obtain ⟨k, st, B, hk, rfl, hWv, hI, hC, hcm⟩ := hrel
    clear H0
    by_cases hlt : k < t
    · have hS := hI.s
      have hA := hI.alen
      obtain ⟨S, hs⟩ : ∃ S, B.s = S := ⟨_, rfl⟩
      have hre : B.s.reopen = S := by rw [reopen_full hcm, hs]
      have hop := fun (w' : World) (h : Wv w w' vb bb st B) => vopen h hI
      rw [hre] at hop
      have HOP := Lib.hid hop
      have HAG := Lib.hid (fun (w' : World) (jb tb : Nat) (h : Wk w w' vb jb bb tb S false st B []) => kagrees h hs hA hI.len hI.m2 (by rw [← hs]; exact hS) hI.small)
      have HIM := Lib.hid (fun (w' : World) (jb tb : Nat) (h : Wk w w' vb jb bb tb S false st B []) => kimage h hI)
      obtain ⟨e1, e2, e3, e4⟩ := hI.append_err dX
      rw [hs] at e1 e2 e3
      have hfin := hI.append (by omega) dX
      obtain ⟨u', hu'⟩ : ∃ u, B.append dX = u := ⟨_, rfl⟩
      rw [hu'] at e1 e2 e3 e4 hfin
      have hCA := fun (w' : World) (jb tb : Nat) (h : Wk w w' vb jb bb tb S false st B []) => kappend dX h hI.len (by rw [← hs]; exact hS) hI.small
      rw [← e1, ← e2, ← e3] at hCA
      have hCB := fun (w' : World) (jb tb : Nat) (h : Wk w w' vb jb bb tb u'.2.2.s false st B []) => kbappend dX h hA hI.m2 hS (by omega)
      rw [hu'] at hCB
      obtain ⟨n1, q1, B1⟩ := u'
      simp only at hCA hCB hfin e4
      have HCA := Lib.hid hCA
      have HCB := Lib.hid hCB
      have HCM := Lib.hid (fun (w' : World) (jb tb : Nat) (h : Wk w w' vb jb bb tb B1.s false st B1 []) => kcommit_all h hfin rfl (by omega) hC)
      have HBM := Lib.hid (fun (w' : World) (jb tb : Nat) (st' : VS) (h : Wk w w' vb jb bb tb B1.commit.s false st' B1 []) => kbcommit_all h hfin.alen hfin.m1 hfin.m2 hfin.s hfin.small)
      have hcf := commit_full hfin
      have HCF := Lib.hid hcf
      obtain ⟨B2, hB2⟩ : ∃ B2, B1.commit = B2 := ⟨_, rfl⟩
      rw [hB2] at HCM HBM HCF
      have hX : dX = (⟨#[120]⟩ : ByteArray) := rfl
      rw [hX] at HCA HCB
      clear hI hS hA hs hre hop e1 e2 e3 e4 hfin hu' hCA hCB hC hcm hcf hB2 hX
      by_cases hu4 : 4 ≤ u
      case' pos =>
        have du : decide (4 ≤ (u : Int)) = true := by simp; omega
      case' neg =>
        have du : decide (4 ≤ (u : Int)) = false := by simp; omega
      all_goals
        go_wp2_with (first
          | (go_at_call 20; refine (HOP.out _ hWv).mono ?_; rintro e w8 ⟨jb, tb, rfl, hW1⟩; clear hWv)
          | (go_at_call 15; refine (HAG.out _ _ _ hW1).mono ?_; rintro e w9 ⟨rfl, hW2⟩; clear hW1)
          | (go_at_call 22; refine (HIM.out _ _ _ hW2).mono ?_; rintro e w10 ⟨rfl, hW3⟩; clear hW2)
          | (go_at_call 23; refine (HCA.out _ _ _ hW3).mono ?_; rintro e w11 ⟨rfl, hW4⟩; clear hW3)
          | (go_at_call 25; refine (HCB.out _ _ _ hW4).mono ?_; rintro e w12 ⟨rfl, hW5⟩; clear hW4)
          | (go_at_call 16; refine (HCM.out _ _ _ hW5).mono ?_; rintro e w13 ⟨rfl, st2, hW6, hI2, hC2⟩; have H2 := Lib.hid (And.intro hI2 hC2); clear hW5 hI2 hC2)
          | (go_at_call 34; refine (HBM.out _ _ _ _ hW6).mono ?_; rintro e w14 ⟨rfl, hW7⟩; have hWa := hW7.toWv; obtain ⟨⟨v6, k6⟩, k4, k5, f6, f4, f5⟩ := hWa.cells; clear hW6 hW7)
          | (go_at_call 33; refine (vheader hWa.emptied (by have := H2.out.1.s.h; have := H2.out.1.small; omega)).mono ?_; rintro e w15 ⟨rfl, hWb⟩; clear hWa)
          | (go_at_call 31; refine (vformat hWb H2.out.1 (by omega) H2.out.2).mono ?_; rintro e w16 ⟨rfl, st3, hWc, hI3, hC3⟩; have H3 := Lib.hid (And.intro hI3 hC3); clear hWb hI3 hC3)
          | (go_at_call 22; refine (vimage hWc H3.out.1).mono ?_; rintro e w17 ⟨rfl, hWd⟩; clear hWc))
      all_goals
        go_roundw
        case rel =>
          first
            | exact ⟨k + 1, st3, BS.header B2 (JS.blank B2.s.h), by omega, by go_num, hWd, by rw [show 1 + 3 * (k + 1) = 1 + 3 * k + 1 + 1 + 1 by omega]; exact H3.out.1, H3.out.2, by rw [header_s]; rfl⟩
            | exact ⟨k + 1, st2, B2, by omega, by go_num, hWa, H2.out.1.mono (by omega) (by omega), H2.out.2, HCF.out⟩
        case measure => simp [intOf]; omega
    · obtain rfl : k = t := by omega
      have HC := Lib.hid (chk_down (st := st.crash) rfl)
      have HCR := Lib.hid (fun (w' : World) (h : Wv w w' vb bb st B) => h.callV (fun e => e = .returned (.tuple #[])) (fun F k => crash_own k))
      clear hI hC hcm
      go_wp2_with (first
        | (go_at_call 35; refine (HCR.out _ hWv).mono ?_; rintro e w8 ⟨rfl, hWc⟩; obtain ⟨F, G, hV, _⟩ := id hWc)
        | (go_at_call 20; refine (open_chk hV (by rw [HC.out]; decide)).mono ?_; rw [HC.out]; rintro e w9 ⟨rfl, rfl⟩)
        | (go_at_call 31; refine (format_chk hV (by rw [HC.out]; decide)).mono ?_; rw [HC.out]; rintro e w9 ⟨rfl, rfl⟩))
      go_ret
      exact ⟨rfl, hWc.size⟩
theorem formats_law (a : Int) (ha : (Lit.int .u8 a).wf = true) (b : Int) (hb : (Lit.int .u8 b).wf = true) (w : World) : Calls Tryz.prog 5 #[.int .u8 a, .int .u8 b] w (LawPost w) := by
  obtain ⟨n, rfl, hn⟩ := u8of ha
  obtain ⟨k, rfl, hk⟩ := u8of hb
  by_cases h : n % 40 < 2
  · exact formats_small n k hn h w
  · exact formats_big n k (n % 40 - 1) hn hk (by omega) (by omega) w
end Go.Proofs.YtfdnpchbbngpjaaGreat
