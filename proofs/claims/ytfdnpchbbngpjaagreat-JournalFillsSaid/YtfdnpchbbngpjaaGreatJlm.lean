/- The law Fills, walked. -/
import Derived.Test.YtfdnpchbbngpjaaGreatJll
namespace Go.Proofs.YtfdnpchbbngpjaaGreat
attribute [local go_sem ↓] Go.wp_at_zero Go.wp_at_succ
open Go.RowKit Go.Maps

set_option maxRecDepth 100000 in
set_option maxHeartbeats 4000000 in
theorem fills_law (a : Int) (ha : (Lit.int .u8 a).wf = true) {l : List Nat} {v : Value} {w : World} (hL : U16s w v l) : Calls Tryz.prog 4 #[.int .u8 a, v] w (LawPost w) := by
  obtain ⟨n, rfl, hn⟩ := u8of ha
  have hL2 := hL
  obtain ⟨_, ao, cap, rfl, hmx, _⟩ := hL2
  have HL := Lib.hid hL
  unfold maxLen at hmx
  have HM := Lib.hid (made_any (1 + n % 10) (by omega) (by omega) w)
  unfold LawPost
  clear ha
  go_enter Tryz.func4, Tryz.ntmps4
  go_wp2_with (first
    | (go_at_call 10; refine (sectors_any n hn _).mono ?_; rintro e w1 ⟨rfl, rfl⟩)
    | (go_at_call 9; refine HM.out.mono ?_; rintro e w2 ⟨vb, jb, bb, tb, st, rfl, hW0, hI0, hC0⟩)
    | (go_at_call 11; refine (known_any _).mono ?_; rintro e w3 ⟨rfl, hb3⟩))
  have hW0 := (Wk.of hW0).below hb3
  obtain ⟨m, hm⟩ : ∃ m, 1 + n % 10 = m := ⟨_, rfl⟩
  have hm12 : 1 ≤ m ∧ m ≤ 10 := by omega
  rw [hm] at hW0 hI0
  obtain ⟨B0, hB0⟩ : ∃ B0, BS.header (BS.blank m) (JS.blank 0) = B0 := ⟨_, rfl⟩
  have hs0 : B0.s = JS.blank 0 := by rw [← hB0]; exact header_s _ _
  rw [hB0] at hW0 hI0
  obtain ⟨S0, hS0⟩ : ∃ S0, JS.blank 0 = S0 := ⟨_, rfl⟩
  have hc0 : S0.comm = 0 := by rw [← hS0]; rfl
  rw [hS0] at hW0 hs0
  have H0 := Lib.hid (And.intro hW0 (And.intro hI0 (And.intro hs0 (And.intro hC0 hc0))))
  clear hW0 hI0 hs0 hC0 hB0 hS0 hb3 HM hc0 hm hn
  go_loopw [8] (fun i wr => ∃ (k : Nat) (S : JS) (B : BS), k ≤ l.length ∧ k ≤ 20 ∧ i = .int .i64 (k : Int) ∧ Wk w wr vb jb bb tb S false st B [] ∧ Inv st B m (1 + k) ∧ B.s = S ∧ Calm st ∧ S.comm = 0) (fun i _ => 20 - (intOf i).toNat)
  case atStart => exact ⟨0, S0, B0, Nat.zero_le _, by omega, rfl, H0.out.1, H0.out.2.1, H0.out.2.2.1, H0.out.2.2.2.1, H0.out.2.2.2.2⟩
  case round =>
    obtain ⟨k, S, B, hk, hk20, rfl, hW, hI, hs, hC, hcm⟩ := hrel
    clear H0
    have hS := hI.s
    have hA := hI.alen
    by_cases hlt : k < l.length ∧ k < 20
    · obtain ⟨hlt, hlt4⟩ := hlt
      obtain ⟨b, off, cap', hv, hd, hcell⟩ := u16_cell HL.out hlt
      injection hv with hv1 hv2 hv3
      subst hv1 hv3
      clear hv2
      obtain ⟨d, hdd⟩ : ∃ d, l.getD k 0 = d := ⟨_, rfl⟩
      rw [hdd] at hd hcell
      obtain ⟨e1, e2, e3, e4⟩ := hI.append_err (dataP d)
      rw [hs] at e1 e2 e3
      have hcm' : (S.append (256 * m) (dataP d)).2.2.comm = 0 := by
        unfold JS.append
        split
        · exact hcm
        · split
          · exact hcm
          · exact hcm
      have hfin := hI.append (by omega) (dataP d)
      obtain ⟨u, hu⟩ : ∃ u, B.append (dataP d) = u := ⟨_, rfl⟩
      rw [hu] at e1 e2 e3 e4 hfin
      have hCA := fun (w' : World) (h : Wk w w' vb jb bb tb S false st B []) => kappend (dataP d) h hI.len (by rw [← hs]; exact hS) (by omega)
      rw [← e1, ← e2, ← e3] at hCA
      rw [← e3] at hcm'
      have hCB := fun (w' : World) (h : Wk w w' vb jb bb tb u.2.2.s false st B []) => kbappend (dataP d) h hA hI.m2 hS (by omega)
      rw [hu] at hCB
      obtain ⟨n1, q, B'⟩ := u
      simp only at hCA hCB hfin hcm'
      have HF := Lib.hid (And.intro hfin (And.intro hC hcm'))
      have HCA := Lib.hid hCA
      have HCB := Lib.hid hCB
      have HK := Lib.hid hcell
      have kb := HK.out _ hW.size
      clear hI hS hA e1 e2 e3 e4 hu hCA hCB hfin hs hdd hcell hC hcm hcm'
      go_wp2_with (first
        | (go_at_call 24; refine (dataOf_any d hd _).mono ?_; rintro e w4 ⟨rfl, hb⟩; have hW := hW.below hb; clear hb; have kb := HK.out _ hW.size)
        | (go_at_call 23; refine (HCA.out _ hW).mono ?_; rintro e w5 ⟨rfl, hW⟩; have kb := HK.out _ hW.size)
        | (go_at_call 25; refine (HCB.out _ hW).mono ?_; rintro e w6 ⟨rfl, hW⟩))
      go_roundw
      case rel => exact ⟨k + 1, B'.s, B', by omega, by omega, by go_num, hW, by rw [show 1 + (k + 1) = 1 + k + 1 by omega]; exact HF.out.1, rfl, HF.out.2.1, HF.out.2.2⟩
      case measure => simp [intOf]; omega
    · have hbn : S.beg ≤ S.next := by rw [hs] at hS; have := hS.en_le; have := hS.beg_le; omega
      have hcB : 1 + k ≤ 21 := by omega
      obtain ⟨cc, hcc⟩ : ∃ cc, 1 + k = cc := ⟨_, rfl⟩
      rw [hcc] at hI hS hcB
      have HFR := Lib.hid (fun (w' : World) (h : Wk w w' vb jb bb tb S false st B []) => kjfree h hI.len (by rw [← hs]; exact hS) hI.small)
      have HBF := Lib.hid (fun (w' : World) (h : Wk w w' vb jb bb tb S false st B []) => kbfree h hA hI.m2 hS hI.small)
      rw [hs] at HBF hS
      have hfb := S.free_bounds (256 * m) hbn
      obtain ⟨N, hN⟩ : ∃ N, 256 * m = N := ⟨_, rfl⟩
      have hNb : 256 ≤ N ∧ N ≤ 2560 := by omega
      rw [hN] at hfb HFR HBF
      have hA' : B.area.length = N := by rw [hA, hN]
      have hlg := make_z 65537 (by decide)
      have hlc := conv_z 65537
      have e65 : ((65537 : Nat) : Int) = 65537 := rfl
      rw [e65] at hlg
      have HX := Lib.hid (And.intro hI (And.intro hS (And.intro hs (And.intro hC (And.intro hcm (And.intro hN hA'))))))
      obtain ⟨f, hf⟩ : ∃ f, S.free N = f := ⟨_, rfl⟩
      rw [hf] at hfb HFR HBF
      have HFf := Lib.hid hf
      clear hI hS hA hs hC hcm hcc hbn e65 hN hA' hf
      by_cases hfn : f = -1
      · subst hfn
        have hF : Full m cc S st B := ⟨HX.out.1, HX.out.2.2.1, HX.out.2.2.2.1, HX.out.2.2.2.2.1, JS.free_some (n := N) (by omega) HFf.out, by rw [HX.out.2.2.2.2.2.1]; exact HFf.out⟩
        have hap := JS.full (S := S) (n := N) (z := 0) (by rw [HFf.out]; rfl) (by omega)
        have hz := make_z 0 (by decide)
        have hzc := conv_z 0
        have e0 : ((0 : Nat) : Int) = 0 := rfl
        rw [e0] at hz
        have HAP := Lib.hid (fun (w' : World) (h : Wk w w' vb jb bb tb S false st B []) => by
          have := kappend (zs 0) h HX.out.1.len (by have := HX.out.2.1; exact this) HX.out.1.small
          rw [HX.out.2.2.2.2.2.1, hap] at this
          exact this)
        obtain ⟨la, hla⟩ : ∃ la, S.last = la := ⟨_, rfl⟩
        have hlb := hF.last
        rw [hla] at hlb
        have HT := Lib.hid hF
        have HLA := Lib.hid hla
        have dla : decide (la < 1) = false := by simp; omega
        clear hF hap e0 hla
        by_cases hlt2 : k < l.length
        case' pos =>
          have hk4 : ¬ (k < 20) := fun h => hlt ⟨hlt2, h⟩
        all_goals
          go_wp2_with (first
            | (go_at_call 26; refine (HFR.out _ hW).mono ?_; rintro e w4 ⟨rfl, hWb⟩; clear hW)
            | (go_at_call 27; refine (HBF.out _ hWb).mono ?_; rintro e w5 ⟨rfl, hWc⟩; clear hWb)
            | (go_at_call_of 23 (Value.string (zs 0)); refine (HAP.out _ (hWc.below ((Below.refl _ _).alloc (Nat.le_refl _) _))).mono ?_; rintro e w6 ⟨rfl, hWe⟩; clear hWc)
            | (go_at_call_of 23 (Value.string (⟨#[]⟩ : ByteArray)); refine (full_app0 HT.out hWe).mono ?_; rintro e w7 ⟨rfl, hWf⟩; clear hWe)
            | (go_at_call 28; refine (full_last HT.out HLA.out hWf).mono ?_; rintro e w8 ⟨rfl, hWg⟩; clear hWf)
            | (go_at_call 16; refine (HT.out.commit (by omega) hWg).mono ?_; rintro e w9 ⟨rfl, st1, hWh, C1, hI1, hs1, hC1⟩; have H1 := Lib.hid (And.intro hI1 (And.intro hs1 hC1)); clear hWg hI1 hs1 hC1)
            | (go_at_call 17; refine (full_trunc HLA.out HT.out.many H1.out.1 H1.out.2.1 H1.out.2.2 (by omega) hWh).mono ?_; rintro e w10 ⟨rfl, st2, hWi, hl2, hS2⟩; have H2 := Lib.hid (And.intro hl2 hS2); clear hWh hl2 hS2)
            | (go_at_call_of 23 (Value.string (zs 65537)); refine (full_long H2.out.1 H2.out.2 (by omega) (hWi.below ((Below.refl _ _).alloc (Nat.le_refl _) _))).mono ?_; rintro e w11 ⟨rfl, hWj⟩; clear hWi))
          obtain ⟨ar, ac, hq⟩ := full_tail HLA.out HX.out.2.2.2.2.2.1 (by omega) (by omega) HX.out.2.2.2.2.2.2 H2.out.1 H2.out.2 (by omega) hWj
          have HQ := Lib.hid hq
          have hw1 : IntKind.i64.wrap ((N : Int) - 16) = (N : Int) - 16 := by rw [IntKind.wrap_i64] <;> omega
          have hw2 : IntKind.i64.wrap (la + 1) = la + 1 := by rw [IntKind.wrap_i64] <;> omega
          have hb : Below w11.heap.size w11 w11.drew := (Below.refl _ _).drew
          have k2 := (HQ.out _ hb).1
          clear hq
          go_region_held3 (fun w' => Below w11.heap.size w11 w' ∧ w'.cell? ⟨bb, 2, none⟩ = some (Value.slice ar N ac))
            (with_reducible exact ⟨hb, k2⟩)
            (first
              | (go_at_call 26; refine (HQ.out _ hb).2.1.mono ?_; rintro e w12 ⟨rfl, hb⟩; have k2 := (HQ.out _ hb).1)
              | (go_at_call 29; refine (HQ.out _ hb).2.2.1.mono ?_; rintro e w12 ⟨rfl, hb⟩; have k2 := (HQ.out _ hb).1)
              | (go_at_call 28; refine (HQ.out _ hb).2.2.2.mono ?_; rintro e w12 ⟨rfl, hb⟩; have k2 := (HQ.out _ hb).1))
          have HW := Lib.hid hWj.size
          clear hWj
          go_wp2_with fail
          go_ret
          exact ⟨rfl, HW.out.trans (hb.mono HW.out.size)⟩
      · obtain ⟨y, hy⟩ : ∃ y : Nat, f = (y : Int) := ⟨f.toNat, by omega⟩
        subst hy
        have hyN : y ≤ 2560 := by omega
        have hap := JS.full (S := S) (n := N) (z := y + 1) (by rw [HFf.out]; omega) (by omega)
        have hbS : S.beg ≤ S.next := by have hS := HX.out.2.1; have := hS.en_le; have := hS.beg_le; omega
        obtain ⟨S', ha1, ha2, ha3, ha4⟩ := JS.fits (S := S) (n := N) (y := y) HFf.out (by omega) hbS (by omega)
        have hI' := HX.out.1.append (by omega) (zs y)
        obtain ⟨_, _, e3, _⟩ := HX.out.1.append_err (zs y)
        rw [HX.out.2.2.1, HX.out.2.2.2.2.2.1, ha1] at e3
        have hz := make_z (y + 1) (by omega)
        have hzc := conv_z (y + 1)
        have hy := make_z y (by omega)
        have hyc := conv_z y
        rw [show ((y + 1 : Nat) : Int) = (y : Int) + 1 by omega] at hz
        have hF : Full m (cc + 1) S' st (B.append (zs y)).2.2 := ⟨hI', e3, HX.out.2.2.2.1, by rw [ha4]; exact HX.out.2.2.2.2.1, by omega, by rw [HX.out.2.2.2.2.2.1]; exact ha2⟩
        have HAP := Lib.hid (fun (w' : World) (h : Wk w w' vb jb bb tb S false st B []) => by
          have := kappend (zs (y + 1)) h HX.out.1.len (by have := HX.out.2.1; exact this) HX.out.1.small
          rw [HX.out.2.2.2.2.2.1, hap] at this
          exact this)
        have HAQ := Lib.hid (fun (w' : World) (h : Wk w w' vb jb bb tb S false st B []) => by
          have := kappend (zs y) h HX.out.1.len (by have := HX.out.2.1; exact this) HX.out.1.small
          rw [HX.out.2.2.2.2.2.1, ha1] at this
          exact this)
        have HFS := Lib.hid (fun (w' : World) (h : Wk w w' vb jb bb tb S' false st B []) => by
          have := kjfree h hF.inv.len (by have := hF.inv.s; rw [hF.s] at this; exact this) hF.inv.small
          rw [hF.free] at this
          exact this)
        obtain ⟨la, hla⟩ : ∃ la, S'.last = la := ⟨_, rfl⟩
        have hlb := hF.last
        rw [hla] at hlb
        have HT := Lib.hid hF
        have HLA := Lib.hid hla
        have dla : decide (la < 1) = false := by simp; omega
        obtain ⟨d1, hd1⟩ : ∃ d, zs (y + 1) = d := ⟨_, rfl⟩
        rw [hd1] at hzc HAP
        clear hF hap hla hbS ha1 ha2 ha3 ha4 hI' e3 hfn hd1
        by_cases hlt2 : k < l.length
        case' pos =>
          have hk4 : ¬ (k < 20) := fun h => hlt ⟨hlt2, h⟩
        all_goals
          go_wp2_with (first
            | (go_at_call 26; refine (HFR.out _ hW).mono ?_; rintro e w4 ⟨rfl, hWb⟩; clear hW)
            | (go_at_call 27; refine (HBF.out _ hWb).mono ?_; rintro e w5 ⟨rfl, hWc⟩; clear hWb)
            | (go_at_call_of 23 (Value.string d1); refine (HAP.out _ (hWc.below ((Below.refl _ _).alloc (Nat.le_refl _) _))).mono ?_; rintro e w6 ⟨rfl, hWd⟩; clear hWc)
            | (go_at_call_of 23 (Value.string (zs y)); refine (HAQ.out _ (hWd.below ((Below.refl _ _).alloc (Nat.le_refl _) _))).mono ?_; rintro e w6b ⟨rfl, hWd2⟩; clear hWd)
            | (go_at_call 26; refine (HFS.out _ hWd2).mono ?_; rintro e w6c ⟨rfl, hWe⟩; clear hWd2)
            | (go_at_call_of 23 (Value.string (⟨#[]⟩ : ByteArray)); refine (full_app0 HT.out hWe).mono ?_; rintro e w7 ⟨rfl, hWf⟩; clear hWe)
            | (go_at_call 28; refine (full_last HT.out HLA.out hWf).mono ?_; rintro e w8 ⟨rfl, hWg⟩; clear hWf)
            | (go_at_call 16; refine (HT.out.commit (by omega) hWg).mono ?_; rintro e w9 ⟨rfl, st1, hWh, C1, hI1, hs1, hC1⟩; have H1 := Lib.hid (And.intro hI1 (And.intro hs1 hC1)); clear hWg hI1 hs1 hC1)
            | (go_at_call 17; refine (full_trunc HLA.out HT.out.many H1.out.1 H1.out.2.1 H1.out.2.2 (by omega) hWh).mono ?_; rintro e w10 ⟨rfl, st2, hWi, hl2, hS2⟩; have H2 := Lib.hid (And.intro hl2 hS2); clear hWh hl2 hS2)
            | (go_at_call_of 23 (Value.string (zs 65537)); refine (full_long H2.out.1 H2.out.2 (by omega) (hWi.below ((Below.refl _ _).alloc (Nat.le_refl _) _))).mono ?_; rintro e w11 ⟨rfl, hWj⟩; clear hWi))
          obtain ⟨ar, ac, hq⟩ := full_tail HLA.out HX.out.2.2.2.2.2.1 (by omega) (by omega) HX.out.2.2.2.2.2.2 H2.out.1 H2.out.2 (by omega) hWj
          have HQ := Lib.hid hq
          have hw1 : IntKind.i64.wrap ((N : Int) - 16) = (N : Int) - 16 := by rw [IntKind.wrap_i64] <;> omega
          have hw2 : IntKind.i64.wrap (la + 1) = la + 1 := by rw [IntKind.wrap_i64] <;> omega
          have hb : Below w11.heap.size w11 w11.drew := (Below.refl _ _).drew
          have k2 := (HQ.out _ hb).1
          clear hq
          go_region_held3 (fun w' => Below w11.heap.size w11 w' ∧ w'.cell? ⟨bb, 2, none⟩ = some (Value.slice ar N ac))
            (with_reducible exact ⟨hb, k2⟩)
            (first
              | (go_at_call 26; refine (HQ.out _ hb).2.1.mono ?_; rintro e w12 ⟨rfl, hb⟩; have k2 := (HQ.out _ hb).1)
              | (go_at_call 29; refine (HQ.out _ hb).2.2.1.mono ?_; rintro e w12 ⟨rfl, hb⟩; have k2 := (HQ.out _ hb).1)
              | (go_at_call 28; refine (HQ.out _ hb).2.2.2.mono ?_; rintro e w12 ⟨rfl, hb⟩; have k2 := (HQ.out _ hb).1))
          have HW := Lib.hid hWj.size
          clear hWj
          go_wp2_with fail
          go_ret
          exact ⟨rfl, HW.out.trans (hb.mono HW.out.size)⟩
end Go.Proofs.YtfdnpchbbngpjaaGreat
