/- The law Slices: walked. -/
import Derived.Test.YtbpokgjahlnfhaaPld
namespace Go.Proofs.Ytbpokgjahlnfhaa
open Go.RowKit Go.Shelf

def bA (l : List UInt8) : ByteArray := ⟨l.toArray⟩
theorem bA_append (a b : List UInt8) : bA a ++ bA b = bA (a ++ b) := by
  apply bytes_ext
  simp [bA]
theorem bA_list (a : List UInt8) : (bA a).data.toList = a := by simp [bA]
set_option maxRecDepth 100000 in
set_option maxHeartbeats 4000000 in
theorem slices_row {s : ByteArray} {w : World} {v : Value} {l : List OpP} {r0 r1 : Int} (hs : s.size ≤ maxLen) (hops : Ops w v l) (hr0 : -9223372036854775808 ≤ r0 ∧ r0 ≤ 9223372036854775807) (hr1 : -9223372036854775808 ≤ r1 ∧ r1 ≤ 9223372036854775807) :
    Calls Try.prog 9 #[.string s, v, .agg #[.int .i64 r0, .int .i64 r1]] w (LawPost w) := by
  have hc := cut300_size s
  obtain ⟨ao, cap, rfl⟩ := hops.shape
  have HO := Lib.hid hops
  obtain ⟨i1, i2, i3, i4, i5⟩ := run_inv (cut300 s) l 60 hc
  obtain ⟨t, n, hR⟩ : ∃ t n, runS (cut300 s) l 60 = (t, n) := ⟨_, _, rfl⟩
  have HRun := Lib.hid (fun (w1 : World) (h : Ops w1 (.slice ao l.length cap) l) => run_any (cut300 s) hc h)
  unfold RunPost at HRun
  rw [hR] at i1 i4 HRun
  simp only at i1 i4 HRun
  have hsz1 : t.str.size = t.size := Tr.str_size t
  have HI := Lib.hid i1
  have HR0 := Lib.hid hr0
  have HR1 := Lib.hid hr1
  obtain ⟨f, hf⟩ : ∃ f, nearP r0 t.size = f := ⟨_, rfl⟩
  obtain ⟨g, hg⟩ : ∃ g, nearP r1 t.size = g := ⟨_, rfl⟩
  have hfb := nearP_bd r0 t.size
  have hgb := nearP_bd r1 t.size
  rw [hf] at hfb
  rw [hg] at hgb
  have HF := Lib.hid hf
  have HG := Lib.hid hg
  clear hops hR i1 i2 i3 i5 hf hg hr0 hr1
  go_enter Try.func9, Try.ntmps9
  go_wp2_with fail
  have hbk := Blk.new w 50 #[.int .i64 r0, .int .i64 r1]
  have hB0 : Below w.heap.size w (w.alloc (.cells #[.int .i64 r0, .int .i64 r1] 50)) := (Below.refl _ w).alloc (Nat.le_refl _) _
  obtain ⟨W0, hW0⟩ : ∃ W0, w.alloc (.cells #[.int .i64 r0, .int .i64 r1] 50) = W0 := ⟨_, rfl⟩
  rw [hW0] at hbk hB0 ⊢
  clear hW0
  refine (known_any W0).mono ?_
  rintro e w1 ⟨rfl, hb1⟩
  have hlt0 := hbk.lt
  have hbk1 := hbk.below hb1 hlt0
  have hlt1 := hbk1.lt
  have hB1 : Below w.heap.size w w1 := hB0.trans (hb1.mono hB0.size)
  go_wp2_with (first
      | (go_at_call 20; refine (cut_any s _ hs).mono ?_; rintro e w2 ⟨rfl, rfl⟩)
      | (go_at_call 19; refine (HRun.out _ ((HO.out.below hB0).below hb1)).mono ?_; rintro e w3 ⟨tb, rfl, hT, hb3, htb⟩; have hbk3 := hbk1.below hb3 hlt1; have y0 := hbk3.cell 0; have y1 := hbk3.cell 1; simp at y0 y1))
  have hB3 : Below w.heap.size w w3 := hB1.trans (hb3.mono hB1.size)
  have HT := Lib.hid hT
  have HB3 := Lib.hid hB3
  have hsz3 : t.str.size ≤ 300000 := by omega
  have hlt3 := hbk3.lt
  clear hB3 hT hB1 hB0 hb1 hb3 hbk hbk1 hbk3 hlt0 hlt1
  go_quiet ((first
    | (go_at_call_of 16 (Value.int IntKind.i64 r0); exact (near_any r0 t.str.size _ HR0.out hsz3).mono fun _ _ ⟨he, hw⟩ => ⟨he, _, hw.symm⟩)
    | (go_at_call_of 16 (Value.int IntKind.i64 r1); exact (near_any r1 t.str.size _ HR1.out hsz3).mono fun _ _ ⟨he, hw⟩ => ⟨he, _, hw.symm⟩)))
  rw [hsz1, HF.out, HG.out]
  by_cases h1 : f < 0
  · have d1 : decide (f < 0) = true := by simpa using h1
    have hno : (t.slice f g).1 = 2 := by rw [slice_no]; exact if_pos (by omega)
    have hch : t.chunks f g = (2, []) := by unfold Tr.chunks; rw [if_pos]; exact if_pos (by omega)
    have hx : (t.slice f g).2 = ⟨#[]⟩ := by unfold Tr.slice; rw [hch]; rfl
    have HNO := Lib.hid hno
    have HCH := Lib.hid hch
    have HX := Lib.hid hx
    clear hno hch hx
    go_wp2_with (first
      | (go_at_call 28; refine (tslice_any f g (HT.out.drewN _) HI.out).mono ?_; rw [HNO.out, HX.out]; rintro e w5 ⟨rfl, hb5⟩; have HT5 := Lib.hid ((HT.out.drewN _).below hb5))
      | (go_at_call 29; refine (chunks_any f g HT5.out HI.out).mono ?_; rw [HCH.out]; rintro e w6 ⟨v6, rfl, q1, q2⟩; obtain ⟨ao6, cap6, rfl⟩ := row_slice q1; have HT6 := Lib.hid (HT5.out.below q2)))
    go_ret
    have b5 := (below_drewN HB3.out nq).trans (hb5.mono HB3.out.size)
    exact ⟨rfl, b5.trans (q2.mono b5.size)⟩
  · have d1 : decide (f < 0) = false := by simpa using h1
    by_cases h2 : g < f
    · have d2 : decide (g < f) = true := by simpa using h2
      have hno : (t.slice f g).1 = 2 := by rw [slice_no]; exact if_pos (by omega)
      have hch : t.chunks f g = (2, []) := by unfold Tr.chunks; rw [if_pos]; exact if_pos (by omega)
      have hx : (t.slice f g).2 = ⟨#[]⟩ := by unfold Tr.slice; rw [hch]; rfl
      have HNO := Lib.hid hno
      have HCH := Lib.hid hch
      have HX := Lib.hid hx
      clear hno hch hx
      go_wp2_with (first
      | (go_at_call 28; refine (tslice_any f g (HT.out.drewN _) HI.out).mono ?_; rw [HNO.out, HX.out]; rintro e w5 ⟨rfl, hb5⟩; have HT5 := Lib.hid ((HT.out.drewN _).below hb5))
      | (go_at_call 29; refine (chunks_any f g HT5.out HI.out).mono ?_; rw [HCH.out]; rintro e w6 ⟨v6, rfl, q1, q2⟩; obtain ⟨ao6, cap6, rfl⟩ := row_slice q1; have HT6 := Lib.hid (HT5.out.below q2)))
      go_ret
      have b5 := (below_drewN HB3.out nq).trans (hb5.mono HB3.out.size)
      exact ⟨rfl, b5.trans (q2.mono b5.size)⟩
    · have d2 : decide (g < f) = false := by simpa using h2
      by_cases h3 : (t.size : Int) < g
      · have d3 : decide ((t.size : Int) < g) = true := by simpa using h3
        have hno : (t.slice f g).1 = 2 := by rw [slice_no]; exact if_pos (by omega)
        have hch : t.chunks f g = (2, []) := by unfold Tr.chunks; rw [if_pos]; exact if_pos (by omega)
        have hx : (t.slice f g).2 = ⟨#[]⟩ := by unfold Tr.slice; rw [hch]; rfl
        have HNO := Lib.hid hno
        have HCH := Lib.hid hch
        have HX := Lib.hid hx
        clear hno hch hx
        go_wp2_with (first
      | (go_at_call 28; refine (tslice_any f g (HT.out.drewN _) HI.out).mono ?_; rw [HNO.out, HX.out]; rintro e w5 ⟨rfl, hb5⟩; have HT5 := Lib.hid ((HT.out.drewN _).below hb5))
      | (go_at_call 29; refine (chunks_any f g HT5.out HI.out).mono ?_; rw [HCH.out]; rintro e w6 ⟨v6, rfl, q1, q2⟩; obtain ⟨ao6, cap6, rfl⟩ := row_slice q1; have HT6 := Lib.hid (HT5.out.below q2)))
        go_ret
        have b5 := (below_drewN HB3.out nq).trans (hb5.mono HB3.out.size)
        exact ⟨rfl, b5.trans (q2.mono b5.size)⟩
      · have d3 : decide ((t.size : Int) < g) = false := by simpa using h3
        obtain ⟨x0, rfl⟩ := Int.eq_ofNat_of_zero_le (show 0 ≤ f by omega)
        obtain ⟨x1, rfl⟩ := Int.eq_ofNat_of_zero_le (show 0 ≤ g by omega)
        have hx01 : x0 ≤ x1 := by omega
        have hx1t : x1 ≤ t.size := by omega
        obtain ⟨L, hL⟩ : ∃ L, t.vis (x0 : Int) (x1 : Int) = L := ⟨_, rfl⟩
        have hno : (t.slice (x0 : Int) (x1 : Int)).1 = 0 := by rw [slice_no]; exact if_neg (by omega)
        have hw0 : wrongNo t.size (x0 : Int) (x1 : Int) = 0 := if_neg (by omega)
        have hch : t.chunks (x0 : Int) (x1 : Int) = (0, L) := by unfold Tr.chunks; rw [hw0, if_neg (by omega), hL]
        have hx : (t.slice (x0 : Int) (x1 : Int)).2 = bA L.flatten := by unfold Tr.slice; rw [hch]; rfl
        have hfl : L.flatten = (t.bytes.take x1).drop x0 := by rw [← hL, Tr.vis_bytes, Int.toNat_natCast, Int.toNat_natCast]
        have hwant : t.str.extract x0 x1 = bA L.flatten := by
          rw [extract_cut, hfl, Tr.str_list]
          rfl
        have hfull : ∀ y ∈ L, y ≠ [] := by rw [← hL]; exact Tr.vis_full t _ _
        have hfz : L.flatten.length ≤ t.size := by rw [← hL]; exact seg_nil t _ _
        have hlen : L.length ≤ t.count := by rw [← hL]; exact Tr.vis_len t _ _
        have hcs := Tr.count_le HI.out.1
        have HNO := Lib.hid hno
        have HCH := Lib.hid hch
        have HX := Lib.hid hx
        have HFU := Lib.hid hfull
        have HWA := Lib.hid hwant
        clear hno hch hx hw0 hfl hfull hL hwant h1 h2 h3
        go_wp2_with (first
      | (go_at_call 28; refine (tslice_any (x0 : Int) (x1 : Int) (HT.out.drewN _) HI.out).mono ?_; rw [HNO.out, HX.out]; rintro e w5 ⟨rfl, hb5⟩; have HT5 := Lib.hid ((HT.out.drewN _).below hb5))
      | (go_at_call 29; refine (chunks_any (x0 : Int) (x1 : Int) HT5.out HI.out).mono ?_; rw [HCH.out]; rintro e w6 ⟨v6, rfl, q1, q2⟩; obtain ⟨ao6, cap6, rfl⟩ := row_slice q1; have HT6 := Lib.hid (HT5.out.below q2)))
        have b5 := (below_drewN HB3.out nq).trans (hb5.mono HB3.out.size)
        have b6 := b5.trans (q2.mono b5.size)
        have Q1 := Lib.hid q1
        have HB6 := Lib.hid b6
        have hes : (⟨#[]⟩ : ByteArray) = bA (L.take 0).flatten := rfl
        have HES := Lib.hid hes
        clear b5 b6 hb5 q2 q1 hes
        go_loopw [17, 18] (fun sv iv wr => ∃ k m : Nat, k ≤ L.length ∧ sv = .string (bA (L.take k).flatten) ∧ iv = .int .i64 (k : Int) ∧ wr = w6.drewN m) (fun _ iv _ => L.length - (intOf iv).toNat)
        case atStart => exact ⟨0, 0, Nat.zero_le _, by rw [HES.out], rfl, rfl⟩
        case round =>
          obtain ⟨k, m, hk, rfl, rfl, rfl⟩ := hrel
          by_cases hlt : k < L.length
          · have hkI : (k : Int) < (L.length : Int) := by omega
            rcases Q1.out.2 with ⟨_, h0⟩ | ⟨g6, capx, cur, e, _, _, _, _, _, _⟩
            · omega
            · injection e with e1 e2 e3
              subst e1
              have hcell := Q1.out.cellAt k (by omega)
              have hy := HFU.out L[k] (List.getElem_mem hlt)
              rw [List.getElem?_map, List.getElem?_eq_getElem hlt] at hcell
              have hst : bA (L.take k).flatten ++ bA L[k] = bA (L.take (k + 1)).flatten := by
                rw [bA_append, List.take_succ_eq_append_getElem hlt, List.flatten_append]
                simp
              obtain ⟨y, hyy⟩ : ∃ y, L[k] = y := ⟨_, rfl⟩
              rw [hyy] at hcell hy hst
              have hcell2 : w6.cell? ⟨g6, k, none⟩ = some (.string (bA y)) := hcell
              clear hcell
              have hne := ne_empty (s := bA y) (fun e => hy (by
                have : (bA y).data.toList.length = 0 := by simpa using e
                rw [bA_list] at this
                exact List.length_eq_zero_iff.1 this))
              have hbz : (bA (L.take k).flatten).size + (bA y).size ≤ 300000 := by
                have e1 : (bA (L.take (k + 1)).flatten).size = (bA (L.take k).flatten).size + (bA y).size := by rw [← hst]; simp
                have e2 : (bA (L.take (k + 1)).flatten).size = (L.take (k + 1)).flatten.length := by show (List.toArray _).size = _; simp
                have e3 := congrArg (fun x : List (List UInt8) => x.flatten.length) (List.take_append_drop (k + 1) L)
                simp only [List.flatten_append, List.length_append] at e3
                omega
              have HST := Lib.hid hst
              clear hst hy hyy e2 e3
              go_wp2_with fail
              go_roundw
              case rel => exact ⟨k + 1, _, by omega, by rw [HST.out], by go_num, rfl⟩
              case measure => (simp [intOf] <;> omega)
          · obtain rfl : k = L.length := by omega
            rw [List.take_length]
            have hWA := HWA.out
            have hcl : (L.length : Int) ≤ (t.count : Int) := by omega
            have d7 : decide ((L.length : Int) ≤ (t.count : Int)) = true := by simpa using hcl
            go_wp2_with (go_at_call 22; refine (tpieces_any (HT6.out.drewN _)).mono ?_; rintro e w9 ⟨rfl, n9, rfl⟩)
            go_ret
            exact ⟨rfl, below_drewN HB6.out _⟩
end Go.Proofs.Ytbpokgjahlnfhaa
