/- The law Lines: walked. -/
import Derived.Test.YtbpokgjahlnfhaaPlp
import Derived.Test.YtbpokgjahlnfhaaPlf
namespace Go.Proofs.Ytbpokgjahlnfhaa
open Go.RowKit Go.Shelf

set_option maxHeartbeats 1000000 in
theorem lineAt_bad (a : Int) {w : World} {tb : Nat} {t : Tr} (h : Tree w tb t) (ha : a < 0 ∨ (t.size : Int) < a) :
    Calls Try.prog 33 #[.pointer (some ⟨tb, 0, none⟩), .int .i64 a] w fun e w' => e = .returned (.tuple #[.int .i64 0, .int .i64 2]) ∧ w = w' := by
  have hw : wrongNo t.size a a = 2 := if_pos (by omega)
  have HW := Lib.hid hw
  clear hw ha
  go_enter Try.func33, Try.ntmps33
  go_wp2_with (go_at_call 37; refine (wrong_any _ _ h).mono ?_; rw [HW.out]; rintro e w1 ⟨rfl, rfl⟩)
  go_ret2
  exact ⟨rfl, rfl⟩
theorem str_bA (t : Tr) : bA t.bytes = t.str := rfl
theorem bA_ext (t : Tr) {a b : Nat} : t.str.extract a b = bA ((t.bytes.drop a).take (b - a)) := by
  apply bytes_ext
  rw [bA_list, Lib.extract_data]
  rfl
/-- what Line returns, in all cases -/
structure LineRes (t : Tr) (n : Int) (A B C : Int) : Prop where
  bad : (n < 0 ∨ (t.feeds : Int) < n) → A = 0 ∧ B = 0 ∧ C = 2
abbrev LineCalls (t : Tr) (tb : Nat) (n A B C : Int) : Prop := ∀ w, Tree w tb t → Calls Try.prog 32 #[.pointer (some ⟨tb, 0, none⟩), .int .i64 n] w fun e w' => e = .returned (.tuple #[.int .i64 A, .int .i64 B, .int .i64 C]) ∧ ∃ n, w' = w.drewN n
theorem line_all (t : Tr) (n : Int) (ho : t.okay) : ∃ A B C : Int, (∀ tb, LineCalls t tb n A B C) ∧ ((n < 0 ∨ (t.feeds : Int) < n) → A = 0 ∧ B = 0 ∧ C = 2) := by
  by_cases h : n < 0 ∨ (t.feeds : Int) < n
  · exact ⟨0, 0, 2, fun tb w hT => line_bad n hT ho h, fun _ => ⟨rfl, rfl, rfl⟩⟩
  · obtain ⟨m, rfl⟩ : ∃ m : Nat, n = m := ⟨n.toNat, by omega⟩
    exact ⟨t.lineFrom m, t.lineTo m, 0, fun tb w hT => line_ok m hT ho (by omega), fun k => absurd k h⟩
abbrev LineAtCalls (t : Tr) (tb : Nat) (f K E : Int) : Prop := ∀ w, Tree w tb t → Calls Try.prog 33 #[.pointer (some ⟨tb, 0, none⟩), .int .i64 f] w fun e w' => e = .returned (.tuple #[.int .i64 K, .int .i64 E]) ∧ ∃ n, w' = w.drewN n
set_option maxRecDepth 100000 in
set_option maxHeartbeats 4000000 in
theorem lines_row {s : ByteArray} {w : World} {v : Value} {l : List OpP} {r0 : Int} (hs : s.size ≤ maxLen) (hops : Ops w v l) (hr0 : -9223372036854775808 ≤ r0 ∧ r0 ≤ 9223372036854775807) :
    Calls Try.prog 11 #[.string s, v, .int .i64 r0] w (LawPost w) := by
  have hc := cut300_size s
  obtain ⟨ao, cap, rfl⟩ := hops.shape
  have HO := Lib.hid hops
  obtain ⟨i1, i2, i3, i4, i5⟩ := run_inv (cut300 s) l 60 hc
  obtain ⟨t, n, hR⟩ : ∃ t n, runS (cut300 s) l 60 = (t, n) := ⟨_, _, rfl⟩
  have HRun := Lib.hid (fun (w1 : World) (h : Ops w1 (.slice ao l.length cap) l) => run_any (cut300 s) hc h)
  unfold RunPost at HRun
  rw [hR] at i1 i4 HRun
  simp only at i1 i4 HRun
  have hsz1 : t.str.size = t.size := Tr.str_size t
  have HI := Lib.hid i1
  have HR0 := Lib.hid hr0
  obtain ⟨f, hf⟩ : ∃ f, nearP r0 t.size = f := ⟨_, rfl⟩
  have hfb := nearP_bd r0 t.size
  rw [hf] at hfb
  have HF := Lib.hid hf
  have hsl : (starts t.str.data.toList).length = t.feeds + 1 := starts_len t
  have hfl := Tr.feeds_le t
  clear hops hR i1 i2 i3 i5 hf hr0
  go_enter Try.func11, Try.ntmps11
  go_wp2_with fail
  refine (known_any w).mono ?_
  rintro e w1 ⟨rfl, hb1⟩
  have hrl := fun w0 => rlines_any t.str (by omega) w0
  unfold LinesPost at hrl
  rw [hsl] at hrl
  have HL := Lib.hid hrl
  clear hrl
  go_wp2_with (first
      | (go_at_call 20; refine (cut_any s _ hs).mono ?_; rintro e w2 ⟨rfl, rfl⟩)
      | (go_at_call 19; refine (HRun.out _ (HO.out.below hb1)).mono ?_; rintro e w3 ⟨tb, rfl, hT, hb3, htb⟩)
      | (go_at_call 30; refine (HL.out _).mono ?_; rintro e w4 ⟨v4, rfl, hb4, hown⟩; obtain ⟨ao4, cap4, rfl⟩ := row_slice hown; have HT := Lib.hid (hT.below hb4))
      | (go_at_call 31; refine (tlines_any HT.out HI.out).mono ?_; rintro e w5 ⟨rfl, n5, rfl⟩))
  have hB4 : Below w.heap.size w w4 := by
    have b3 := hb1.trans (hb3.mono hb1.size)
    exact b3.trans (hb4.mono b3.size)
  have HB4 := Lib.hid hB4
  rw [← hsl] at hown
  have hints := Ints.of_owns hown
  rw [hsl] at hown hints
  rcases hints.open with ⟨h0, _⟩ | ⟨_, b, off, cap', hv, hc1, hc2, hlt4, hcells⟩
  · cases h0
  rw [hsl] at hv hc1 hcells
  injection hv with e1 e2 e3
  subst e1 e3
  have hcell : ∀ i, i ≤ t.feeds → w4.cell? ⟨b, off + i, none⟩ = some (.int .i64 (t.lineFrom i : Int)) := fun i hi => by
    rw [hcells i (by omega)]
    exact congrArg (fun x => some (Value.int .i64 x)) (starts_get t hi)
  have HC := Lib.hid hcell
  have hfb2 : t.feeds ≤ 20000 := by omega
  have hsb2 : t.str.size ≤ 20000 := by omega
  clear hcell hcells hints hown hB4 hb4 hb3 hb1 hT hlt4 hsl hfl
  go_loopw [12, 13] (fun sv iv wr => ∃ i m : Nat, i ≤ t.feeds + 1 ∧ sv = .string (bA (t.joined i)) ∧ iv = .int .i64 (i : Int) ∧ wr = w4.drewN m) (fun _ iv _ => t.feeds + 1 - (intOf iv).toNat)
  case atStart => exact ⟨0, n5, Nat.zero_le _, rfl, rfl, rfl⟩
  case round =>
    obtain ⟨i, m, hi, rfl, rfl, rfl⟩ := hrel
    by_cases hlt : i ≤ t.feeds
    · have hle := line_le t hlt
      have hci := HC.out i hlt
      have d1 : decide ((i : Int) < (t.feeds : Int) + 1) = true := by rw [decide_eq_true_eq]; omega
      obtain ⟨F, hF⟩ : ∃ F, t.lineFrom i = F := ⟨_, rfl⟩
      obtain ⟨T, hTT⟩ : ∃ T, t.lineTo i = T := ⟨_, rfl⟩
      rw [hF, hTT] at hle
      rw [hF] at hci
      have h1 : F ≤ T := hle.1
      have h2 : T ≤ t.str.size := by omega
      have d2 : decide ((T : Int) < (F : Int)) = false := by rw [decide_eq_false_iff_not]; omega
      have d3 : decide ((t.str.size : Int) < (T : Int)) = false := by rw [decide_eq_false_iff_not]; omega
      have d4 : (T < F) = False := by simp; omega
      have d5 : (t.str.size < T) = False := by simp; omega
      have hLn := line_ok i (HT.out.drewN m) HI.out hlt
      rw [hF, hTT] at hLn
      have HLn := Lib.hid hLn
      have hxe : t.str.extract F T = bA ((t.bytes.drop F).take (T - F)) := bA_ext t
      have HX := Lib.hid hxe
      have HF2 := Lib.hid hF
      have HT2 := Lib.hid hTT
      have hlt2 : i < t.feeds + 1 := by omega
      clear hF hTT hle hLn hxe hlt
      obtain ⟨S0, hS0⟩ : ∃ S0, bA (t.joined i) = S0 := ⟨_, rfl⟩
      have hS0b : S0.size ≤ 20000 := by
        rw [← hS0]
        show (t.joined i).toArray.size ≤ 20000
        rw [List.size_toArray]
        unfold Tr.joined
        have hts : t.bytes.length = t.size := rfl
        split
        · simp
        · rw [List.length_take]; omega
      rw [hS0]
      have HS0 := Lib.hid hS0
      clear hS0
      by_cases hi0 : i = 0
      · subst hi0
        rw [Nat.add_zero] at hci
        go_wp2_with (go_at_call 32; refine HLn.out.mono ?_; rintro e w6 ⟨rfl, n6, rfl⟩)
        rw [HX.out, ← HS0.out, bA_append]
        refine ⟨⟨1, m + n6, by omega, ?_, by go_num, rfl⟩, by simp [intOf]⟩
        have hj := joined_first t
        rw [HF2.out, HT2.out] at hj
        rw [hj]
      · have d0 : decide ((0 : Int) < (i : Int)) = true := by rw [decide_eq_true_eq]; omega
        have d6 : (0 < i) = True := by simp; omega
        have HI0 := Lib.hid hi0
        clear hi0
        go_wp2_with (go_at_call 32; refine HLn.out.mono ?_; rintro e w6 ⟨rfl, n6, rfl⟩)
        rw [HX.out, ← HS0.out, show (⟨#[10]⟩ : ByteArray) = bA [10] from rfl, bA_append, bA_append]
        refine ⟨⟨i + 1, m + n6, by omega, ?_, by go_num, rfl⟩, by simp [intOf]; omega⟩
        obtain ⟨j, rfl⟩ : ∃ j, i = j + 1 := ⟨i - 1, by have := HI0.out; omega⟩
        have hj := joined_next t (show j + 1 ≤ t.feeds by omega)
        rw [HF2.out, HT2.out] at hj
        rw [hj]
    · have hie : i = t.feeds + 1 := by omega
      subst hie
      rw [joined_end, str_bA]
      clear hlt hi
      obtain ⟨A, B, C, hLA, hbad⟩ := line_all t r0 HI.out
      have HLA := Lib.hid (hLA tb)
      clear hLA
      have hr : (decide (r0 < 0) = true ∧ A = 0 ∧ B = 0 ∧ C = 2) ∨ (decide (r0 < 0) = false ∧ decide ((t.feeds : Int) + 1 ≤ r0) = true ∧ A = 0 ∧ B = 0 ∧ C = 2) ∨ (decide (r0 < 0) = false ∧ decide ((t.feeds : Int) + 1 ≤ r0) = false) := by
        simp only [decide_eq_true_eq, decide_eq_false_iff_not]
        by_cases k1 : r0 < 0
        · exact .inl ⟨k1, hbad (.inl k1)⟩
        · by_cases k2 : (t.feeds : Int) + 1 ≤ r0
          · exact .inr (.inl ⟨k1, k2, hbad (.inr (by omega))⟩)
          · exact .inr (.inr ⟨k1, k2⟩)
      obtain ⟨K, E, hLF, hfr⟩ : ∃ K E : Int, LineAtCalls t tb f K E ∧ ((decide (f < 0) = true ∧ K = 0 ∧ E = 2) ∨ (decide (f < 0) = false ∧ decide ((t.str.size : Int) < f) = true ∧ K = 0 ∧ E = 2) ∨ (decide (f < 0) = false ∧ decide ((t.str.size : Int) < f) = false ∧ K = (t.feedsTo f.toNat : Int) ∧ E = 0)) := by
        simp only [decide_eq_true_eq, decide_eq_false_iff_not]
        by_cases k1 : f < 0
        · exact ⟨0, 2, fun w hT => (lineAt_bad f hT (.inl k1)).mono fun _ _ ⟨he, hw⟩ => ⟨he, 0, hw.symm⟩, .inl ⟨k1, rfl, rfl⟩⟩
        · by_cases k2 : (t.str.size : Int) < f
          · exact ⟨0, 2, fun w hT => (lineAt_bad f hT (.inr (by omega))).mono fun _ _ ⟨he, hw⟩ => ⟨he, 0, hw.symm⟩, .inr (.inl ⟨k1, k2, rfl, rfl⟩)⟩
          · refine ⟨(t.feedsTo f.toNat : Int), 0, fun w hT => ?_, .inr (.inr ⟨k1, k2, rfl, rfl⟩)⟩
            have := lineAt_ok f.toNat hT HI.out (by omega)
            rwa [show ((f.toNat : Nat) : Int) = f from by omega] at this
      have HLF := Lib.hid hLF
      have HFR := Lib.hid hfr
      clear hbad hLF hfr
      rcases hr with ⟨d1, rfl, rfl, rfl⟩ | ⟨d1, d2, rfl, rfl, rfl⟩ | ⟨d1, d2⟩
      all_goals
        have htb : t.size ≤ 300000 := by omega
        rcases HFR.out with ⟨f1, rfl, rfl⟩ | ⟨f1, f2, rfl, rfl⟩ | ⟨f1, f2, fK, rfl⟩
        · clear HFR
          go_wp2_with (first
            | (go_at_call 32; refine (HLA.out _ (HT.out.drewN _)).mono ?_; rintro e w6 ⟨rfl, n6, rfl⟩)
            | (go_at_call 16; refine (near_any r0 t.size _ HR0.out htb).mono ?_; rw [HF.out]; rintro e w7 ⟨rfl, rfl⟩)
            | (go_at_call 33; refine (HLF.out _ (HT.out.drewN _)).mono ?_; rintro e w6 ⟨rfl, n7, rfl⟩))
          go_ret
          exact ⟨rfl, below_drewN HB4.out _⟩
        · have g2 : decide ((t.size : Int) < f) = true := by rw [← hsz1]; exact f2
          clear HFR
          go_wp2_with (first
            | (go_at_call 32; refine (HLA.out _ (HT.out.drewN _)).mono ?_; rintro e w6 ⟨rfl, n6, rfl⟩)
            | (go_at_call 16; refine (near_any r0 t.size _ HR0.out htb).mono ?_; rw [HF.out]; rintro e w7 ⟨rfl, rfl⟩)
            | (go_at_call 33; refine (HLF.out _ (HT.out.drewN _)).mono ?_; rintro e w6 ⟨rfl, n7, rfl⟩))
          go_ret
          exact ⟨rfl, below_drewN HB4.out _⟩
        · clear HFR
          obtain ⟨a, rfl⟩ : ∃ a : Nat, f = a := ⟨f.toNat, by rw [decide_eq_false_iff_not] at f1; omega⟩
          rw [Int.toNat_natCast] at fK
          have hab : a ≤ t.size := by rw [decide_eq_false_iff_not] at f2; omega
          have g2 : (t.size < a) = False := by simp; omega
          have HFK := Lib.hid fK
          clear fK
          go_wp2_with (first
            | (go_at_call 32; refine (HLA.out _ (HT.out.drewN _)).mono ?_; rintro e w6 ⟨rfl, n6, rfl⟩)
            | (go_at_call 16; refine (near_any r0 t.size _ HR0.out htb).mono ?_; rw [HF.out]; rintro e w7 ⟨rfl, rfl⟩)
            | (go_at_call 33; refine (HLF.out _ (HT.out.drewN _)).mono ?_; rintro e w6 ⟨rfl, n7, rfl⟩))
          go_loopw [23, 24] (fun cv iv wr => ∃ i : Nat, i ≤ a ∧ cv = .int .i64 (t.feedsTo i : Int) ∧ iv = .int .i64 (i : Int) ∧ wr = w4.drewN (m + n6 + n7)) (fun _ iv _ => a - (intOf iv).toNat)
          case atStart => exact ⟨0, Nat.zero_le _, rfl, rfl, rfl⟩
          case round =>
            obtain ⟨i, hi, rfl, rfl, rfl⟩ := hrel
            by_cases hlt : i < a
            · have hsz2 : t.str.data.toList.length = t.str.size := by simp
              have hil : i < t.str.size := by omega
              have hsu : t.feedsTo (i + 1) = t.feedsTo i + if t.str[i] = 10 then 1 else 0 := feedsTo_succ t (show i < t.bytes.length from (show i < t.size by omega))
              have hcb : t.feedsTo i ≤ 300000 := by
                have := fcnt_le (t.bytes.take i)
                rw [List.length_take] at this
                have h3 : t.feedsTo i = fcnt (t.bytes.take i) := rfl
                omega
              obtain ⟨c, hc⟩ : ∃ c, t.feedsTo i = c := ⟨_, rfl⟩
              rw [hc] at hsu hcb ⊢
              by_cases hb : t.str[i] = 10
              · rw [if_pos hb] at hsu
                have HS := Lib.hid hsu
                have dd : (((t.str[i] : UInt8).toNat : Int) == 10) = true := by rw [hb]; rfl
                clear hsu hc hb hsz2
                go_wp2_with fail
                exact ⟨⟨i + 1, by omega, by rw [HS.out]; go_num, by go_num, trivial⟩, by simp [intOf]; omega⟩
              · rw [if_neg hb] at hsu
                have HS := Lib.hid hsu
                have dd : (((t.str[i] : UInt8).toNat : Int) == 10) = false := by
                  rw [beq_eq_false_iff_ne]
                  intro h
                  exact hb (UInt8.toNat_inj.1 (by show t.str[i].toNat = 10; omega))
                clear hsu hc hb hsz2
                go_wp2_with fail
                exact ⟨⟨i + 1, by omega, by rw [HS.out]; rfl, by go_num, trivial⟩, by simp [intOf]; omega⟩
            · have hie : i = a := by omega
              subst hie
              rw [← HFK.out]
              go_wp2_with fail
              go_ret
              exact ⟨rfl, below_drewN HB4.out _⟩
end Go.Proofs.Ytbpokgjahlnfhaa
