/- The law Limits: walked. -/
import Derived.Test.YtbpokgjahlnfhaaPld
import Derived.Laws.IdiomStrings
import Derived.Lib.BufferRead
namespace Go.Proofs.Ytbpokgjahlnfhaa
open Go.RowKit Go.Shelf

def fillA (n i : Nat) : Array Value := (List.replicate i (Value.int .u8 120) ++ List.replicate (n - i) (Value.int .u8 0)).toArray
theorem fillA_set {n i : Nat} (h : i < n) : (fillA n i).setIfInBounds i (.int .u8 120) = fillA n (i + 1) := by
  unfold fillA
  apply Array.ext'
  obtain ⟨k, rfl⟩ : ∃ k, n = i + 1 + k := ⟨n - (i + 1), by omega⟩
  rw [show i + 1 + k - i = k + 1 from by omega, show i + 1 + k - (i + 1) = k from by omega, List.replicate_succ]
  rw [Array.toList_setIfInBounds]
  show (List.replicate i (Value.int .u8 120) ++ _).set i _ = List.replicate (i + 1) (Value.int .u8 120) ++ _
  rw [List.set_append_right _ _ (by simp)]
  simp [List.replicate_succ', List.append_assoc]
theorem fillA_at {n i : Nat} (h : i < n) : (fillA n i)[i]? = some (.int .u8 0) := by
  unfold fillA
  rw [List.getElem?_toArray, List.getElem?_append_right (by simp), List.length_replicate, Nat.sub_self, List.getElem?_replicate, if_pos (by omega)]
theorem made_fill (n : Nat) : madeCells (Value.int .u8 0).cells n = fillA n 0 := by
  unfold fillA madeCells
  apply Array.ext'
  simp [Value.cells, Nat.mod_one]
  apply List.ext_getElem? 
  intro i
  by_cases h : i < n <;> simp [h]
theorem byte_info : (Try.prog.info? 5).map (fun i => (i.zero, i.size, i.bytes)) = some (some (.int .u8 0), 1, 1) := by kernel_rfl
theorem mk_run (n : Nat) (w : World) (hn : n ≤ 65663) : (Instr.makeSlice 23 (.int .i64 (n : Int)) (.int .i64 (n : Int))).run Try.prog w = .ok (.slice (some ⟨w.heap.size, 0, none⟩) n n) (w.alloc (.cells (fillA n 0) 5)) := by
  obtain ⟨i0, hi0, hz0, hz1, hz2⟩ := info_parts byte_info
  have := run_makeSlice (P := Try.prog) w 23 5 i0 (.int .u8 0) Try.underlying23 hi0 hz0 .i64 .i64 (n : Int) (n : Int) (by omega) (Int.le_refl _) (by rw [hz1]; simp; omega) (by rw [hz2]; simp; omega) (by omega)
  rw [hz1, Int.toNat_natCast, Nat.mul_one, made_fill] at this
  exact this
theorem conv_fill (n k : Nat) (hk : k ≤ n) {w : World} {g : Nat} (h : Blk w g 5 (fillA n n)) (cap : Nat) : (convert 23 9 (.slice (some ⟨g, 0, none⟩) k cap)).run Try.prog w = .ok (.string ⟨(List.replicate k (120 : UInt8)).toArray⟩) w := by
  have := run_convert_bytes_back (P := Try.prog) w 23 9 5 ⟨g, 0, none⟩ cap (List.replicate k (120 : UInt8)) Try.underlying23 Try.underlying5 Try.underlying9 (Lib.bytes_of_row h (by
    unfold fillA Lib.byteCells
    simp [Nat.min_eq_left hk]))
  rw [List.length_replicate] at this
  exact this
def xs (k : Nat) : ByteArray := ⟨(List.replicate k (120 : UInt8)).toArray⟩
theorem xs_size (k : Nat) : (xs k).size = k := by
  show (List.replicate k (120 : UInt8)).toArray.size = k
  simp
theorem fresh_size (s : ByteArray) : (Tr.fresh s).size = s.size := by rw [← Tr.str_size, str_fresh]
theorem repl_size {t : Tr} {a b : Int} (s : ByteArray) (h0 : wrongNo t.size a b = 0) : ((t.repl a b s.data.toList).size : Int) = (t.size : Int) - (b - a) + (s.size : Int) := by
  have hw : ¬ (a < 0 ∨ b < a ∨ (t.size : Int) < b) := fun hh => by unfold wrongNo at h0; rw [if_pos hh] at h0; cases h0
  have z : t.size = t.bytes.length := rfl
  have z1 : s.data.toList.length = s.size := by simp
  show (((t.repl a b s.data.toList).bytes.length : Nat) : Int) = _
  rw [Tr.bytes_repl _ _ _ _ (by omega) (by omega)]
  simp only [List.length_append, List.length_take, List.length_drop]
  omega
theorem replace_long {t : Tr} {a b : Int} (s : ByteArray) (h0 : wrongNo t.size a b = 0) (h1 : (65536 : Int) < (t.size : Int) - (b - a) + (s.size : Int)) : t.replace a b s = (10, t) := by
  unfold Tr.replace
  rw [h0, if_neg (by omega), if_pos (by omega)]
theorem replace_fit {t : Tr} {a b : Int} (s : ByteArray) (h0 : wrongNo t.size a b = 0) (h1 : ¬ (65536 : Int) < (t.size : Int) - (b - a) + (s.size : Int)) : t.replace a b s = (0, t.repl a b s.data.toList) := by
  unfold Tr.replace
  rw [h0, if_neg (by omega), if_neg (by omega)]
set_option maxHeartbeats 2000000 in
set_option maxRecDepth 100000 in
theorem limits_row {m : Nat} {a : Int} {w : World} (hm : m < 256) (ha : -9223372036854775808 ≤ a ∧ a ≤ 9223372036854775807) :
    Calls Try.prog 3 #[.int .u8 (m : Int), .int .i64 a] w (LawPost w) := by
  obtain ⟨n, hn, hn1⟩ : ∃ n : Nat, (65408 : Int) + (m : Int) = (n : Int) ∧ n = 65408 + m := ⟨65408 + m, by omega, rfl⟩
  have hn2 : 65408 ≤ n ∧ n ≤ 65663 := by omega
  clear hn1
  have hwm : IntKind.i64.wrap (m : Int) = (m : Int) := IntWalk.i64_in _ (by omega)
  go_enter Try.func3, Try.ntmps3
  go_wp2_with (first
    | (go_at_call 13; refine (known_any _).mono ?_; rintro e w1 ⟨rfl, hb1⟩; have hmk := mk_run n w1 hn2.2))
  have hbk := Blk.new w1 5 (fillA n 0)
  have hB : Below w.heap.size w (w1.alloc (.cells (fillA n 0) 5)) := hb1.alloc hb1.size _
  have hg : w.heap.size ≤ w1.heap.size := hb1.size
  obtain ⟨g, hgg⟩ : ∃ g, w1.heap.size = g := ⟨_, rfl⟩
  rw [hgg] at hbk hg ⊢
  have HP := Lib.hid (And.intro hbk hB)
  clear hbk hB hb1 hmk hgg
  go_loopw [7] (fun iv wr => ∃ i : Nat, i ≤ n ∧ iv = .int .i64 (i : Int) ∧ Blk wr g 5 (fillA n i) ∧ Below w.heap.size w wr) (fun iv _ => n - (intOf iv).toNat)
  case atStart => exact ⟨0, Nat.zero_le _, rfl, HP.out⟩
  case round =>
    clear HP
    obtain ⟨i, hi, rfl, hbk, hB⟩ := hrel
    have HBK := Lib.hid hbk
    have HB := Lib.hid hB
    by_cases hlt : i < n
    · have hltI : (i : Int) < (n : Int) := by omega
      have hc := (hbk.cell i).trans (fillA_at hlt)
      have hf := hbk.frozen i
      have hset := fillA_set hlt
      have HSET := Lib.hid hset
      clear hbk hB hset
      go_wp2_with fail
      go_roundw
      case rel => exact ⟨i + 1, by omega, by go_num, by have := HBK.out.set_ i (.int .u8 120); rw [HSET.out] at this; exact this, HB.out.setCell (p := ⟨g, i, none⟩) hg _⟩
      case measure => (simp [intOf] <;> omega)
    · obtain rfl : i = n := by omega
      have hcv := conv_fill i i (Nat.le_refl _) hbk i
      have hxs : (⟨(List.replicate i (120 : UInt8)).toArray⟩ : ByteArray) = xs i := rfl
      rw [hxs] at hcv
      have hxz := xs_size i
      clear hbk hB
      by_cases hbig : 65536 < i
      · have dbig : decide ((65536 : Int) < (i : Int)) = true := by simp; omega
        go_wp2_with (go_at_call 14; refine (tnew_long (xs i) _ (by rw [hxz]; exact hbig)).mono ?_; rintro e w3 ⟨rfl, rfl⟩)
        go_ret
        exact ⟨rfl, HB.out⟩
      · have dbig : decide ((65536 : Int) < (i : Int)) = false := by simp; omega
        obtain ⟨k, hk, hki⟩ : ∃ k : Nat, (65536 : Int) - (i : Int) = (k : Int) ∧ k ≤ 128 := ⟨65536 - i, by omega, by omega⟩
        have hkn : k + i = 65536 := by omega
        have hki2 : k ≤ i := by omega
        obtain ⟨f, hf⟩ : ∃ f, nearP a i = f := ⟨_, rfl⟩
        have hfb := nearP_bd a i
        rw [hf] at hfb
        have HF := Lib.hid hf
        have HA := Lib.hid ha
        have hlg : g < wr.heap.size := HBK.out.lt
        have ho := (Tr.okay_fresh (xs i) (by omega)).1
        have hz0 : (Tr.fresh (xs i)).size = i := by rw [fresh_size, hxz]
        have HK0 := Lib.hid ho
        have hxk := xs_size k
        have hry : k + 1 ≤ 281474976710656 := by omega
        obtain ⟨T0, hT0⟩ : ∃ T0, Tr.fresh (xs i) = T0 := ⟨_, rfl⟩
        have hxk2 : (⟨(List.replicate k (120 : UInt8)).toArray⟩ : ByteArray) = xs k := rfl
        have hcva : ∀ {w : World}, Blk w g 5 (fillA i i) → (convert 23 9 (.slice (some ⟨g, 0, none⟩) k i)).run Try.prog w = .ok (.string (xs k)) w := fun h => conv_fill i k hki2 h i
        have HCV := Lib.hid (fun (w : World) (h : Blk w g 5 (fillA i i)) => hcva h)
        rw [hT0] at hz0 HK0
        by_cases hbad : f < 0 ∨ (i : Int) < f
        · have hrep : ∀ s : ByteArray, s.size = k + 1 → T0.replace f f s = (2, T0) := fun s _ => if_pos (if_pos (by omega))
          have HR1 := Lib.hid hrep
          clear hrep hf ha ho hcva hxk2
          by_cases hneg : f < 0
          · have d1 : decide (f < 0) = true := by simpa using hneg
            go_wp2_with (first
              | (go_at_call 14; refine (tnew_ok (xs i) _ (by omega)).mono ?_; rintro e w3 ⟨tb, rfl, htb, hT, hb3⟩; rw [hT0] at hT; have hcv2 := HCV.out _ (HBK.out.below hb3 hlg); have HT3 := Lib.hid hT; have HB3 := Lib.hid (HB.out.trans (hb3.mono HB.out.size)); have htb2 : w.heap.size ≤ tb := Nat.le_trans HB.out.size htb; clear hT hb3 htb)
              | (go_at_call 16; refine (near_any a i _ HA.out (by omega)).mono ?_; rw [HF.out]; rintro e w' ⟨rfl, rfl⟩)
              | (go_at_call 17; refine (ins_any f _ HT3.out HK0.out ?_).mono ?_; (rw [ByteArray.size_append, hxk]; exact hry); rw [HR1.out (xs k ++ _) (by rw [ByteArray.size_append, hxk]; rfl)]; rintro e w4 ⟨rfl, q1, q2⟩; have Q1 := Lib.hid q1; have Q2 := Lib.hid q2; clear q1 q2)
              | (go_at_call 15; first | (refine (tlen_any Q1.out).mono ?_; rw [hz0]; rintro e w' ⟨rfl, rfl⟩) | (refine (tlen_any HT3.out).mono ?_; rw [hz0]; rintro e w' ⟨rfl, rfl⟩)))
            go_ret
            exact ⟨rfl, HB3.out.trans (Q2.out.toBelow (by simp; exact htb2) HB3.out.size)⟩
          · have d1 : decide (f < 0) = false := by simpa using hneg
            have d2 : decide ((i : Int) < f) = true := by simp; omega
            go_wp2_with (first
              | (go_at_call 14; refine (tnew_ok (xs i) _ (by omega)).mono ?_; rintro e w3 ⟨tb, rfl, htb, hT, hb3⟩; rw [hT0] at hT; have hcv2 := HCV.out _ (HBK.out.below hb3 hlg); have HT3 := Lib.hid hT; have HB3 := Lib.hid (HB.out.trans (hb3.mono HB.out.size)); have htb2 : w.heap.size ≤ tb := Nat.le_trans HB.out.size htb; clear hT hb3 htb)
              | (go_at_call 16; refine (near_any a i _ HA.out (by omega)).mono ?_; rw [HF.out]; rintro e w' ⟨rfl, rfl⟩)
              | (go_at_call 17; refine (ins_any f _ HT3.out HK0.out ?_).mono ?_; (rw [ByteArray.size_append, hxk]; exact hry); rw [HR1.out (xs k ++ _) (by rw [ByteArray.size_append, hxk]; rfl)]; rintro e w4 ⟨rfl, q1, q2⟩; have Q1 := Lib.hid q1; have Q2 := Lib.hid q2; clear q1 q2)
              | (go_at_call 15; first | (refine (tlen_any Q1.out).mono ?_; rw [hz0]; rintro e w' ⟨rfl, rfl⟩) | (refine (tlen_any HT3.out).mono ?_; rw [hz0]; rintro e w' ⟨rfl, rfl⟩)))
            go_ret
            exact ⟨rfl, HB3.out.trans (Q2.out.toBelow (by simp; exact htb2) HB3.out.size)⟩
        · have d1 : decide (f < 0) = false := by simp; omega
          have d2 : decide ((i : Int) < f) = false := by simp; omega
          have h0 : wrongNo T0.size f f = 0 := if_neg (by omega)
          have hr1 : ∀ s : ByteArray, s.size = k + 1 → T0.replace f f s = (10, T0) := fun s hs => replace_long s h0 (by omega)
          have hr2 := replace_fit (xs k) h0 (by omega)
          have hz1 := repl_size (xs k) h0
          have hok1 := rep_okay HK0.out f f (xs k)
          rw [hr2] at hok1
          obtain ⟨T1, hT1⟩ : ∃ T1, T0.repl f f (xs k).data.toList = T1 := ⟨_, rfl⟩
          rw [hT1] at hr2 hz1 hok1
          have hz1n : T1.size = 65536 := by omega
          have hzz : (⟨#[122]⟩ : ByteArray).size = 1 := rfl
          have hr3 : T1.replace 0 0 ⟨#[122]⟩ = (10, T1) := replace_long ⟨#[122]⟩ (if_neg (by omega)) (by omega)
          have h04 : wrongNo T1.size 0 1 = 0 := if_neg (by omega)
          have hr4 := replace_fit (t := T1) (a := 0) (b := 1) ⟨#[122]⟩ h04 (by omega)
          have hz2 := repl_size (t := T1) (a := 0) (b := 1) ⟨#[122]⟩ h04
          have hok2 := rep_okay hok1 0 1 ⟨#[122]⟩
          rw [hr4] at hok2
          obtain ⟨T2, hT2⟩ : ∃ T2, T1.repl 0 1 (⟨#[122]⟩ : ByteArray).data.toList = T2 := ⟨_, rfl⟩
          rw [hT2] at hr4 hz2 hok2
          have hz2n : T2.size = 65536 := by omega
          have HR1 := Lib.hid hr1
          have HR2 := Lib.hid hr2
          have HR3 := Lib.hid hr3
          have HR4 := Lib.hid hr4
          have HK1 := Lib.hid hok1
          have HK2 := Lib.hid hok2
          have hkz : (xs k).size ≤ 281474976710656 := by omega
          have hzz2 : (⟨#[122]⟩ : ByteArray).size ≤ 281474976710656 := by omega
          clear hr1 hr2 hr3 hr4 hok1 hok2 hT1 hT2 hz1 hz2 h0 h04 hf ha ho hcva hxk2 hzz
          go_wp2_with (first
            | (go_at_call 14; refine (tnew_ok (xs i) _ (by omega)).mono ?_; rintro e w3 ⟨tb, rfl, htb, hT, hb3⟩; rw [hT0] at hT; have hcv2 := HCV.out _ (HBK.out.below hb3 hlg); have HT3 := Lib.hid hT; have HB3 := Lib.hid (HB.out.trans (hb3.mono HB.out.size)); have htb2 : w.heap.size ≤ tb := Nat.le_trans HB.out.size htb; clear hT hb3 htb)
            | (go_at_call 16; refine (near_any a i _ HA.out (by omega)).mono ?_; rw [HF.out]; rintro e w' ⟨rfl, rfl⟩)
            | (go_at_call 15; first | (refine (tlen_any S1.out).mono ?_; rw [hz2n]; rintro e w' ⟨rfl, rfl⟩) | (refine (tlen_any R1.out).mono ?_; rw [hz1n]; rintro e w' ⟨rfl, rfl⟩) | (refine (tlen_any Q1.out).mono ?_; rw [hz0]; rintro e w' ⟨rfl, rfl⟩) | (refine (tlen_any HT3.out).mono ?_; rw [hz0]; rintro e w' ⟨rfl, rfl⟩))
            | (go_at_call 17; refine (ins_any 0 ⟨#[122]⟩ R1.out HK1.out hzz2).mono ?_; rw [HR3.out]; rintro e w6 ⟨rfl, q1, q2⟩; have P1 := Lib.hid q1; have P2 := Lib.hid q2; clear q1 q2)
            | (go_at_call 17; refine (ins_any f (xs k) Q1.out HK0.out hkz).mono ?_; rw [HR2.out]; rintro e w5 ⟨rfl, q1, q2⟩; have R1 := Lib.hid q1; have R2 := Lib.hid q2; clear q1 q2)
            | (go_at_call 17; refine (ins_any f _ HT3.out HK0.out ?_).mono ?_; (rw [ByteArray.size_append, hxk]; exact hry); rw [HR1.out (xs k ++ _) (by rw [ByteArray.size_append, hxk]; rfl)]; rintro e w4 ⟨rfl, q1, q2⟩; have Q1 := Lib.hid q1; have Q2 := Lib.hid q2; clear q1 q2)
            | (go_at_call 18; refine (rep_any 0 1 ⟨#[122]⟩ P1.out HK1.out hzz2).mono ?_; rw [HR4.out]; rintro e w7 ⟨rfl, q1, q2⟩; have S1 := Lib.hid q1; have S2 := Lib.hid q2; clear q1 q2))
          go_ret
          have b4 := HB3.out.trans (Q2.out.toBelow (by simp; exact htb2) HB3.out.size)
          have b5 := b4.trans (R2.out.toBelow (by simp; exact htb2) b4.size)
          have b6 := b5.trans (P2.out.toBelow (by simp; exact htb2) b5.size)
          exact ⟨rfl, b6.trans (S2.out.toBelow (by simp; exact htb2) b6.size)⟩
end Go.Proofs.Ytbpokgjahlnfhaa
