/- The law's own checksum and numbers. -/
import Derived.Test.YtfdnpchbbngpjaaGreatJnv
namespace Go.Proofs.YtfdnpchbbngpjaaGreat
attribute [local go_sem ↓] Go.wp_at_zero Go.wp_at_succ
open Go.RowKit Go.Maps

theorem rem32 (x : Nat) : (x : Int).tmod 2 = ((x % 2 : Nat) : Int) := rfl
set_option maxRecDepth 100000 in
set_option maxHeartbeats 2000000 in
theorem lcrc_any {w : World} {v : Value} {l : List UInt8} (h : Byts w v l) (hl : l.length ≤ 1048576) :
    Calls Tryz.prog 60 #[v] w fun e w' => e = .returned (.int .i64 (crc l : Int)) ∧ w = w' := by
  obtain ⟨ao, cap, rfl, hcap, hc⟩ := h
  have HC := Lib.hid hc
  clear hc
  go_enter Tryz.func60, Tryz.ntmps60
  go_wp2
  go_loopw [4, 3] (fun i c wr => w = wr ∧ ∃ k : Nat, k ≤ l.length ∧ i = .int .i64 (k : Int) ∧ c = .int .u32 (crcS 4294967295 (l.take k) : Int)) (fun i _ _ => l.length - (intOf i).toNat)
  case atStart => exact ⟨rfl, 0, Nat.zero_le _, rfl, rfl⟩
  case round =>
    obtain ⟨rfl, k, hk, rfl, rfl⟩ := hrel
    have hlt32 : crcS 4294967295 (l.take k) < 4294967296 := crcS_lt (by decide) _
    by_cases hlt : k < l.length
    · obtain ⟨b, off, rfl, hb, hcell⟩ := HC.out (by omega)
      have ck := hcell k hlt
      obtain ⟨x, hx⟩ : ∃ x, l.getD k 0 = x := ⟨_, rfl⟩
      have hst : l.take (k + 1) = l.take k ++ [x] := by
        rw [List.take_add_one, List.getElem?_eq_getElem hlt]
        rw [List.getD_eq_getElem?_getD, List.getElem?_eq_getElem hlt] at hx
        have hx' : l[k] = x := hx
        rw [hx']; rfl
      have hCS := Lib.hid (crcS_snoc 4294967295 (l.take k) x)
      rw [← hst] at hCS
      rw [hx] at ck
      have hx256 : x.toNat < 256 := UInt8.toNat_lt x
      obtain ⟨c, hc⟩ : ∃ c, crcS 4294967295 (l.take k) = c := ⟨_, rfl⟩
      rw [hc] at hlt32 hCS ⊢
      have e1 := bits_xor32 c x.toNat hlt32 (by omega)
      have hz32 : c ^^^ x.toNat < 4294967296 := xor_lt32 hlt32 (by omega)
      obtain ⟨z, hz⟩ : ∃ z, c ^^^ x.toNat = z := ⟨_, rfl⟩
      rw [hz] at e1 hz32 hCS
      clear hst hc hz hx hcell
      go_wp2
      go_loopw [5, 3] (fun i c' wr' => w = wr' ∧ ∃ j y : Nat, j ≤ 8 ∧ i = .int .i64 (j : Int) ∧ c' = .int .u32 (y : Int) ∧ y < 4294967296 ∧ crcN (8 - j) y = crc8 z) (fun i _ _ => 8 - (intOf i).toNat)
      case atStart => exact ⟨rfl, 0, z, by omega, rfl, rfl, hz32, rfl⟩
      case round =>
        obtain ⟨rfl, j, y, hj, rfl, rfl, hy, hcj⟩ := hrel
        by_cases hj8 : j < 8
        · have hcj := Lib.hid hcj
          rcases Nat.mod_two_eq_zero_or_one y with ho | ho
          · have em : ((y : Int) % 2 == 1) = false := by rw [beq_eq_false_iff_ne]; omega
            go_wp2
            go_roundw
            case rel =>
              refine ⟨trivial, j + 1, y / 2, by omega, by go_num, by go_num, by omega, ?_⟩
              rw [← hcj.out, show 8 - j = (8 - (j + 1)) + 1 from by omega]
              show _ = crcN _ (crc1 y)
              unfold crc1
              rw [if_neg (by omega)]
            case measure => simp [intOf]; omega
          · have em : ((y : Int) % 2 == 1) = true := by rw [beq_iff_eq]; omega
            have e2 := bits_xor32 (y / 2) 3988292384 (by omega) (by decide)
            go_wp2
            go_roundw
            case rel =>
              refine ⟨trivial, j + 1, y / 2 ^^^ 3988292384, by omega, by go_num, ?_, xor_lt32 (by omega) (by decide), ?_⟩
              · exact congrArg (Value.int .u32) e2
              · rw [← hcj.out, show 8 - j = (8 - (j + 1)) + 1 from by omega]
                show _ = crcN _ (crc1 y)
                unfold crc1
                rw [if_pos ho]
            case measure => simp [intOf]; omega
        · obtain rfl : j = 8 := by omega
          have hcj : y = crc8 z := hcj
          go_wp2
          go_roundw
          case rel => exact ⟨trivial, k + 1, by omega, by go_num, by rw [hCS.out, hcj]⟩
          case measure => simp [intOf]; omega
    · obtain rfl : k = l.length := by omega
      rw [List.take_length] at *
      have e : bits .xor .u32 (crcS 4294967295 l : Int) 4294967295 = (crc l : Int) := bits_xor32 _ 4294967295 hlt32 (by decide)
      have hcl := crc_lt l
      have e64 : wrap64 (crc l : Int) = (crc l : Int) := Go.IntWalk.wrap64_in _ (by omega)
      go_wp2
      go_ret
      exact ⟨rfl, rfl⟩

def beDown (size n r : Nat) : List UInt8 := List.replicate (size - r) 0 ++ beN r n
theorem beDown_len (size n r : Nat) (h : r ≤ size) : (beDown size n r).length = size := by
  unfold beDown
  rw [List.length_append, List.length_replicate, beN_length]
  omega
theorem beDown_step (size n r : Nat) (h : r < size) : (beDown size n r).set (size - 1 - r) (UInt8.ofNat (n / 256 ^ r)) = beDown size n (r + 1) := by
  unfold beDown
  rw [show size - r = (size - (r + 1)) + 1 from by omega, List.replicate_succ', List.append_assoc, List.set_append_right _ _ (by rw [List.length_replicate]; omega), List.length_replicate, show size - 1 - r - (size - (r + 1)) = 0 from by omega]
  rfl
set_option maxRecDepth 100000 in
set_option maxHeartbeats 2000000 in
theorem lnumber_any (n size : Nat) (hn : n < 9223372036854775808) (h1 : 1 ≤ size) (hs : size ≤ 8) (w : World) :
    Calls Tryz.prog 67 #[.int .i64 (n : Int), .int .i64 (size : Int)] w fun e w' => ∃ g, e = .returned (.slice (some ⟨g, 0, none⟩) size size) ∧ w'.ownsRow w.heap.size 5 1 (.slice (some ⟨g, 0, none⟩) size size) size (Lib.byteCells (beN size n)) ∧ Below w.heap.size w w' := by
  obtain ⟨i0, hi, hz0, hz1, hz2⟩ := info_parts ju8_info
  have HI := Lib.hid (And.intro hi (And.intro hz0 (And.intro hz1 hz2)))
  clear hi hz0 hz1 hz2
  go_enter Tryz.func67, Tryz.ntmps67
  go_wp2_with ((at_make; refine wpList_make_full _ rfl _ _ 31 rfl w.heap.size 5 i0 (.int .u8 0) 1 Tryz.underlying31 HI.out.1 HI.out.2.1 HI.out.2.2.1 .i64 .i64 (size : Int) (size : Int) size rfl rfl rfl rfl (by rw [HI.out.2.2.2]; omega) (by show size ≤ maxLen; unfold maxLen; omega) (Nat.le_refl _) ?_; intro w1 hown hg))
  have h0 : w1.ownsRow w.heap.size 5 1 (.slice (some ⟨w.heap.size, 0, none⟩) size size) size (Lib.byteCells (beDown size n 0)) := by
    have e : (madeCells (Value.int .u8 0).cells (size * 1)).toList = Lib.byteCells (beDown size n 0) := by
      have e2 : beDown size n 0 = List.replicate size 0 := by simp [beDown, beN]
      rw [e2, Lib.byteCells, List.map_replicate, Nat.mul_one]
      exact toList_madeCells_one _ _
    rw [← e]; exact hown
  have hb0 : Below w.heap.size w w1 := (Below.refl _ w).grown hg (Nat.le_refl _) (fun _ e => by cases e)
  have H0 := Lib.hid h0
  clear hown h0 hg HI
  go_loopw [6, 0] (fun i c wr => ∃ r : Nat, r ≤ size ∧ i = .int .i64 ((size : Int) - 1 - (r : Int)) ∧ c = .int .i64 ((n / 256 ^ r : Nat) : Int) ∧ wr.ownsRow w.heap.size 5 1 (.slice (some ⟨w.heap.size, 0, none⟩) size size) size (Lib.byteCells (beDown size n r)) ∧ Below w.heap.size w wr) (fun i _ _ => (intOf i + 1).toNat)
  case atStart => exact ⟨0, Nat.zero_le _, by simp, by simp, H0.out, hb0⟩
  case round =>
    clear H0 hb0
    obtain ⟨r, hr, rfl, rfl, hown, hbel⟩ := hrel
    by_cases hlt : r < size
    · obtain ⟨i, hi⟩ : ∃ i : Nat, size - 1 - r = i := ⟨_, rfl⟩
      have hiI : (size : Int) - 1 - (r : Int) = (i : Int) := by omega
      obtain ⟨u, hu⟩ : ∃ u, wr.cell? ⟨w.heap.size, i, none⟩ = some (.int .u8 u) := by
        have := hown.cellAt i (by omega)
        rw [this]
        have hl : i < (beDown size n r).length := by rw [beDown_len size n r (by omega)]; omega
        exact ⟨_, bcell_atJ _ i hl⟩
      have hf := hown.frozenAt i
      have s1 := hown.stored i (.int .u8 ((UInt8.ofNat (n / 256 ^ r)).toNat : Int))
      rw [cells_setJ, ← hi, beDown_step size n r hlt, hi] at s1
      have HO := Lib.hid s1.1
      have HB := Lib.hid (hbel.grown s1.2 hbel.size (fun g e => by cases e; exact Nat.le_refl _))
      clear s1 hown hbel
      have hq : n / 256 ^ r < 9223372036854775808 := Nat.lt_of_le_of_lt (Nat.div_le_self _ _) hn
      obtain ⟨q, hqq⟩ : ∃ q, n / 256 ^ r = q := ⟨_, rfl⟩
      have hq2 := Lib.hid (show n / 256 ^ (r + 1) = q / 256 by rw [Nat.pow_succ, ← Nat.div_div_eq_div_mul, hqq])
      rw [hqq] at hq HO HB ⊢
      rw [hiI]
      have HII := Lib.hid hiI
      have hil : i < size := by omega
      clear hqq hi hiI
      go_wp2
      have ev : (q : Int) % 256 = ((UInt8.ofNat q).toNat : Int) := by rw [UInt8.toNat_ofNat']; rfl
      rw [ev]
      go_roundw
      case rel => exact ⟨r + 1, by omega, congrArg (Value.int .i64) (by have := HII.out; omega), by rw [hq2.out]; rfl, HO.out, HB.out⟩
      case measure => simp [intOf]
    · obtain rfl : r = size := by omega
      have e : beDown r n r = beN r n := by unfold beDown; rw [Nat.sub_self]; rfl
      rw [e] at hown
      go_wp2
      go_ret
      exact ⟨_, rfl, hown, hbel⟩

/-- a number in bytes as the law reads it -/
def lread : List UInt8 → Nat → Int
  | [], n => n
  | b :: r, n => if 1125899906842624 ≤ n then -1 else lread r (256 * n + b.toNat)
theorem lread_bound (l : List UInt8) (n : Nat) (h : n < 288230376151711744) : lread l n < 288230376151711744 := by
  induction l generalizing n with
  | nil => show (n : Int) < _; omega
  | cons b r ih =>
    unfold lread
    split
    · omega
    · have := UInt8.toNat_lt b
      exact ih _ (by omega)
set_option maxRecDepth 100000 in
set_option maxHeartbeats 2000000 in
theorem lread_any {w : World} {v : Value} {l : List UInt8} (h : Byts w v l) :
    Calls Tryz.prog 59 #[v] w fun e w' => e = .returned (.int .i64 (lread l 0)) ∧ w = w' := by
  obtain ⟨ao, cap, rfl, hcap, hc⟩ := h
  have HC := Lib.hid hc
  clear hc
  go_enter Tryz.func59, Tryz.ntmps59
  go_wp2
  go_loopw [4, 3] (fun i c wr => w = wr ∧ ∃ k n : Nat, k ≤ l.length ∧ i = .int .i64 (k : Int) ∧ c = .int .i64 (n : Int) ∧ n < 288230376151711744 ∧ lread (l.drop k) n = lread l 0) (fun i _ _ => l.length - (intOf i).toNat)
  case atStart => exact ⟨rfl, 0, 0, Nat.zero_le _, rfl, rfl, by decide, rfl⟩
  case round =>
    obtain ⟨rfl, k, n, hk, rfl, rfl, hn, hr⟩ := hrel
    have HR := Lib.hid hr
    clear hr
    by_cases hlt : k < l.length
    · obtain ⟨b, off, rfl, hb, hcell⟩ := HC.out (by omega)
      have ck := hcell k hlt
      obtain ⟨x, hx⟩ : ∃ x, l.getD k 0 = x := ⟨_, rfl⟩
      have hdr : l.drop k = x :: l.drop (k + 1) := by
        rw [List.getD_eq_getElem?_getD, List.getElem?_eq_getElem hlt] at hx
        rw [List.drop_eq_getElem_cons hlt]
        have hx' : l[k] = x := hx
        rw [hx']
      rw [hx] at ck
      have hx256 : x.toNat < 256 := UInt8.toNat_lt x
      have HD := Lib.hid hdr
      clear hdr hcell hx
      by_cases hbig : 1125899906842624 ≤ n
      · have e : lread l 0 = -1 := by rw [← HR.out, HD.out]; unfold lread; rw [if_pos hbig]
        have E := Lib.hid e
        have d1 : decide ((1125899906842624 : Int) ≤ (n : Int)) = true := by simp; omega
        clear e
        go_wp2
        go_ret
        exact ⟨by rw [E.out]; rfl, rfl⟩
      · have d1 : decide ((1125899906842624 : Int) ≤ (n : Int)) = false := by simp; omega
        have hnx := Lib.hid (show lread (l.drop (k + 1)) (256 * n + x.toNat) = lread l 0 by rw [← HR.out, HD.out]; show _ = if _ then _ else _; rw [if_neg hbig])
        go_wp2
        go_roundw
        case rel => exact ⟨trivial, k + 1, 256 * n + x.toNat, by omega, by go_num, by go_num, by omega, hnx.out⟩
        case measure => simp [intOf]; omega
    · obtain rfl : k = l.length := by omega
      have e : lread l 0 = (n : Int) := by rw [← HR.out, List.drop_length]; rfl
      have E := Lib.hid e
      clear e
      go_wp2
      go_ret
      exact ⟨by rw [E.out]; rfl, rfl⟩
end Go.Proofs.YtfdnpchbbngpjaaGreat
