/- Numbers as bytes and back. -/
import Derived.Test.YtfdnpchbbngpjaaGreatJck
namespace Go.Proofs.YtfdnpchbbngpjaaGreat
attribute [local go_sem ↓] Go.wp_at_zero Go.wp_at_succ
open Go.RowKit Go.Maps

theorem ju8_info : (Tryz.prog.info? 5).map (fun i => (i.zero, i.size, i.bytes)) = some (some (.int .u8 0), 1, 1) := by kernel_rfl
/-- the bytes behind k rounds -/
def beUpto (size n k : Nat) : List UInt8 := (beN size n).take k ++ List.replicate (size - k) 0
theorem beN_at (size n k : Nat) (hk : k < size) : (beN size n)[k]? = some (UInt8.ofNat (n / 256 ^ (size - 1 - k))) := by
  induction size generalizing k with
  | zero => omega
  | succ s ih =>
    unfold beN
    cases k with
    | zero => simp
    | succ j =>
      rw [List.getElem?_cons_succ, ih j (by omega)]
      congr 4
      omega
theorem cells_setJ (l : List UInt8) (k : Nat) (x : UInt8) : (Lib.byteCells l).set k (.int .u8 (x.toNat : Int)) = Lib.byteCells (l.set k x) := by
  unfold Lib.byteCells
  rw [List.map_set]
theorem bcell_atJ (l : List UInt8) (k : Nat) (h : k < l.length) : (Lib.byteCells l)[k]? = some (.int .u8 ((l[k]).toNat : Int)) := by simp [Lib.byteCells, h]
theorem beUpto_len (size n k : Nat) (hk : k ≤ size) : (beUpto size n k).length = size := by
  unfold beUpto
  rw [List.length_append, List.length_take, beN_length, List.length_replicate]
  omega
theorem beUpto_step (size n k : Nat) (hk : k < size) : (beUpto size n k).set k (UInt8.ofNat (n / 256 ^ (size - 1 - k))) = beUpto size n (k + 1) := by
  have hl : ((beN size n).take k).length = k := by rw [List.length_take, beN_length]; omega
  unfold beUpto
  rw [List.set_append_right _ _ (by rw [hl]; exact Nat.le_refl _), hl, Nat.sub_self, show size - k = (size - (k + 1)) + 1 from by omega, List.replicate_succ, List.set_cons_zero, List.take_add_one, beN_at size n k hk]
  simp
set_option maxRecDepth 100000 in
set_option maxHeartbeats 1600000 in
theorem number_any (n size : Nat) (h1 : 1 ≤ size) (hs : size ≤ 8) (w : World) :
    Calls Tryz.prog 47 #[.int .i64 (n : Int), .int .i64 (size : Int)] w fun e w' => e = .returned (.string (bytesOf (beN size n))) ∧ Below w.heap.size w w' := by
  obtain ⟨i0, hi, hz0, hz1, hz2⟩ := info_parts ju8_info
  have HI := Lib.hid (And.intro hi (And.intro hz0 (And.intro hz1 hz2)))
  clear hi hz0 hz1 hz2
  go_enter Tryz.func47, Tryz.ntmps47
  go_wp2_with ((at_make; refine wpList_make_full _ rfl _ _ 31 rfl w.heap.size 5 i0 (.int .u8 0) 1 Tryz.underlying31 HI.out.1 HI.out.2.1 HI.out.2.2.1 .i64 .i64 (size : Int) (size : Int) size rfl rfl rfl rfl (by rw [HI.out.2.2.2]; omega) (by show size ≤ maxLen; unfold maxLen; omega) (Nat.le_refl _) ?_; intro w1 hown hg))
  have h0 : w1.ownsRow w.heap.size 5 1 (.slice (some ⟨w.heap.size, 0, none⟩) size size) size (Lib.byteCells (beUpto size n 0)) := by
    have e : (madeCells (Value.int .u8 0).cells (size * 1)).toList = Lib.byteCells (beUpto size n 0) := by
      have e2 : beUpto size n 0 = List.replicate size 0 := by simp [beUpto]
      rw [e2, Lib.byteCells, List.map_replicate, Nat.mul_one]
      exact toList_madeCells_one _ _
    rw [← e]; exact hown
  have hb0 : Below w.heap.size w w1 := (Below.refl _ w).grown hg (Nat.le_refl _) (fun _ e => by cases e)
  have H0 := Lib.hid h0
  clear hown h0 hg HI
  go_loopw [11] (fun i wr => ∃ k : Nat, k ≤ size ∧ i = .int .i64 k ∧ wr.ownsRow w.heap.size 5 1 (.slice (some ⟨w.heap.size, 0, none⟩) size size) size (Lib.byteCells (beUpto size n k)) ∧ Below w.heap.size w wr) (fun i _ => size - (intOf i).toNat)
  case atStart => exact ⟨0, Nat.zero_le _, rfl, H0.out, hb0⟩
  case round =>
    clear H0 hb0
    obtain ⟨k, hk, rfl, hown, hbel⟩ := hrel
    by_cases hlt : k < size
    · obtain ⟨u, hu⟩ : ∃ u, wr.cell? ⟨w.heap.size, k, none⟩ = some (.int .u8 u) := by
        have := hown.cellAt k (by omega)
        rw [this]
        have hl : k < (beUpto size n k).length := by rw [beUpto_len size n k (by omega)]; exact hlt
        exact ⟨_, bcell_atJ _ k hl⟩
      have hf := hown.frozenAt k
      have s1 := hown.stored k (.int .u8 ((UInt8.ofNat (n / 256 ^ (size - 1 - k))).toNat : Int))
      rw [cells_setJ, beUpto_step size n k hlt] at s1
      have HO := Lib.hid s1.1
      have HB := Lib.hid (hbel.grown s1.2 hbel.size (fun g e => by cases e; exact Nat.le_refl _))
      clear s1 hown hbel
      go_wp2
      have ev : (n : Int) / 2 ^ (8 * (size - 1 - k)) % 256 = ((UInt8.ofNat (n / 256 ^ (size - 1 - k))).toNat : Int) := by
        rw [UInt8.toNat_ofNat', show (256 : Nat) = 2 ^ 8 from rfl, ← Nat.pow_mul]
        rfl
      rw [ev]
      go_roundw
      case rel => exact ⟨k + 1, by omega, by go_num, HO.out, HB.out⟩
      case measure => simp [intOf]; omega
    · obtain rfl : k = size := by omega
      have e : beUpto k n k = beN k n := by unfold beUpto; rw [Nat.sub_self, List.replicate_zero, List.append_nil, List.take_of_length_le (by rw [beN_length]; exact Nat.le_refl _)]
      rw [e] at hown
      have hcv := conv_owned (P := Tryz.prog) (src := 31) (dst := 9) Tryz.underlying31 Tryz.underlying5 Tryz.underlying9 hown
      go_wp2
      go_ret
      exact ⟨rfl, hbel⟩

theorem bits_or64 (a b : Nat) (hb : b < 256) : bits .or .u64 (IntKind.u64.wrap ((a : Int) * 256)) (b : Int) = (((256 * a + b) % 18446744073709551616 : Nat) : Int) := by
  have e0 : IntKind.u64.wrap ((a : Int) * 256) = ((a * 256 % 18446744073709551616 : Nat) : Int) := by rw [IntKind.wrap_u64]; omega
  rw [e0]
  show IntKind.u64.wrap ((BitVec.ofInt 64 ((a * 256 % 18446744073709551616 : Nat) : Int) ||| BitVec.ofInt 64 (b : Int)).toNat : Nat) = _
  rw [BitVec.ofInt_natCast, BitVec.ofInt_natCast, BitVec.toNat_or, BitVec.toNat_ofNat, BitVec.toNat_ofNat, Nat.mod_eq_of_lt (show b < 2 ^ 64 by omega), Nat.mod_eq_of_lt (show a * 256 % 18446744073709551616 < 2 ^ 64 by omega)]
  have e : a * 256 % 18446744073709551616 = 256 * (a % 72057594037927936) := by omega
  have h2 := Nat.two_pow_add_eq_or_of_lt (i := 8) (b := b) (by omega) (a % 72057594037927936)
  rw [e, show (256 : Nat) = 2 ^ 8 from rfl, ← h2, IntKind.wrap_u64]
  omega
/-- the number in some bytes as the program reckons it: 64 bits, signed -/
def valI (l : List UInt8) : Int := wrap64 ((beV l % 18446744073709551616 : Nat) : Int)
theorem beV_snoc (l : List UInt8) (b : UInt8) : beV (l ++ [b]) = 256 * beV l + b.toNat := by
  rw [beV_append]; simp [beV]
set_option maxRecDepth 100000 in
set_option maxHeartbeats 1600000 in
theorem value_any (s : ByteArray) (hs : s.size ≤ 281474976710656) (w : World) :
    Calls Tryz.prog 83 #[.string s] w fun e w' => e = .returned (.int .i64 (valI s.data.toList)) ∧ w = w' := by
  have hsz : s.data.toList.length = s.size := Array.length_toList
  go_enter Tryz.func83, Tryz.ntmps83
  go_wp2
  go_loopw [7, 3] (fun i c wr => w = wr ∧ ∃ k : Nat, k ≤ s.size ∧ i = .int .i64 (k : Int) ∧ c = .int .u64 ((beV (s.data.toList.take k) % 18446744073709551616 : Nat) : Int)) (fun i _ _ => s.size - (intOf i).toNat)
  case atStart => exact ⟨rfl, 0, Nat.zero_le _, rfl, rfl⟩
  case round =>
    obtain ⟨rfl, k, hk, rfl, rfl⟩ := hrel
    by_cases hlt : k < s.size
    · obtain ⟨b, hb⟩ : ∃ b, s.data.toList[k]'(by omega) = b := ⟨_, rfl⟩
      have hst : s.data.toList.take (k + 1) = s.data.toList.take k ++ [b] := by rw [List.take_add_one, List.getElem?_eq_getElem (by omega), hb]; rfl
      have hsb : s[k]'hlt = b := by rw [← hb]; rfl
      have hCS := Lib.hid (beV_snoc (s.data.toList.take k) b)
      rw [← hst] at hCS
      have hb256 : b.toNat < 256 := UInt8.toNat_lt b
      generalize beV (s.data.toList.take k) = a at hCS ⊢
      obtain ⟨m, hm⟩ : ∃ m, a % 18446744073709551616 = m := ⟨_, rfl⟩
      have HM := Lib.hid hm
      have hml : m < 18446744073709551616 := by omega
      rw [hm]
      have eor := bits_or64 m b.toNat hb256
      clear hst hb hm
      go_wp2
      go_roundw
      case rel =>
        refine ⟨trivial, k + 1, by omega, by go_num, ?_⟩
        rw [hCS.out, ← HM.out]
        congr 1
        omega
      case measure => simp [intOf]; omega
    · obtain rfl : k = s.size := by omega
      rw [← hsz, List.take_length] at *
      have e : wrap64 ((beV s.data.toList % 18446744073709551616 : Nat) : Int) = valI s.data.toList := rfl
      go_wp2
      go_ret
      exact ⟨rfl, rfl⟩
end Go.Proofs.YtfdnpchbbngpjaaGreat
