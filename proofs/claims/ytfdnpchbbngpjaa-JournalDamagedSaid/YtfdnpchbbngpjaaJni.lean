/- The data of an operation; the law JournalNil walked. -/
import Derived.Test.YtfdnpchbbngpjaaJkw
import Derived.Test.YtfdnpchbbngpjaaJaq
namespace Go.Proofs.Ytfdnpchbbngpjaa
open Go.RowKit Go.Maps

def dataL (n : Nat) : Nat → List UInt8
  | 0 => []
  | i + 1 => dataL n i ++ [UInt8.ofNat (n + i * 7)]
def dataP (n : Nat) : ByteArray := bytesOf (dataL n (n % 400))
theorem dataL_len (n k : Nat) : (dataL n k).length = k := by
  induction k with
  | zero => rfl
  | succ k ih => show (dataL n k ++ [_]).length = _; rw [List.length_append, ih]; rfl
theorem conv_one (W : World) (x : UInt8) (v : Int) (hv : v = (x.toNat : Int)) : (convert 37 9 (.slice (some ⟨W.heap.size, 0, none⟩) 1 1)).run Try.prog (W.alloc (.cells #[.int .u8 v] 5)) = .ok (.string ⟨#[x]⟩) (W.alloc (.cells #[.int .u8 v] 5)) := by
  subst hv
  refine run_convert_bytes_back (P := Try.prog) _ 37 9 5 ⟨W.heap.size, 0, none⟩ 1 [x] Try.underlying37 Try.underlying5 Try.underlying9 (fun j hj => ?_)
  have hj0 : j = 0 := by simp at hj; omega
  subst hj0
  exact (Blk.new W 5 #[.int .u8 (x.toNat : Int)]).cell 0
set_option maxRecDepth 100000 in
set_option maxHeartbeats 2000000 in
theorem dataOf_any (n : Nat) (hn : n < 65536) (w : World) : Calls Try.prog 8 #[.int .u16 (n : Int)] w fun e w' => e = .returned (.string (dataP n)) ∧ Below w.heap.size w w' := by
  obtain ⟨q, hq⟩ : ∃ q, n % 400 = q := ⟨_, rfl⟩
  have eq : (n : Int) % 400 = (q : Int) := by rw [← hq]; rfl
  have eq2 : (n : Int).tmod 400 = (q : Int) := by rw [Int.tmod_eq_emod_of_nonneg (by omega)]; exact eq
  have hq4 : q < 400 := by omega
  have hP : dataP n = bytesOf (dataL n q) := by unfold dataP; rw [hq]
  rw [hP]
  clear hP
  go_enter Try.func8, Try.ntmps8
  go_wp2
  go_loopw [3, 4] (fun s i wr => ∃ k : Nat, k ≤ q ∧ i = .int .i64 (k : Int) ∧ s = .string (bytesOf (dataL n k)) ∧ Below w.heap.size w wr) (fun _ i _ => q - (intOf i).toNat)
  case atStart => exact ⟨0, Nat.zero_le _, rfl, rfl, Below.refl _ _⟩
  case round =>
    obtain ⟨k, hk, rfl, rfl, hb⟩ := hrel
    by_cases hkq : k < q
    · obtain ⟨x, hx⟩ : ∃ x, UInt8.ofNat (n + k * 7) = x := ⟨_, rfl⟩
      have hxv : ((n : Int) + (k : Int) * 7) % 256 = (x.toNat : Int) := by
        rw [← hx]
        show _ = (((n + k * 7) % 256 : Nat) : Int)
        omega
      have hcv := conv_one wr x (((n : Int) + (k : Int) * 7) % 256) hxv
      have hcv2 := conv_one wr x (x.toNat : Int) rfl
      obtain ⟨s, hs⟩ : ∃ s, bytesOf (dataL n k) = s := ⟨_, rfl⟩
      have hsz : s.size = k := by rw [← hs, bytesOf_size, dataL_len]
      have hnx : bytesOf (dataL n (k + 1)) = s ++ ⟨#[x]⟩ := by
        show bytesOf (dataL n k ++ [UInt8.ofNat (n + k * 7)]) = _
        rw [hx, ← hs, ← bytes_add]
        rfl
      have h63 : ¬ (9223372036854775807 < k + 1) := by omega
      have HNX := Lib.hid hnx
      rw [hs]
      clear hnx hs hx
      go_wp2
      go_roundw
      case rel => exact ⟨k + 1, by omega, by go_num, by rw [HNX.out], hb.alloc hb.size _⟩
      case measure => simp [intOf]; omega
    · obtain rfl : k = q := by omega
      go_wp2
      go_ret
      exact ⟨rfl, hb⟩
def LawPost (w : World) (e : Ending) (w' : World) : Prop := e = .returned (.bool true) ∧ Below w.heap.size w w'
end Go.Proofs.Ytfdnpchbbngpjaa
