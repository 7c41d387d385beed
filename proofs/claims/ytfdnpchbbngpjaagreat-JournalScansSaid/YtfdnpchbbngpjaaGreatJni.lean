/- The data of an operation; the law JournalNil walked. -/
import Derived.Test.YtfdnpchbbngpjaaGreatJkw
import Derived.Test.YtfdnpchbbngpjaaGreatJaq
namespace Go.Proofs.YtfdnpchbbngpjaaGreat
open Go.RowKit Go.Maps

def dataL (n : Nat) : Nat → List UInt8
  | 0 => []
  | i + 1 => dataL n i ++ [UInt8.ofNat (n + i * 7)]
def dataP (n : Nat) : ByteArray := bytesOf (dataL n (n % 400))
theorem dataL_len (n k : Nat) : (dataL n k).length = k := by
  induction k with
  | zero => rfl
  | succ k ih => show (dataL n k ++ [_]).length = _; rw [List.length_append, ih]; rfl
theorem conv_one (W : World) (x : UInt8) (v : Int) (hv : v = (x.toNat : Int)) : (convert 31 9 (.slice (some ⟨W.heap.size, 0, none⟩) 1 1)).run Tryz.prog (W.alloc (.cells #[.int .u8 v] 5)) = .ok (.string ⟨#[x]⟩) (W.alloc (.cells #[.int .u8 v] 5)) := by
  subst hv
  refine run_convert_bytes_back (P := Tryz.prog) _ 31 9 5 ⟨W.heap.size, 0, none⟩ 1 [x] Tryz.underlying31 Tryz.underlying5 Tryz.underlying9 (fun j hj => ?_)
  have hj0 : j = 0 := by simp at hj; omega
  subst hj0
  exact (Blk.new W 5 #[.int .u8 (x.toNat : Int)]).cell 0
set_option maxRecDepth 100000 in
set_option maxHeartbeats 2000000 in
theorem dataOf_any (n : Nat) (hn : n < 65536) (w : World) : Calls Tryz.prog 24 #[.int .u16 (n : Int)] w fun e w' => e = .returned (.string (dataP n)) ∧ Below w.heap.size w w' := by
  obtain ⟨q, hq⟩ : ∃ q, n % 400 = q := ⟨_, rfl⟩
  have eq : (n : Int) % 400 = (q : Int) := by rw [← hq]; rfl
  have eq2 : (n : Int).tmod 400 = (q : Int) := by rw [Int.tmod_eq_emod_of_nonneg (by omega)]; exact eq
  have hq4 : q < 400 := by omega
  have hP : dataP n = bytesOf (dataL n q) := by unfold dataP; rw [hq]
  rw [hP]
  clear hP
  go_enter Tryz.func24, Tryz.ntmps24
  go_wp2
  go_loopw [3, 4] (fun s i wr => ∃ k : Nat, k ≤ q ∧ i = .int .i64 (k : Int) ∧ s = .string (bytesOf (dataL n k)) ∧ Below w.heap.size w wr) (fun _ i _ => q - (intOf i).toNat)
  case atStart => exact ⟨0, Nat.zero_le _, rfl, rfl, Below.refl _ _⟩
  case round =>
    obtain ⟨k, hk, rfl, rfl, hb⟩ := hrel
    by_cases hkq : k < q
    · obtain ⟨x, hx⟩ : ∃ x, UInt8.ofNat (n + k * 7) = x := ⟨_, rfl⟩
      have hxv : ((n : Int) + (k : Int) * 7) % 256 = (x.toNat : Int) := by
        rw [← hx]
        show _ = (((n + k * 7) % 256 : Nat) : Int)
        omega
      have hcv := conv_one wr x (((n : Int) + (k : Int) * 7) % 256) hxv
      have hcv2 := conv_one wr x (x.toNat : Int) rfl
      obtain ⟨s, hs⟩ : ∃ s, bytesOf (dataL n k) = s := ⟨_, rfl⟩
      have hsz : s.size = k := by rw [← hs, bytesOf_size, dataL_len]
      have hnx : bytesOf (dataL n (k + 1)) = s ++ ⟨#[x]⟩ := by
        show bytesOf (dataL n k ++ [UInt8.ofNat (n + k * 7)]) = _
        rw [hx, ← hs, ← bytes_add]
        rfl
      have h63 : ¬ (9223372036854775807 < k + 1) := by omega
      have HNX := Lib.hid hnx
      rw [hs]
      clear hnx hs hx
      go_wp2
      go_roundw
      case rel => exact ⟨k + 1, by omega, by go_num, by rw [HNX.out], hb.alloc hb.size _⟩
      case measure => simp [intOf]; omega
    · obtain rfl : k = q := by omega
      go_wp2
      go_ret
      exact ⟨rfl, hb⟩
theorem truncate_nil (n : Int) (w : World) : Calls Tryz.prog 17 #[.pointer none, .int .i64 n] w fun e w' => e = .returned (.int .i64 1) ∧ w = w' := by
  go_enter Tryz.func17, Tryz.ntmps17
  go_wp2_with ((go_at_call 46; refine (state_nil _).mono ?_; rintro e w1 ⟨rfl, rfl⟩))
  go_ret
  exact ⟨rfl, rfl⟩
def LawPost (w : World) (e : Ending) (w' : World) : Prop := e = .returned (.bool true) ∧ Below w.heap.size w w'
set_option maxRecDepth 100000 in
set_option maxHeartbeats 4000000 in
theorem nil_law (a : Int) (ha : (Lit.int .u16 a).wf = true) (k : Int) (w : World) : Calls Tryz.prog 8 #[.int .u16 a, .int .i64 k] w (LawPost w) := by
  obtain ⟨n, rfl, hn⟩ : ∃ n : Nat, a = (n : Int) ∧ n < 65536 := by
    simp [Lit.wf, IntKind.min, IntKind.max, IntKind.signed, IntKind.bits] at ha
    exact ⟨a.toNat, by omega, by omega⟩
  have HD := Lib.hid (dataOf_any n hn)
  clear ha hn
  unfold LawPost
  go_enter Tryz.func8, Tryz.ntmps8
  go_wp2_with (first
    | (go_at_call 24; refine (HD.out w).mono ?_; rintro e w1 ⟨rfl, hb1⟩)
    | (go_at_call 23; refine (append_nil _ _).mono ?_; rintro e w2 ⟨rfl, rfl⟩)
    | (go_at_call 39; refine (jread_nil _ _).mono ?_; rintro e w3 ⟨rfl, rfl⟩)
    | (go_at_call 40; refine (from_nil _ _).mono ?_; rintro e w4 ⟨rfl, rfl⟩)
    | (go_at_call 11; refine (known_any _).mono ?_; rintro e w5 ⟨rfl, hb5⟩)
    | (go_at_call 16; refine (commit_nil _).mono ?_; rintro e w6 ⟨rfl, rfl⟩)
    | (go_at_call 17; refine (truncate_nil _ _).mono ?_; rintro e w7 ⟨rfl, rfl⟩)
    | (go_at_call 29; refine (first_nil _).mono ?_; rintro e w8 ⟨rfl, rfl⟩)
    | (go_at_call 28; refine (last_nil _).mono ?_; rintro e w9 ⟨rfl, rfl⟩)
    | (go_at_call 41; refine (durable_nil _).mono ?_; rintro e w10 ⟨rfl, rfl⟩)
    | (go_at_call 26; refine (free_nil _).mono ?_; rintro e w11 ⟨rfl, rfl⟩))
  go_ret
  exact ⟨rfl, hb1.trans (hb5.mono hb1.size)⟩
end Go.Proofs.YtfdnpchbbngpjaaGreat
