/- The law Deep: walked. -/
import Derived.Test.YtbpokgjahlnfhaaPld
import Derived.Laws.IdiomStrings
namespace Go.Proofs.Ytbpokgjahlnfhaa
open Go.RowKit Go.Shelf

/-- where the byte number i is inserted -/
def atW (q i : Nat) : Nat := if q % 3 = 1 then i else if q % 3 = 2 then i / 2 else 0
def byteW (i : Nat) : ByteArray := ⟨#[UInt8.ofNat (97 + i % 26)]⟩
def deepT (q : Nat) : Nat → Tr
  | 0 => .nil
  | i + 1 => (deepT q i).repl (atW q i : Int) (atW q i : Int) (byteW i).data.toList
theorem atW_le (q i : Nat) : atW q i ≤ i := by unfold atW; split <;> (try split) <;> omega
theorem byteW_size (i : Nat) : (byteW i).size = 1 := rfl
theorem deep_inv (q i : Nat) (hi : i ≤ 400) : (deepT q i).okay ∧ (deepT q i).avl ∧ (deepT q i).count ≤ 2 * i ∧ (deepT q i).size = i := by
  induction i with
  | zero => exact ⟨⟨trivial, by show Tr.nil.size ≤ _; have : Tr.nil.size = 0 := rfl; omega⟩, trivial, by show Tr.nil.count ≤ _; have : Tr.nil.count = 0 := rfl; omega, rfl⟩
  | succ i ih =>
    obtain ⟨h1, h2, h3, h4⟩ := ih (by omega)
    have ha := atW_le q i
    have hs := byteW_size i
    have e : Tr.replace (deepT q i) (atW q i : Int) (atW q i : Int) (byteW i) = (0, deepT q (i + 1)) := replace_ok _ (if_neg (by omega)) (by omega)
    have k1 := rep_okay h1 (atW q i : Int) (atW q i : Int) (byteW i)
    have k2 := rep_avl h2 (atW q i : Int) (atW q i : Int) (byteW i)
    have k3 := rep_count (deepT q i) (atW q i : Int) (atW q i : Int) (byteW i)
    rw [e] at k1 k2 k3
    simp at k3
    refine ⟨k1, k2, by omega, ?_⟩
    show (Tr.repl (deepT q i) (atW q i : Int) (atW q i : Int) (byteW i).data.toList).bytes.length = i + 1
    rw [Tr.bytes_repl _ _ _ _ (by omega) (by omega)]
    have z : (deepT q i).size = (deepT q i).bytes.length := rfl
    have z1 : (byteW i).data.toList.length = 1 := rfl
    simp only [List.length_append, List.length_take, List.length_drop, Int.toNat_natCast]
    omega
theorem deep_rep (q i : Nat) (hi : i < 400) : Tr.replace (deepT q i) (atW q i : Int) (atW q i : Int) (byteW i) = (0, deepT q (i + 1)) := by
  obtain ⟨h1, h2, h3, h4⟩ := deep_inv q i (by omega)
  have ha := atW_le q i
  have hs := byteW_size i
  exact replace_ok _ (if_neg (by omega)) (by omega)
theorem deep_want (q i : Nat) (hi : i < 400) : (deepT q i).str.extract 0 (atW q i) ++ byteW i ++ (deepT q i).str.extract (atW q i) i = (deepT q (i + 1)).str := by
  obtain ⟨h1, h2, h3, h4⟩ := deep_inv q i (by omega)
  have ha := atW_le q i
  have hs := byteW_size i
  have hr := rep_ref (deepT q i) (atW q i : Int) (atW q i : Int) (byteW i)
  rw [deep_rep q i hi] at hr
  unfold refRep at hr
  rw [Tr.str_size, if_neg (by omega), if_neg (by omega)] at hr
  have := congrArg (·.1) hr
  simp only [Int.toNat_natCast, h4] at this
  exact this
theorem conv_one (i : Nat) (w : World) : (convert 23 9 (.slice (some ⟨w.heap.size, 0, none⟩) 1 1)).run Try.prog (w.alloc (.cells #[.int .u8 (97 + (i : Int) % 26)] 5)) = .ok (.string (byteW i)) (w.alloc (.cells #[.int .u8 (97 + (i : Int) % 26)] 5)) := by
  have hb := (Blk.new w 5 #[.int .u8 (97 + (i : Int) % 26)]).cell 0
  exact run_convert_bytes_back _ 23 9 5 ⟨w.heap.size, 0, none⟩ 1 [UInt8.ofNat (97 + i % 26)] Try.underlying23 Try.underlying5 Try.underlying9 (fun j hj => by
    obtain rfl : j = 0 := by simpa using hj
    have e : ((UInt8.ofNat (97 + i % 26)).toNat : Int) = 97 + (i : Int) % 26 := by
      rw [UInt8.toNat_ofNat']
      omega
    simp only [List.getElem_cons_zero]
    rw [e]
    exact hb)
set_option maxHeartbeats 2000000 in
set_option maxRecDepth 100000 in
theorem deep_row {n q : Nat} {w : World} (hn : n < 65536) (hq : q < 256) :
    Calls Try.prog 5 #[.int .u16 (n : Int), .int .u8 (q : Int)] w (LawPost w) := by
  obtain ⟨k, hk, hk4⟩ : ∃ k : Nat, ((n : Int) % 400) = (k : Int) ∧ k < 400 := ⟨n % 400, by omega, by omega⟩
  have hwk : IntKind.i64.wrap (k : Int) = (k : Int) := IntWalk.i64_in _ (by omega)
  go_enter Try.func5, Try.ntmps5
  go_wp2_with (first
    | (go_at_call 13; refine (known_any _).mono ?_; rintro e w1 ⟨rfl, hb1⟩)
    | (go_at_call 14; refine (tnew_ok ⟨#[]⟩ _ (by decide)).mono ?_; rintro e w2 ⟨tb, rfl, htb, hT, hb2⟩))
  have hf0 : Tr.fresh ⟨#[]⟩ = deepT q 0 := rfl
  rw [hf0] at hT
  have HP : Hid (Tree w2 tb (deepT q 0) ∧ Below w.heap.size w w2) := Lib.hid ⟨hT, bthen hb1 hb2⟩
  have HS0 : Hid ((⟨#[]⟩ : ByteArray) = (deepT q 0).str) := Lib.hid rfl
  have hwtb : w.heap.size ≤ tb := by have := hb1.size; omega
  clear hT hf0 hb1 hb2 htb hk
  go_loopw [8, 9] (fun wv iv wr => ∃ i : Nat, i ≤ k ∧ wv = .string (deepT q i).str ∧ iv = .int .i64 (i : Int) ∧ Tree wr tb (deepT q i) ∧ Below w.heap.size w wr) (fun _ iv _ => k - (intOf iv).toNat)
  case atStart => exact ⟨0, Nat.zero_le _, by rw [HS0.out], rfl, HP.out⟩
  case round =>
    clear HP HS0
    obtain ⟨i, hi, rfl, rfl, hT, hB⟩ := hrel
    obtain ⟨j1, j2, j3, j4⟩ := deep_inv q i (by omega)
    have hsz : (deepT q i).str.size = i := by rw [Tr.str_size]; exact j4
    have HT := Lib.hid hT
    have HB := Lib.hid hB
    have HJ := Lib.hid j1
    by_cases hlt : i < k
    · have hltI : (i : Int) < (k : Int) := by omega
      obtain ⟨m, hm, hm3⟩ : ∃ m : Nat, ((q : Int) % 3) = (m : Int) ∧ m = q % 3 := ⟨q % 3, by omega, rfl⟩
      have hw26 : IntKind.u8.wrap (97 + (i : Int) % 26) = 97 + (i : Int) % 26 := IntWalk.u8_in _ (by omega)
      have hrp := deep_rep q i (by omega)
      have hwt := deep_want q i (by omega)
      by_cases e1 : q % 3 = 1
      · have hat : atW q i = i := by unfold atW; rw [if_pos e1]
        obtain rfl : m = 1 := by omega
        rw [hat] at hrp hwt
        clear hm3 e1
        have HRP := Lib.hid hrp
        have HWT := Lib.hid hwt
        have hcv := conv_one i wr
        have hbs : (byteW i).size = 1 := rfl
        have hBA := HB.out.alloc HB.out.size (.cells #[.int .u8 (97 + (i : Int) % 26)] 5)
        have HBA := Lib.hid hBA
        clear hrp hwt hat hBA hT hB j1 j2 j3 j4
        go_wp2_with (go_at_call 17; refine (ins_any _ (byteW i) (HT.out.below ((Below.refl _ _).alloc (Nat.le_refl _) _)) HJ.out (by rw [hbs]; decide)).mono ?_; rw [HRP.out]; rintro e w6 ⟨rfl, q1, q2⟩; have Q1 := Lib.hid q1; have Q2 := Lib.hid q2; clear q1 q2)
        go_quiet (fail)
        go_wp2_with fail
        go_roundw
        case rel => exact ⟨i + 1, by omega, by rw [← HWT.out]; first | done | simp, by go_num, Q1.out.drewN _, below_drewN (HBA.out.trans (Q2.out.toBelow (by simp; exact hwtb) HBA.out.size)) _⟩
        case measure => (simp [intOf] <;> omega)
      · by_cases e2 : q % 3 = 2
        · have hat : atW q i = i / 2 := by unfold atW; rw [if_neg e1, if_pos e2]
          obtain rfl : m = 2 := by omega
          obtain ⟨a, ha, ha2, ha3⟩ : ∃ a : Nat, (i : Int) / 2 = (a : Int) ∧ i / 2 = a ∧ a ≤ i := ⟨i / 2, by omega, rfl, by omega⟩
          rw [hat, ha2] at hrp hwt
          clear hm3 e1 e2 ha2
          have HRP := Lib.hid hrp
          have HWT := Lib.hid hwt
          have hcv := conv_one i wr
          have hbs : (byteW i).size = 1 := rfl
          have hBA := HB.out.alloc HB.out.size (.cells #[.int .u8 (97 + (i : Int) % 26)] 5)
          have HBA := Lib.hid hBA
          clear hrp hwt hat hBA hT hB j1 j2 j3 j4
          go_wp2_with (go_at_call 17; refine (ins_any _ (byteW i) (HT.out.below ((Below.refl _ _).alloc (Nat.le_refl _) _)) HJ.out (by rw [hbs]; decide)).mono ?_; rw [HRP.out]; rintro e w6 ⟨rfl, q1, q2⟩; have Q1 := Lib.hid q1; have Q2 := Lib.hid q2; clear q1 q2)
          go_quiet (fail)
          go_wp2_with fail
          go_roundw
          case rel => exact ⟨i + 1, by omega, by rw [← HWT.out]; first | done | simp, by go_num, Q1.out.drewN _, below_drewN (HBA.out.trans (Q2.out.toBelow (by simp; exact hwtb) HBA.out.size)) _⟩
          case measure => (simp [intOf] <;> omega)
        · have hat : atW q i = 0 := by unfold atW; rw [if_neg e1, if_neg e2]
          obtain rfl : m = 0 := by omega
          rw [hat] at hrp hwt
          rw [show ((0 : Nat) : Int) = 0 from rfl] at hrp
          clear hm3 e1 e2
          have HRP := Lib.hid hrp
          have HWT := Lib.hid hwt
          have hcv := conv_one i wr
          have hbs : (byteW i).size = 1 := rfl
          have hBA := HB.out.alloc HB.out.size (.cells #[.int .u8 (97 + (i : Int) % 26)] 5)
          have HBA := Lib.hid hBA
          clear hrp hwt hat hBA hT hB j1 j2 j3 j4
          go_wp2_with (go_at_call 17; refine (ins_any _ (byteW i) (HT.out.below ((Below.refl _ _).alloc (Nat.le_refl _) _)) HJ.out (by rw [hbs]; decide)).mono ?_; rw [HRP.out]; rintro e w6 ⟨rfl, q1, q2⟩; have Q1 := Lib.hid q1; have Q2 := Lib.hid q2; clear q1 q2)
          go_quiet (fail)
          go_wp2_with fail
          go_roundw
          case rel => exact ⟨i + 1, by omega, by rw [← HWT.out]; first | done | simp, by go_num, Q1.out.drewN _, below_drewN (HBA.out.trans (Q2.out.toBelow (by simp; exact hwtb) HBA.out.size)) _⟩
          case measure => (simp [intOf] <;> omega)
    · obtain rfl : i = k := by omega
      have hbl := bitsN_le (deepT q i).count
      have hcc := Tr.count_le j1.1
      have hcB : (deepT q i).count ≤ 300000 := by omega
      have hbB : bitsN (deepT q i).count ≤ 300000 := by omega
      have hhl := Tr.high_le (deepT q i)
      have hhb : (deepT q i).high ≤ 2 * bitsN (deepT q i).count := by
        by_cases h1 : 1 ≤ (deepT q i).high
        · exact high_bits j2 h1
        · omega
      have d2 : decide (((deepT q i).count : Int) ≤ 2 * (i : Int) + 1) = true := by simp; omega
      have d4 : decide (((deepT q i).high : Int) ≤ 2 * (bitsN (deepT q i).count : Int)) = true := by simp; omega
      have hself : ((deepT q i).str.toList == (deepT q i).str.toList) = true := by simp
      clear hT hB j1 j2 j3 j4 hbl hcc hhl hhb
      go_wp2_with (first
        | (go_at_call 21; refine (tstring_any HT.out HJ.out).mono ?_; rintro e w6 ⟨rfl, hb6⟩; have HT6 := Lib.hid (HT.out.below hb6))
        | (go_at_call 22; first | (with_reducible refine (tpieces_any HT6.out).mono ?_; rintro e w7 ⟨rfl, n7, rfl⟩) | (refine (tpieces_any (HT6.out.drewN _)).mono ?_; rintro e w8 ⟨rfl, n8, rfl⟩))
        | (go_at_call 23; refine (tdepth_any (HT6.out.drewN _)).mono ?_; rintro e w9 ⟨rfl, rfl⟩)
        | (go_at_call 24; refine (bits_any _ _ hcB).mono ?_; rintro e w10 ⟨rfl, rfl⟩))
      go_ret
      exact ⟨by rw [← d4]; rfl, below_drewN (HB.out.trans (hb6.mono HB.out.size)) _⟩
end Go.Proofs.Ytbpokgjahlnfhaa
