/- The table of checksums in memory: its filling. -/
import Derived.Test.YtfdnpchbbngpjaaGreatVolj
import Derived.Test.YtfdnpchbbngpjaaGreatJpb
namespace Go.Proofs.YtfdnpchbbngpjaaGreat
open Go.RowKit Go.Maps

theorem bits_xor32 (a b : Nat) (ha : a < 4294967296) (hb : b < 4294967296) : bits .xor .u32 (a : Int) (b : Int) = ((a ^^^ b : Nat) : Int) := by
  have h := xor_lt32 ha hb
  show IntKind.u32.wrap ((BitVec.ofInt 32 (a : Int) ^^^ BitVec.ofInt 32 (b : Int)).toNat : Nat) = _
  have e1 : BitVec.ofInt 32 (a : Int) = BitVec.ofNat 32 a := BitVec.ofInt_natCast ..
  have e2 : BitVec.ofInt 32 (b : Int) = BitVec.ofNat 32 b := BitVec.ofInt_natCast ..
  rw [e1, e2, BitVec.toNat_xor, BitVec.toNat_ofNat, BitVec.toNat_ofNat, Nat.mod_eq_of_lt ha, Nat.mod_eq_of_lt hb, IntKind.wrap_u32]
  omega
theorem bits_xor8 (a b : Nat) (ha : a < 256) (hb : b < 256) : bits .xor .u8 (a : Int) (b : Int) = ((a ^^^ b : Nat) : Int) := by
  have h : a ^^^ b < 256 := Nat.xor_lt_two_pow (n := 8) ha hb
  show IntKind.u8.wrap ((BitVec.ofInt 8 (a : Int) ^^^ BitVec.ofInt 8 (b : Int)).toNat : Nat) = _
  have e1 : BitVec.ofInt 8 (a : Int) = BitVec.ofNat 8 a := BitVec.ofInt_natCast ..
  have e2 : BitVec.ofInt 8 (b : Int) = BitVec.ofNat 8 b := BitVec.ofInt_natCast ..
  rw [e1, e2, BitVec.toNat_xor, BitVec.toNat_ofNat, BitVec.toNat_ofNat, Nat.mod_eq_of_lt ha, Nat.mod_eq_of_lt hb, IntKind.wrap_u8]
  omega
theorem bits_odd32 (a : Nat) (ha : a < 4294967296) : bits .and .u32 (a : Int) 1 = ((a % 2 : Nat) : Int) := by
  show IntKind.u32.wrap ((BitVec.ofInt 32 (a : Int) &&& BitVec.ofInt 32 ((1 : Nat) : Int)).toNat : Nat) = _
  have e1 : BitVec.ofInt 32 (a : Int) = BitVec.ofNat 32 a := BitVec.ofInt_natCast ..
  have e2 : BitVec.ofInt 32 ((1 : Nat) : Int) = BitVec.ofNat 32 1 := BitVec.ofInt_natCast ..
  rw [e1, e2, BitVec.toNat_and, BitVec.toNat_ofNat, BitVec.toNat_ofNat, Nat.mod_eq_of_lt ha, IntKind.wrap_u32]
  rw [show 1 % 2 ^ 32 = 2 ^ 1 - 1 from rfl, Nat.and_two_pow_sub_one_eq_mod]
  omega

/-- the cells of a table: its Once, and its numbers -/
def tcells (hd : List Value) (f : Nat → Nat) : Array Value := (hd ++ (List.range 256).map fun i => Value.int .u32 (f i : Int)).toArray
def Tb (w : World) (tb : Nat) (d s : Int) (f : Nat → Nat) : Prop := Blk w tb 125 (tcells [.int .u32 d, .int .i32 s, .int .u32 0] f)
def sumsUpto (f : Nat → Nat) (k i : Nat) : Nat := if i < k then crc8 i else f i
theorem tcells_at (a b c : Value) (f : Nat → Nat) (i : Nat) (hi : i < 256) : (tcells [a, b, c] f)[3 + i]? = some (.int .u32 (f i : Int)) := by
  unfold tcells
  rw [List.getElem?_toArray, List.getElem?_append_right (by simp), List.getElem?_map, List.getElem?_range (by simp; omega)]
  simp
theorem tcells_set (a b c : Value) (f : Nat → Nat) (i x : Nat) : (tcells [a, b, c] f).setIfInBounds (3 + i) (.int .u32 (x : Int)) = tcells [a, b, c] (fun j => if j = i then x else f j) := by
  unfold tcells
  rw [List.setIfInBounds_toArray, List.set_append_right _ _ (by simp)]
  congr 2
  apply List.ext_getElem?
  intro j
  rw [List.getElem?_set]
  by_cases hj : j < 256
  · rw [List.getElem?_map, List.getElem?_map, List.getElem?_range hj]
    by_cases e : j = i
    · subst e
      simp [hj]
    · have : ¬ 3 + i - 3 = j := by omega
      simp [e]
      intro h; omega
  · rw [List.getElem?_eq_none (by simp; omega), List.getElem?_eq_none (by simp; omega)]
    simp
    intro h; omega

set_option maxRecDepth 100000 in
set_option maxHeartbeats 1000000 in
theorem make_any {w : World} {tb : Nat} {d s : Int} {f : Nat → Nat} (h : Tb w tb d s f) :
    Calls Tryz.prog 75 #[.pointer (some ⟨tb, 0, none⟩)] w fun e w' => e = .returned (.tuple #[]) ∧ Tb w' tb d s crc8 ∧ Turn [tb] w w' := by
  go_enter Tryz.func75, Tryz.ntmps75
  go_wp2
  go_loopw [4] (fun i wr => ∃ k : Nat, k ≤ 256 ∧ i = .int .i64 (k : Int) ∧ Tb wr tb d s (sumsUpto f k) ∧ Turn [tb] w wr) (fun i _ => 256 - (intOf i).toNat)
  case atStart =>
    refine ⟨0, by omega, rfl, ?_, Turn.refl _ _⟩
    have : sumsUpto f 0 = f := by funext i; simp [sumsUpto]
    rw [this]; exact h
  case round =>
    obtain ⟨k, hk, rfl, hT, ht⟩ := hrel
    by_cases hlt : k < 256
    · have cS := (Blk.cell hT (3 + k)).trans (tcells_at _ _ _ _ k hlt)
      have fS := Blk.frozen hT (3 + k)
      have HN : ∀ x : Nat, x = crc8 k → Tb (wr.setCell ⟨tb, 3 + k, none⟩ (.int .u32 (x : Int))) tb d s (sumsUpto f (k + 1)) := by
        rintro x rfl
        have := Blk.set_ hT (3 + k) (.int .u32 (crc8 k : Int))
        rw [tcells_set] at this
        have e : (fun j => if j = k then crc8 k else sumsUpto f k j) = sumsUpto f (k + 1) := by
          funext j
          unfold sumsUpto
          by_cases e : j = k
          · subst e; simp
          · by_cases e2 : j < k
            · rw [if_neg e, if_pos e2, if_pos (by omega)]
            · rw [if_neg e, if_neg e2, if_neg (by omega)]
        rw [e] at this
        exact this
      have HN := Lib.hid HN
      clear hT
      go_wp2
      go_loopw [9, 3] (fun i c wr' => wr' = wr ∧ ∃ j x : Nat, j ≤ 8 ∧ i = .int .i64 (j : Int) ∧ c = .int .u32 (x : Int) ∧ x < 4294967296 ∧ crcN (8 - j) x = crc8 k) (fun i _ _ => 8 - (intOf i).toNat)
      case atStart => exact ⟨rfl, 0, k, by omega, rfl, rfl, by omega, rfl⟩
      case round =>
        obtain ⟨rfl, j, x, hj, rfl, rfl, hx, hc⟩ := hrel
        by_cases hj8 : j < 8
        · have e1 := bits_odd32 x hx
          have hc := Lib.hid hc
          rcases Nat.mod_two_eq_zero_or_one x with ho | ho
          · rw [ho] at e1
            go_wp2
            go_roundw
            case rel =>
              refine ⟨trivial, j + 1, x / 2, by omega, by go_num, by go_num, by omega, ?_⟩
              rw [← hc.out, show 8 - j = (8 - (j + 1)) + 1 from by omega]
              show _ = crcN _ (crc1 x)
              unfold crc1
              rw [if_neg (by omega)]
            case measure => simp [intOf]; omega
          · rw [ho] at e1
            have e2 := bits_xor32 (x / 2) 3988292384 (by omega) (by decide)
            go_wp2
            go_roundw
            case rel =>
              refine ⟨trivial, j + 1, x / 2 ^^^ 3988292384, by omega, by go_num, ?_, xor_lt32 (by omega) (by decide), ?_⟩
              · exact congrArg (Value.int .u32) e2
              rw [← hc.out, show 8 - j = (8 - (j + 1)) + 1 from by omega]
              show _ = crcN _ (crc1 x)
              unfold crc1
              rw [if_pos ho]
            case measure => simp [intOf]; omega
        · obtain rfl : j = 8 := by omega
          have hN := Lib.hid (HN.out x hc)
          go_wp2
          go_roundw
          case rel => exact ⟨k + 1, by omega, by go_num, hN.out, ht.setCell (.inl (by simp)) _⟩
          case measure => simp [intOf]; omega
    · obtain rfl : k = 256 := by omega
      go_wp2
      go_end0
      refine ⟨rfl, ?_, ht⟩
      have e : (List.range 256).map (fun i => Value.int .u32 (sumsUpto f 256 i : Int)) = (List.range 256).map (fun i => Value.int .u32 (crc8 i : Int)) :=
        List.map_congr_left fun i hi => by
          rw [List.mem_range] at hi
          unfold sumsUpto
          rw [if_pos hi]
      unfold Tb tcells at hT ⊢
      rw [← e]; exact hT
end Go.Proofs.YtfdnpchbbngpjaaGreat
