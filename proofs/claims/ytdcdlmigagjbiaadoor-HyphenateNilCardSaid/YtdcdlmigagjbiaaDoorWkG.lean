/- The walks of encode and Make. -/
import Derived.Test.YtdcdlmigagjbiaaDoorWkF
import Derived.Test.YtdcdlmigagjbiaaDoorBld
import Derived.Deep.Cut
namespace Go.Proofs.YtdcdlmigagjbiaaDoor
open Go.RowKit
attribute [local go_sem] i64_and63u
theorem byteCell (n : Nat) (z : Int) (h : n < 256) (hz : z = (n : Int)) : Value.int .u8 (UInt8.ofNat n).toNat = Value.int .u8 z := by
  rw [U.toNat_ofNat_lt n h, hz]
/-- the cells of an encoding, in the walk's spelling -/
theorem enc_cells1 (p : Nat) (h : p < 128) : Lib.byteCells (U.enc p) = [.int .u8 p] := by
  unfold U.enc; rw [if_pos h]
  simp only [Lib.byteCells, List.map_cons, List.map_nil]
  rw [byteCell p p (by omega) rfl]
theorem enc_cells2 (p : Nat) (h1 : 128 ≤ p) (h : p < 2048) : Lib.byteCells (U.enc p) = [.int .u8 (192 + (p : Int) / 64), .int .u8 (128 + (p : Int) % 64)] := by
  unfold U.enc; rw [if_neg (by omega), if_pos h]
  simp only [Lib.byteCells, List.map_cons, List.map_nil]
  rw [byteCell _ (192 + (p : Int) / 64) (by omega) (by omega), byteCell _ (128 + (p : Int) % 64) (by omega) (by omega)]
theorem enc_cells3 (p : Nat) (h1 : 2048 ≤ p) (h : p < 65536) : Lib.byteCells (U.enc p) = [.int .u8 (224 + (p : Int) / 4096), .int .u8 (128 + (p : Int) / 64 % 64), .int .u8 (128 + (p : Int) % 64)] := by
  unfold U.enc; rw [if_neg (by omega), if_neg (by omega), if_pos h]
  simp only [Lib.byteCells, List.map_cons, List.map_nil]
  rw [byteCell _ (224 + (p : Int) / 4096) (by omega) (by omega), byteCell _ (128 + (p : Int) / 64 % 64) (by omega) (by omega), byteCell _ (128 + (p : Int) % 64) (by omega) (by omega)]
theorem enc_cells4 (p : Nat) (h1 : 65536 ≤ p) (h : p ≤ 1114111) : Lib.byteCells (U.enc p) = [.int .u8 (240 + (p : Int) / 262144), .int .u8 (128 + (p : Int) / 4096 % 64), .int .u8 (128 + (p : Int) / 64 % 64), .int .u8 (128 + (p : Int) % 64)] := by
  unfold U.enc; rw [if_neg (by omega), if_neg (by omega), if_neg (by omega)]
  simp only [Lib.byteCells, List.map_cons, List.map_nil]
  rw [byteCell _ (240 + (p : Int) / 262144) (by omega) (by omega), byteCell _ (128 + (p : Int) / 4096 % 64) (by omega) (by omega), byteCell _ (128 + (p : Int) / 64 % 64) (by omega) (by omega), byteCell _ (128 + (p : Int) % 64) (by omega) (by omega)]
def EncPost (p : Nat) (B n : Nat) (xs : List Value) (w : World) (e : Ending) (w' : World) : Prop :=
  ∃ v', e = .returned v' ∧ Below B w w' ∧ w'.ownsRow B 5 1 v' (n + U.esize p) (xs ++ Lib.byteCells (U.enc p))
set_option maxRecDepth 100000 in
set_option maxHeartbeats 400000 in
theorem encode_1 (p : Nat) (B n : Nat) (v : Value) (xs : List Value) (w : World) (hp : p < 128) (hn : Hid (n ≤ 4294967296)) (hB : B ≤ w.heap.size) (hown : w.ownsRow B 5 1 v n xs) :
    Calls Tryd.prog 55 #[v, .int .i64 p] w (EncPost p B n xs w) := by
  obtain ⟨i0, hi, hz0, hz1, hz2⟩ := info_parts u8_info
  go_enter Tryd.func55, Tryd.ntmps55
  go_wp2_with (at_builtin; refine wpList_append_own _ rfl _ _ 76 rfl B 5 i0 (.int .u8 0) 1 1 Tryd.underlying76 hi hz0 hz1 hz2 rfl (by decide) _ _ _ rfl (hown.alloc _) ⟨w.heap.size, 0, none⟩ 1 1 [.int .u8 p] rfl rfl ?c1 ?c2 ?c3 ?c4 ?c5 ?_)
  case c1 =>
    intro j u hj
    match j, hj with
    | 0, hj => simp at hj; subst hj; simp [Addr.add]
  case c2 => intro u hu; simp at hu; rcases hu with rfl <;> rfl
  case c3 => have := hn.out; unfold maxLen; omega
  case c4 => have := hn.out; omega
  case c5 => simp; omega
  intro v' w1 hown' hgrow _
  have R := rel_appendN hB hown (Below.refl _ _) hgrow
  clear hgrow hown hi hz0 hz1 hz2
  go_wp2
  go_ret
  exact ⟨_, rfl, R, by rw [enc_cells1 p hp]; have hs : U.esize p = 1 := by { unfold U.esize; rw [if_pos hp] }
                       rw [hs]; exact hown'⟩
set_option maxRecDepth 100000 in
set_option maxHeartbeats 400000 in
theorem encode_2 (p : Nat) (B n : Nat) (v : Value) (xs : List Value) (w : World) (hp : p < 2048) (hp' : 128 ≤ p) (hn : Hid (n ≤ 4294967296)) (hB : B ≤ w.heap.size) (hown : w.ownsRow B 5 1 v n xs) :
    Calls Tryd.prog 55 #[v, .int .i64 p] w (EncPost p B n xs w) := by
  obtain ⟨i0, hi, hz0, hz1, hz2⟩ := info_parts u8_info
  go_enter Tryd.func55, Tryd.ntmps55
  go_wp2_with (at_builtin; refine wpList_append_own _ rfl _ _ 76 rfl B 5 i0 (.int .u8 0) 1 1 Tryd.underlying76 hi hz0 hz1 hz2 rfl (by decide) _ _ _ rfl (hown.alloc _) ⟨w.heap.size, 0, none⟩ 2 2 [.int .u8 (192 + (p : Int) / 64), .int .u8 (128 + (p : Int) % 64)] rfl rfl ?c1 ?c2 ?c3 ?c4 ?c5 ?_)
  case c1 =>
    intro j u hj
    match j, hj with
    | 0, hj => simp at hj; subst hj; simp [Addr.add]
    | 1, hj => simp at hj; subst hj; simp [Addr.add]
    | j + 2, hj => simp at hj
  case c2 => intro u hu; simp at hu; rcases hu with rfl | rfl <;> rfl
  case c3 => have := hn.out; unfold maxLen; omega
  case c4 => have := hn.out; omega
  case c5 => simp; omega
  intro v' w1 hown' hgrow _
  have R := rel_appendN hB hown (Below.refl _ _) hgrow
  clear hgrow hown hi hz0 hz1 hz2
  go_wp2
  go_ret
  exact ⟨_, rfl, R, by rw [enc_cells2 p hp' hp]; have hs : U.esize p = 2 := by { unfold U.esize; rw [if_neg (by omega), if_pos hp] }
                       rw [hs]; exact hown'⟩
set_option maxRecDepth 100000 in
set_option maxHeartbeats 400000 in
theorem encode_3 (p : Nat) (B n : Nat) (v : Value) (xs : List Value) (w : World) (hp : p < 65536) (hp' : 2048 ≤ p) (hn : Hid (n ≤ 4294967296)) (hB : B ≤ w.heap.size) (hown : w.ownsRow B 5 1 v n xs) :
    Calls Tryd.prog 55 #[v, .int .i64 p] w (EncPost p B n xs w) := by
  obtain ⟨i0, hi, hz0, hz1, hz2⟩ := info_parts u8_info
  have h1 : p / 4096 < 16 := by omega
  have h2 : p / 64 < 1024 := by omega
  go_enter Tryd.func55, Tryd.ntmps55
  go_upto_if 27 with fail
  refine wp_cond_true (show Value.bool (decide ((p : Int) < 65536)) = Value.bool true from congrArg Value.bool (decide_eq_true (by omega))) ?_
  go_wp2_with (at_builtin; refine wpList_append_own _ rfl _ _ 76 rfl B 5 i0 (.int .u8 0) 1 1 Tryd.underlying76 hi hz0 hz1 hz2 rfl (by decide) _ _ _ rfl (hown.alloc _) ⟨w.heap.size, 0, none⟩ 3 3 [.int .u8 (224 + (p : Int) / 4096), .int .u8 (128 + (p : Int) / 64 % 64), .int .u8 (128 + (p : Int) % 64)] rfl rfl ?c1 ?c2 ?c3 ?c4 ?c5 ?_)
  case c1 =>
    intro j u hj
    match j, hj with
    | 0, hj => simp at hj; subst hj; simp [Addr.add]
    | 1, hj => simp at hj; subst hj; simp [Addr.add]
    | 2, hj => simp at hj; subst hj; simp [Addr.add]
    | j + 3, hj => simp at hj
  case c2 => intro u hu; simp at hu; rcases hu with rfl | rfl | rfl <;> rfl
  case c3 => have := hn.out; unfold maxLen; omega
  case c4 => have := hn.out; omega
  case c5 => simp; omega
  intro v' w1 hown' hgrow _
  have R := rel_appendN hB hown (Below.refl _ _) hgrow
  clear hgrow hown hi hz0 hz1 hz2
  go_wp2
  go_ret
  exact ⟨_, rfl, R, by rw [enc_cells3 p hp' hp]; have hs : U.esize p = 3 := by { unfold U.esize; rw [if_neg (by omega), if_neg (by omega), if_pos hp] }
                       rw [hs]; exact hown'⟩
set_option maxRecDepth 100000 in
set_option maxHeartbeats 400000 in
theorem encode_4 (p : Nat) (B n : Nat) (v : Value) (xs : List Value) (w : World) (hp : p ≤ 1114111) (hp' : 65536 ≤ p) (hn : Hid (n ≤ 4294967296)) (hB : B ≤ w.heap.size) (hown : w.ownsRow B 5 1 v n xs) :
    Calls Tryd.prog 55 #[v, .int .i64 p] w (EncPost p B n xs w) := by
  obtain ⟨i0, hi, hz0, hz1, hz2⟩ := info_parts u8_info
  have h1 : p / 262144 < 5 := by omega
  go_enter Tryd.func55, Tryd.ntmps55
  go_upto_if 27 with fail
  refine wp_cond_false (show Value.bool (decide ((p : Int) < 65536)) = Value.bool false from congrArg Value.bool (decide_eq_false (by omega))) ?_
  go_wp2_with (at_builtin; refine wpList_append_own _ rfl _ _ 76 rfl B 5 i0 (.int .u8 0) 1 1 Tryd.underlying76 hi hz0 hz1 hz2 rfl (by decide) _ _ _ rfl (hown.alloc _) ⟨w.heap.size, 0, none⟩ 4 4 [.int .u8 (240 + (p : Int) / 262144), .int .u8 (128 + (p : Int) / 4096 % 64), .int .u8 (128 + (p : Int) / 64 % 64), .int .u8 (128 + (p : Int) % 64)] rfl rfl ?c1 ?c2 ?c3 ?c4 ?c5 ?_)
  case c1 =>
    intro j u hj
    match j, hj with
    | 0, hj => simp at hj; subst hj; simp [Addr.add]
    | 1, hj => simp at hj; subst hj; simp [Addr.add]
    | 2, hj => simp at hj; subst hj; simp [Addr.add]
    | 3, hj => simp at hj; subst hj; simp [Addr.add]
    | j + 4, hj => simp at hj
  case c2 => intro u hu; simp at hu; rcases hu with rfl | rfl | rfl | rfl <;> rfl
  case c3 => have := hn.out; unfold maxLen; omega
  case c4 => have := hn.out; omega
  case c5 => simp; omega
  intro v' w1 hown' hgrow _
  have R := rel_appendN hB hown (Below.refl _ _) hgrow
  clear hgrow hown hi hz0 hz1 hz2
  go_wp2
  go_ret
  exact ⟨_, rfl, R, by rw [enc_cells4 p hp' hp]; have hs : U.esize p = 4 := by { unfold U.esize; rw [if_neg (by omega), if_neg (by omega), if_neg (by omega)] }
                       rw [hs]; exact hown'⟩
theorem encode_any (p : Nat) (B n : Nat) (v : Value) (xs : List Value) (w : World) (hp : U.isPt p = true) (hn : n ≤ 4294967296) (hB : B ≤ w.heap.size) (hown : w.ownsRow B 5 1 v n xs) :
    Calls Tryd.prog 55 #[v, .int .i64 p] w (EncPost p B n xs w) := by
  rw [U.isPt_iff] at hp
  by_cases h1 : p < 128
  · exact encode_1 p B n v xs w h1 hn hB hown
  by_cases h2 : p < 2048
  · exact encode_2 p B n v xs w h2 (by omega) hn hB hown
  by_cases h3 : p < 65536
  · exact encode_3 p B n v xs w h3 (by omega) hn hB hown
  · exact encode_4 p B n v xs w hp.1 (by omega) hn hB hown
end Go.Proofs.YtdcdlmigagjbiaaDoor
