/- The walks of encode and Make. -/
import Derived.Test.YtdcdlmigagjbiaaDoorKb
import Derived.Deep.Cut
import Derived.Outline
import Derived.StillTailTactics
import Derived.Deep.QuietTactic
import Derived.BigQuiet
import Derived.Laws.IdiomStrings
import Derived.ProofKit
namespace Go.Proofs.YtdcdlmigagjbiaaDoor
open Go.RowKit
attribute [local go_sem] i64_and63u
theorem byteCell (n : Nat) (z : Int) (h : n < 256) (hz : z = (n : Int)) : Value.int .u8 (UInt8.ofNat n).toNat = Value.int .u8 z := by
  rw [U.toNat_ofNat_lt n h, hz]
/-- the cells of an encoding, in the walk's spelling -/
theorem enc_cells1 (p : Nat) (h : p < 128) : Lib.byteCells (U.enc p) = [.int .u8 p] := by
  unfold U.enc; rw [if_pos h]
  simp only [Lib.byteCells, List.map_cons, List.map_nil]
  rw [byteCell p p (by omega) rfl]
theorem enc_cells2 (p : Nat) (h1 : 128 ≤ p) (h : p < 2048) : Lib.byteCells (U.enc p) = [.int .u8 (192 + (p : Int) / 64), .int .u8 (128 + (p : Int) % 64)] := by
  unfold U.enc; rw [if_neg (by omega), if_pos h]
  simp only [Lib.byteCells, List.map_cons, List.map_nil]
  rw [byteCell _ (192 + (p : Int) / 64) (by omega) (by omega), byteCell _ (128 + (p : Int) % 64) (by omega) (by omega)]
theorem enc_cells3 (p : Nat) (h1 : 2048 ≤ p) (h : p < 65536) : Lib.byteCells (U.enc p) = [.int .u8 (224 + (p : Int) / 4096), .int .u8 (128 + (p : Int) / 64 % 64), .int .u8 (128 + (p : Int) % 64)] := by
  unfold U.enc; rw [if_neg (by omega), if_neg (by omega), if_pos h]
  simp only [Lib.byteCells, List.map_cons, List.map_nil]
  rw [byteCell _ (224 + (p : Int) / 4096) (by omega) (by omega), byteCell _ (128 + (p : Int) / 64 % 64) (by omega) (by omega), byteCell _ (128 + (p : Int) % 64) (by omega) (by omega)]
theorem enc_cells4 (p : Nat) (h1 : 65536 ≤ p) (h : p ≤ 1114111) : Lib.byteCells (U.enc p) = [.int .u8 (240 + (p : Int) / 262144), .int .u8 (128 + (p : Int) / 4096 % 64), .int .u8 (128 + (p : Int) / 64 % 64), .int .u8 (128 + (p : Int) % 64)] := by
  unfold U.enc; rw [if_neg (by omega), if_neg (by omega), if_neg (by omega)]
  simp only [Lib.byteCells, List.map_cons, List.map_nil]
  rw [byteCell _ (240 + (p : Int) / 262144) (by omega) (by omega), byteCell _ (128 + (p : Int) / 4096 % 64) (by omega) (by omega), byteCell _ (128 + (p : Int) / 64 % 64) (by omega) (by omega), byteCell _ (128 + (p : Int) % 64) (by omega) (by omega)]
def EncPost (p : Nat) (B n : Nat) (xs : List Value) (w : World) (e : Ending) (w' : World) : Prop :=
  ∃ v', e = .returned v' ∧ Below B w w' ∧ w'.ownsRow B 5 1 v' (n + U.esize p) (xs ++ Lib.byteCells (U.enc p))
set_option maxRecDepth 100000 in
set_option maxHeartbeats 400000 in
theorem encode_1 (p : Nat) (B n : Nat) (v : Value) (xs : List Value) (w : World) (hp : p < 128) (hn : Hid (n ≤ 4294967296)) (hB : B ≤ w.heap.size) (hown : w.ownsRow B 5 1 v n xs) :
    Calls Tryd.prog 55 #[v, .int .i64 p] w (EncPost p B n xs w) := by
  obtain ⟨i0, hi, hz0, hz1, hz2⟩ := info_parts u8_info
  go_enter Tryd.func55, Tryd.ntmps55
  go_wp2_with (at_builtin; refine wpList_append_own _ rfl _ _ 76 rfl B 5 i0 (.int .u8 0) 1 1 Tryd.underlying76 hi hz0 hz1 hz2 rfl (by decide) _ _ _ rfl (hown.alloc _) ⟨w.heap.size, 0, none⟩ 1 1 [.int .u8 p] rfl rfl ?c1 ?c2 ?c3 ?c4 ?c5 ?_)
  case c1 =>
    intro j u hj
    match j, hj with
    | 0, hj => simp at hj; subst hj; simp [Addr.add]
  case c2 => intro u hu; simp at hu; rcases hu with rfl <;> rfl
  case c3 => have := hn.out; unfold maxLen; omega
  case c4 => have := hn.out; omega
  case c5 => simp; omega
  intro v' w1 hown' hgrow _
  have R := rel_appendN hB hown (Below.refl _ _) hgrow
  clear hgrow hown hi hz0 hz1 hz2
  go_wp2
  go_ret
  exact ⟨_, rfl, R, by rw [enc_cells1 p hp]; have hs : U.esize p = 1 := by { unfold U.esize; rw [if_pos hp] }
                       rw [hs]; exact hown'⟩
set_option maxRecDepth 100000 in
set_option maxHeartbeats 400000 in
theorem encode_2 (p : Nat) (B n : Nat) (v : Value) (xs : List Value) (w : World) (hp : p < 2048) (hp' : 128 ≤ p) (hn : Hid (n ≤ 4294967296)) (hB : B ≤ w.heap.size) (hown : w.ownsRow B 5 1 v n xs) :
    Calls Tryd.prog 55 #[v, .int .i64 p] w (EncPost p B n xs w) := by
  obtain ⟨i0, hi, hz0, hz1, hz2⟩ := info_parts u8_info
  go_enter Tryd.func55, Tryd.ntmps55
  go_wp2_with (at_builtin; refine wpList_append_own _ rfl _ _ 76 rfl B 5 i0 (.int .u8 0) 1 1 Tryd.underlying76 hi hz0 hz1 hz2 rfl (by decide) _ _ _ rfl (hown.alloc _) ⟨w.heap.size, 0, none⟩ 2 2 [.int .u8 (192 + (p : Int) / 64), .int .u8 (128 + (p : Int) % 64)] rfl rfl ?c1 ?c2 ?c3 ?c4 ?c5 ?_)
  case c1 =>
    intro j u hj
    match j, hj with
    | 0, hj => simp at hj; subst hj; simp [Addr.add]
    | 1, hj => simp at hj; subst hj; simp [Addr.add]
    | j + 2, hj => simp at hj
  case c2 => intro u hu; simp at hu; rcases hu with rfl | rfl <;> rfl
  case c3 => have := hn.out; unfold maxLen; omega
  case c4 => have := hn.out; omega
  case c5 => simp; omega
  intro v' w1 hown' hgrow _
  have R := rel_appendN hB hown (Below.refl _ _) hgrow
  clear hgrow hown hi hz0 hz1 hz2
  go_wp2
  go_ret
  exact ⟨_, rfl, R, by rw [enc_cells2 p hp' hp]; have hs : U.esize p = 2 := by { unfold U.esize; rw [if_neg (by omega), if_pos hp] }
                       rw [hs]; exact hown'⟩
set_option maxRecDepth 100000 in
set_option maxHeartbeats 400000 in
theorem encode_3 (p : Nat) (B n : Nat) (v : Value) (xs : List Value) (w : World) (hp : p < 65536) (hp' : 2048 ≤ p) (hn : Hid (n ≤ 4294967296)) (hB : B ≤ w.heap.size) (hown : w.ownsRow B 5 1 v n xs) :
    Calls Tryd.prog 55 #[v, .int .i64 p] w (EncPost p B n xs w) := by
  obtain ⟨i0, hi, hz0, hz1, hz2⟩ := info_parts u8_info
  have h1 : p / 4096 < 16 := by omega
  have h2 : p / 64 < 1024 := by omega
  go_enter Tryd.func55, Tryd.ntmps55
  go_upto_if 27 with fail
  refine wp_cond_true (show Value.bool (decide ((p : Int) < 65536)) = Value.bool true from congrArg Value.bool (decide_eq_true (by omega))) ?_
  go_wp2_with (at_builtin; refine wpList_append_own _ rfl _ _ 76 rfl B 5 i0 (.int .u8 0) 1 1 Tryd.underlying76 hi hz0 hz1 hz2 rfl (by decide) _ _ _ rfl (hown.alloc _) ⟨w.heap.size, 0, none⟩ 3 3 [.int .u8 (224 + (p : Int) / 4096), .int .u8 (128 + (p : Int) / 64 % 64), .int .u8 (128 + (p : Int) % 64)] rfl rfl ?c1 ?c2 ?c3 ?c4 ?c5 ?_)
  case c1 =>
    intro j u hj
    match j, hj with
    | 0, hj => simp at hj; subst hj; simp [Addr.add]
    | 1, hj => simp at hj; subst hj; simp [Addr.add]
    | 2, hj => simp at hj; subst hj; simp [Addr.add]
    | j + 3, hj => simp at hj
  case c2 => intro u hu; simp at hu; rcases hu with rfl | rfl | rfl <;> rfl
  case c3 => have := hn.out; unfold maxLen; omega
  case c4 => have := hn.out; omega
  case c5 => simp; omega
  intro v' w1 hown' hgrow _
  have R := rel_appendN hB hown (Below.refl _ _) hgrow
  clear hgrow hown hi hz0 hz1 hz2
  go_wp2
  go_ret
  exact ⟨_, rfl, R, by rw [enc_cells3 p hp' hp]; have hs : U.esize p = 3 := by { unfold U.esize; rw [if_neg (by omega), if_neg (by omega), if_pos hp] }
                       rw [hs]; exact hown'⟩
set_option maxRecDepth 100000 in
set_option maxHeartbeats 400000 in
theorem encode_4 (p : Nat) (B n : Nat) (v : Value) (xs : List Value) (w : World) (hp : p ≤ 1114111) (hp' : 65536 ≤ p) (hn : Hid (n ≤ 4294967296)) (hB : B ≤ w.heap.size) (hown : w.ownsRow B 5 1 v n xs) :
    Calls Tryd.prog 55 #[v, .int .i64 p] w (EncPost p B n xs w) := by
  obtain ⟨i0, hi, hz0, hz1, hz2⟩ := info_parts u8_info
  have h1 : p / 262144 < 5 := by omega
  go_enter Tryd.func55, Tryd.ntmps55
  go_upto_if 27 with fail
  refine wp_cond_false (show Value.bool (decide ((p : Int) < 65536)) = Value.bool false from congrArg Value.bool (decide_eq_false (by omega))) ?_
  go_wp2_with (at_builtin; refine wpList_append_own _ rfl _ _ 76 rfl B 5 i0 (.int .u8 0) 1 1 Tryd.underlying76 hi hz0 hz1 hz2 rfl (by decide) _ _ _ rfl (hown.alloc _) ⟨w.heap.size, 0, none⟩ 4 4 [.int .u8 (240 + (p : Int) / 262144), .int .u8 (128 + (p : Int) / 4096 % 64), .int .u8 (128 + (p : Int) / 64 % 64), .int .u8 (128 + (p : Int) % 64)] rfl rfl ?c1 ?c2 ?c3 ?c4 ?c5 ?_)
  case c1 =>
    intro j u hj
    match j, hj with
    | 0, hj => simp at hj; subst hj; simp [Addr.add]
    | 1, hj => simp at hj; subst hj; simp [Addr.add]
    | 2, hj => simp at hj; subst hj; simp [Addr.add]
    | 3, hj => simp at hj; subst hj; simp [Addr.add]
    | j + 4, hj => simp at hj
  case c2 => intro u hu; simp at hu; rcases hu with rfl | rfl | rfl | rfl <;> rfl
  case c3 => have := hn.out; unfold maxLen; omega
  case c4 => have := hn.out; omega
  case c5 => simp; omega
  intro v' w1 hown' hgrow _
  have R := rel_appendN hB hown (Below.refl _ _) hgrow
  clear hgrow hown hi hz0 hz1 hz2
  go_wp2
  go_ret
  exact ⟨_, rfl, R, by rw [enc_cells4 p hp' hp]; have hs : U.esize p = 4 := by { unfold U.esize; rw [if_neg (by omega), if_neg (by omega), if_neg (by omega)] }
                       rw [hs]; exact hown'⟩
theorem encode_any (p : Nat) (B n : Nat) (v : Value) (xs : List Value) (w : World) (hp : U.isPt p = true) (hn : n ≤ 4294967296) (hB : B ≤ w.heap.size) (hown : w.ownsRow B 5 1 v n xs) :
    Calls Tryd.prog 55 #[v, .int .i64 p] w (EncPost p B n xs w) := by
  rw [U.isPt_iff] at hp
  by_cases h1 : p < 128
  · exact encode_1 p B n v xs w h1 hn hB hown
  by_cases h2 : p < 2048
  · exact encode_2 p B n v xs w h2 (by omega) hn hB hown
  by_cases h3 : p < 65536
  · exact encode_3 p B n v xs w h3 (by omega) hn hB hown
  · exact encode_4 p B n v xs w hp.1 (by omega) hn hB hown
end Go.Proofs.YtdcdlmigagjbiaaDoor
/- The walk of Make. -/
namespace Go.Proofs.YtdcdlmigagjbiaaDoor
open Go.RowKit
def okI (l : List Int) : Bool := l.all isPtI
def encI (l : List Int) : List UInt8 := U.encs (l.map Int.toNat)
theorem encI_snoc (l : List Int) (k : Nat) (hk : k < l.length) : encI (l.take (k + 1)) = encI (l.take k) ++ U.enc (l.getD k 0).toNat := by
  rw [List.take_succ_eq_append_getElem hk]
  unfold encI
  rw [List.map_append, U.encs_append]
  congr 1
  simp [U.encs, List.getD, List.getElem?_eq_getElem hk]
theorem encI_len (l : List Int) (k : Nat) : (encI (l.take k)).length ≤ 4 * k := by
  have h : ∀ l : List Nat, (U.encs l).length ≤ 4 * l.length := by
    intro l
    induction l with
    | nil => simp [U.encs]
    | cons p ps ih => rw [U.encs_cons, List.length_append, U.enc_length, List.length_cons]; have := U.esize_pos p; omega
  have := h ((l.take k).map Int.toNat)
  have h2 := List.length_take_le k l
  rw [List.length_map] at this
  unfold encI; omega
theorem okI_snoc (l : List Int) (k : Nat) (hk : k < l.length) : okI (l.take (k + 1)) = (okI (l.take k) && isPtI (l.getD k 0)) := by
  rw [List.take_succ_eq_append_getElem hk]
  unfold okI
  rw [List.all_append]
  simp [List.getD, List.getElem?_eq_getElem hk]
theorem okI_no (l : List Int) (k : Nat) (hk : k < l.length) (h : isPtI (l.getD k 0) = false) : okI l = false := by
  unfold okI
  rw [List.all_eq_false]
  refine ⟨l[k], List.getElem_mem hk, ?_⟩
  rw [List.getD, List.getElem?_eq_getElem hk] at h
  simpa using h
/-- what Make returns -/
def makeP (l : List Int) : List UInt8 × Int := if okI l then (encI l, 0) else ([], 2)
theorem ret_make {l : List Int} {a : List UInt8} {b : Int} (h : makeP l = (a, b)) : Ending.returned (.tuple #[.string ⟨a.toArray⟩, .int .i64 b]) = .returned (.tuple #[.string ⟨(makeP l).1.toArray⟩, .int .i64 (makeP l).2]) := by rw [h]
theorem isPoint_at (p : Int) (b : Bool) (h : Hid (isPtI p = b)) (w : World) :
    Calls Tryd.prog 54 #[.int .i64 p] w fun e w' => e = .returned (.bool b) ∧ w = w' := by
  have := isPoint_any p w
  rw [h.out] at this
  exact this
set_option maxRecDepth 100000 in
set_option maxHeartbeats 400000 in
theorem make_any (v : Value) (l : List Int) (w : World) (hl : l.length ≤ 1000000000) (hv : Ints w v l) :
    Calls Tryd.prog 41 #[v] w fun e w' => e = .returned (.tuple #[.string ⟨(makeP l).1.toArray⟩, .int .i64 (makeP l).2]) ∧ Below w.heap.size w w' := by
  rcases hv.open with ⟨rfl, ao, cap, rfl⟩ | ⟨hpos, b, off, cap, rfl, _, _, hlt, hc⟩
  · have hconv := Lib.run_convert_nil_bytes (P := Tryd.prog) w 76 9 5 0 Tryd.underlying76 Tryd.underlying5 Tryd.underlying9
    go_enter Tryd.func41, Tryd.ntmps41
    go_wp2
    refine wp_loop_rounds 1 ?_
    rw [rounds_succ]
    go_wp2
    go_ret2
    exact ⟨ret_make (a := []) (b := 0) rfl, Below.refl _ _⟩
  · have hc' := Lib.hid hc
    clear hc hv
    go_enter Tryd.func41, Tryd.ntmps41
    go_wp2
    go_loopw [4, 9] (fun v i wr => ∃ k : Nat, k ≤ l.length ∧ i = .int .i64 k ∧ wr.ownsRow w.heap.size 5 1 v (encI (l.take k)).length (Lib.byteCells (encI (l.take k))) ∧ Below w.heap.size w wr ∧ okI (l.take k) = true) (fun _ i _ => l.length - (intOf i).toNat)
    case atStart => exact ⟨0, Nat.zero_le _, rfl, World.ownsRow_nil _ _ _ _, Below.refl _ _, rfl⟩
    case round =>
      obtain ⟨k, hk, rfl, hown, hbel, hok⟩ := hrel
      have Hok := Lib.hid hok
      clear hok
      have hln := encI_len l k
      have hsz := hbel.size
      by_cases hlk : k < l.length
      · have hcell : wr.cell? ⟨b, off + k, none⟩ = some (.int .i64 (l.getD k 0)) := (hbel.cell (p := ⟨b, off + k, none⟩) hlt).trans (hc'.out k hlk)
        have hes := Lib.hid (encI_snoc l k hlk)
        have hos := Lib.hid (okI_snoc l k hlk)
        obtain ⟨c, hp⟩ : ∃ c, isPtI (l.getD k 0) = c := ⟨_, rfl⟩
        have hno := fun h => Lib.hid (okI_no l k hlk h)
        generalize l.getD k 0 = z at hcell hes hos hp hno
        have Hp := Lib.hid hp
        cases c
        · have hno' := hno hp
          clear hp hno
          go_wp2_with ((go_at_call 54; (with_reducible refine (isPoint_at _ _ Hp _).mono ?_); rintro e w' ⟨rfl, rfl⟩))
          go_ret2
          exact ⟨ret_make (a := []) (b := 2) (by unfold makeP; rw [hno'.out]; rfl), hbel⟩
        · clear hp hno
          obtain ⟨p, rfl⟩ : ∃ p : Nat, z = p := ⟨z.toNat, by have := (isPtI_iff z).1 Hp.out; omega⟩
          have hpt := Lib.hid (show U.isPt p = true by have := Hp.out; unfold isPtI at this; simpa using this)
          have hp4 := U.esize_pos p
          go_wp2_with (first
            | (go_at_call 54; (with_reducible refine (isPoint_at _ _ Hp _).mono ?_); rintro e w' ⟨rfl, rfl⟩)
            | (go_at_call 55; (with_reducible refine (encode_any p w.heap.size _ _ _ wr hpt.out (by omega) hsz hown).mono ?_); rintro e w1 ⟨v', rfl, hb1, hown1⟩))
          go_roundw
          case rel =>
            refine ⟨k + 1, by omega, by go_num, ?_, hbel.trans hb1, by rw [hos.out, Hok.out, Hp.out]; rfl⟩
            rw [hes.out, List.length_append, U.enc_length, show ((p : Int)).toNat = p from Int.toNat_natCast p]
            have : Lib.byteCells (encI (l.take k) ++ U.enc p) = Lib.byteCells (encI (l.take k)) ++ Lib.byteCells (U.enc p) := by simp [Lib.byteCells]
            rw [this]
            exact hown1
          case measure => simp [intOf]; omega
      · have ht := Lib.hid (show l.take k = l from List.take_of_length_le (by omega))
        have hconv := conv_owned (P := Tryd.prog) Tryd.underlying76 Tryd.underlying5 Tryd.underlying9 hown
        clear hown
        go_wp2
        go_ret2
        exact ⟨ret_make (a := encI (l.take k)) (b := 0) (by have h1 := ht.out; have h2 := Hok.out; rw [h1] at h2; rw [h1]; unfold makeP; rw [h2]; rfl), hbel⟩
end Go.Proofs.YtdcdlmigagjbiaaDoor
/- The walks of Offset, Unit, Slice. -/
namespace Go.Proofs.YtdcdlmigagjbiaaDoor
open Go.RowKit
def begN (l : List UInt8) : List Nat := headPos 0 l ++ [l.length]
theorem beginsP_eq (l : List UInt8) : beginsP l = (begN l).map fun p => ((p : Nat) : Int) := by
  unfold beginsP begN posI; simp
theorem beginsP_len (l : List UInt8) : (beginsP l).length = (begN l).length := by rw [beginsP_eq]; simp
theorem beginsP_get (l : List UInt8) (i : Nat) : (beginsP l).getD i 0 = (((begN l).getD i 0 : Nat) : Int) := by
  rw [beginsP_eq, List.getD, List.getD, List.getElem?_map]
  cases (begN l)[i]? <;> rfl
theorem headPos_low (l : List UInt8) : ∀ i, ∀ x ∈ headPos i l, i ≤ x ∧ x < i + l.length := by
  induction l with
  | nil => intro i x h; simp [headPos] at h
  | cons c l ih =>
    intro i x h
    rw [List.length_cons]
    simp only [headPos] at h
    by_cases hc : isHead c = true
    · rw [if_pos hc] at h
      rcases List.mem_cons.1 h with h | h
      · omega
      · have := ih _ _ h; omega
    · rw [if_neg hc] at h
      have := ih _ _ h; omega
theorem headPos_sorted (l : List UInt8) : ∀ i, List.Pairwise (· < ·) (headPos i l) := by
  induction l with
  | nil => intro i; simp [headPos]
  | cons c l ih =>
    intro i
    simp only [headPos]
    by_cases hc : isHead c = true
    · rw [if_pos hc, List.pairwise_cons]
      exact ⟨fun x hx => by have := headPos_low l _ x hx; omega, ih _⟩
    · rw [if_neg hc]; exact ih _
theorem begN_sorted (l : List UInt8) : List.Pairwise (· < ·) (begN l) := by
  unfold begN
  rw [List.pairwise_append]
  refine ⟨headPos_sorted l 0, List.pairwise_singleton _ _, fun x hx y hy => ?_⟩
  rw [List.mem_singleton] at hy
  have := headPos_low l 0 x hx
  omega
theorem begN_le (l : List UInt8) (i : Nat) (h : i < (begN l).length) : (begN l).getD i 0 ≤ l.length := by
  rw [List.getD, List.getElem?_eq_getElem h]
  have hm := List.getElem_mem h
  generalize (begN l)[i] = x at hm
  unfold begN at hm
  rcases List.mem_append.1 hm with h | h
  · have := headPos_low l 0 x h; simp; omega
  · rw [List.mem_singleton] at h; simp; omega
theorem begN_mono (l : List UInt8) (i j : Nat) (hij : i ≤ j) (h : j < (begN l).length) : (begN l).getD i 0 ≤ (begN l).getD j 0 := by
  rcases Nat.lt_or_eq_of_le hij with hlt | rfl
  · have := List.pairwise_iff_getElem.1 (begN_sorted l) i j (by omega) h hlt
    rw [List.getD, List.getD, List.getElem?_eq_getElem h, List.getElem?_eq_getElem (by omega)]
    simp; omega
  · exact Nat.le_refl _
theorem begN_len (s : ByteArray) : (begN s.data.toList).length ≤ s.size + 1 := by
  unfold begN
  have := headPos_len s.data.toList 0
  rw [List.length_append]
  simp at this ⊢; omega

/-- what Offset returns -/
def offP (l : List UInt8) (u : Int) : Int × Int := if (U.bad l).isEmpty then (if u < 0 ∨ ((begN l).length : Int) ≤ u then (0, 2) else ((((begN l).getD u.toNat 0 : Nat) : Int), (0 : Int))) else (0, 12)
theorem ret_off {t : Int × Int} {a b : Int} (h : t = (a, b)) : Ending.returned (.tuple #[.int .i64 a, .int .i64 b]) = .returned (.tuple #[.int .i64 t.1, .int .i64 t.2]) := by rw [h]
/-- the row that begins hands back, opened -/
theorem begins_at (s : ByteArray) (hs : s.size ≤ 4294967296) (w : World) :
    Calls Tryd.prog 49 #[.string s] w fun e w' => ∃ b off cap : Nat, e = .returned (.slice (some ⟨b, off, none⟩) (begN s.data.toList).length cap) ∧ Below w.heap.size w w' ∧ (begN s.data.toList).length ≤ cap ∧ cap ≤ maxLen ∧ w.heap.size ≤ w'.heap.size ∧
      ∀ j, j < (begN s.data.toList).length → w'.cell? ⟨b, off + j, none⟩ = some (.int .i64 (((begN s.data.toList).getD j 0 : Nat) : Int)) := by
  refine (begins_any s hs w).mono fun e w' h => ?_
  obtain ⟨v, rfl, hb, hown⟩ := h
  have hI := Ints.of_owns hown
  rcases hI.open with ⟨h0, _⟩ | ⟨_, b, off, cap, rfl, h1, h2, _, hc⟩
  · exact absurd h0 (by unfold beginsP; simp)
  · rw [beginsP_len] at h1 hc ⊢
    exact ⟨b, off, cap, rfl, hb, h1, h2, hb.size, fun j hj => by rw [hc j hj, beginsP_get]⟩
set_option maxRecDepth 100000 in
set_option maxHeartbeats 400000 in
theorem offset_any (s : ByteArray) (u : Int) (hs : s.size ≤ 4294967296) (w : World) :
    Calls Tryd.prog 36 #[.string s, .int .i64 u] w fun e w' => e = .returned (.tuple #[.int .i64 (offP s.data.toList u).1, .int .i64 (offP s.data.toList u).2]) ∧ Below w.heap.size w w' := by
  obtain ⟨b, hb⟩ : ∃ b, (U.bad s.data.toList).isEmpty = b := ⟨_, rfl⟩
  have Hb := Lib.hid hb
  clear hb
  cases b
  · have hx := Lib.hid (show offP s.data.toList u = (0, 12) by unfold offP; rw [Hb.out]; rfl)
    go_enter Tryd.func36, Tryd.ntmps36
    go_wp2_with ((go_at_call 23; (with_reducible refine (valid_at s _ hs Hb _).mono ?_); rintro e w' ⟨rfl, rfl⟩))
    go_ret2
    exact ⟨ret_off hx.out, Below.refl _ _⟩
  · have hx := Lib.hid (show offP s.data.toList u = if u < 0 ∨ ((begN s.data.toList).length : Int) ≤ u then (0, 2) else ((((begN s.data.toList).getD u.toNat 0 : Nat) : Int), (0 : Int)) by unfold offP; rw [Hb.out]; rfl)
    have hlen := begN_len s
    have hle := begN_le s.data.toList
    have hba := Lib.hid (begins_at s hs w)
    have hbl := Lib.hid (fun i h => begN_le s.data.toList i h)
    clear hle
    generalize begN s.data.toList = L at hx hlen hba hbl
    rcases (by omega : u < 0 ∨ (0 ≤ u ∧ (L.length : Int) ≤ u) ∨ (0 ≤ u ∧ u < L.length)) with h | ⟨h, h'⟩ | ⟨h, h'⟩
    · have hx := Lib.hid (hx.out.trans (if_pos (Or.inl h)))
      go_enter Tryd.func36, Tryd.ntmps36
      go_wp2_with (first
        | (go_at_call 23; (with_reducible refine (valid_at s _ hs Hb _).mono ?_); rintro e w' ⟨rfl, rfl⟩)
        | (go_at_call 49; (with_reducible refine hba.out.mono ?_); rintro e w1 ⟨b, off, cap, rfl, hb1, hc1, hc2, hsz, hcells⟩; have Hcells := Lib.hid hcells; clear hcells))
      go_ret2
      exact ⟨ret_off hx.out, hb1⟩
    · have hx := Lib.hid (hx.out.trans (if_pos (Or.inr h')))
      go_enter Tryd.func36, Tryd.ntmps36
      go_wp2_with (first
        | (go_at_call 23; (with_reducible refine (valid_at s _ hs Hb _).mono ?_); rintro e w' ⟨rfl, rfl⟩)
        | (go_at_call 49; (with_reducible refine hba.out.mono ?_); rintro e w1 ⟨b, off, cap, rfl, hb1, hc1, hc2, hsz, hcells⟩; have Hcells := Lib.hid hcells; clear hcells))
      go_ret2
      exact ⟨ret_off hx.out, hb1⟩
    · obtain ⟨k, rfl⟩ := Int.eq_ofNat_of_zero_le h
      have hk : k < L.length := by omega
      obtain ⟨x, hxk⟩ : ∃ x, L.getD k 0 = x := ⟨_, rfl⟩
      have Hxk := Lib.hid hxk
      clear hxk
      have hx := Lib.hid (hx.out.trans (if_neg (by omega)))
      go_enter Tryd.func36, Tryd.ntmps36
      go_wp2_with (first
        | (go_at_call 23; (with_reducible refine (valid_at s _ hs Hb _).mono ?_); rintro e w' ⟨rfl, rfl⟩)
        | (go_at_call 49; (with_reducible refine hba.out.mono ?_); rintro e w1 ⟨b, off, cap, rfl, hb1, hc1, hc2, hsz, hcells⟩; have hcell := hcells k hk; rw [Hxk.out] at hcell; clear hcells))
      go_ret2
      exact ⟨ret_off (by rw [hx.out, Int.toNat_natCast, Hxk.out]), hb1⟩

/-- what Unit returns -/
def unitP (l : List UInt8) (o : Int) : Nat × Nat :=
  if (U.bad l).isEmpty then (if o < 0 ∨ (l.length : Int) < o ∨ (o < l.length ∧ ((l[o.toNat]?).map isHead) = some false) then (0, 2) else countP (l.take o.toNat)) else (0, 12)
theorem ret_unit {t : Nat × Nat} {a b : Nat} (h : t = (a, b)) : Ending.returned (.tuple #[.int .i64 a, .int .i64 b]) = .returned (.tuple #[.int .i64 t.1, .int .i64 t.2]) := by rw [h]
theorem extract_take (s : ByteArray) (k : Nat) : (s.extract 0 k).data.toList = s.data.toList.take k := by
  rw [Lib.extract_data, List.drop_zero, Nat.sub_zero]
theorem count_at (s : ByteArray) (t : Nat × Nat) (hs : s.size ≤ 4294967296) (h : Hid (countP s.data.toList = t)) (w : World) :
    Calls Tryd.prog 34 #[.string s] w fun e w' => e = .returned (.tuple #[.int .i64 t.1, .int .i64 t.2]) ∧ w = w' := by
  have := count_any s hs w
  rw [h.out] at this
  exact this
end Go.Proofs.YtdcdlmigagjbiaaDoor
/- The plain laws behind the statements of layer 1: heads and offsets of encodings. No program is walked here. -/
namespace Go.Proofs.YtdcdlmigagjbiaaDoor
theorem isHead_low (n : Nat) (h : n < 128) : isHead (UInt8.ofNat n) = true := by
  unfold isHead; rw [U.toNat_ofNat_lt n (by omega)]; simp; omega
theorem isHead_high (n : Nat) (h : 192 ≤ n) (h' : n < 256) : isHead (UInt8.ofNat n) = true := by
  unfold isHead; rw [U.toNat_ofNat_lt n h']; simp; omega
theorem isHead_cont (n : Nat) (h : n < 64) : isHead (UInt8.ofNat (128 + n)) = false := by
  unfold isHead; rw [U.toNat_ofNat_lt (128 + n) (by omega)]; simp; omega
/-- an encoding has one head, its first byte -/
theorem headPos_enc (p : Nat) (hp : U.isPt p = true) (i : Nat) : headPos i (U.enc p) = [i] := by
  rw [U.isPt_iff] at hp
  unfold U.enc
  by_cases h1 : p < 128
  · rw [if_pos h1]; simp only [headPos]; rw [isHead_low p h1]; rfl
  rw [if_neg h1]
  by_cases h2 : p < 2048
  · rw [if_pos h2]; simp only [headPos]; rw [isHead_high _ (by omega) (by omega), isHead_cont _ (by omega)]; rfl
  rw [if_neg h2]
  by_cases h3 : p < 65536
  · rw [if_pos h3]; simp only [headPos]; rw [isHead_high _ (by omega) (by omega), isHead_cont _ (by omega), isHead_cont _ (by omega)]; rfl
  rw [if_neg h3]; simp only [headPos]; rw [isHead_high _ (by omega) (by omega), isHead_cont _ (by omega), isHead_cont _ (by omega), isHead_cont _ (by omega)]; rfl
theorem headPos_append (a b : List UInt8) : ∀ i, headPos i (a ++ b) = headPos i a ++ headPos (i + a.length) b := by
  induction a with
  | nil => intro i; simp [headPos]
  | cons c a ih =>
    intro i
    simp only [List.cons_append, headPos, ih, List.length_cons]
    rw [show i + 1 + a.length = i + (a.length + 1) from by omega]
    cases isHead c <;> simp
theorem heads_pos (l : List UInt8) : ∀ i, heads l = (headPos i l).length := by
  induction l with
  | nil => intro i; rfl
  | cons c l ih =>
    intro i
    unfold heads at ih ⊢
    simp only [headPos, List.filter_cons]
    cases isHead c
    · simpa using ih (i + 1)
    · simp; exact ih (i + 1)
def offs : Nat → List Nat → List Nat
  | _, [] => []
  | i, p :: ps => i :: offs (i + U.esize p) ps
theorem headPos_encs (ps : List Nat) (h : ∀ p ∈ ps, U.isPt p = true) : ∀ i, headPos i (U.encs ps) = offs i ps := by
  induction ps with
  | nil => intro i; rfl
  | cons p ps ih =>
    intro i
    rw [U.encs_cons, headPos_append, headPos_enc p (h p (List.mem_cons_self ..)), U.enc_length, ih (fun q hq => h q (List.mem_cons_of_mem _ hq))]
    rfl
theorem offs_length (ps : List Nat) : ∀ i, (offs i ps).length = ps.length := by
  induction ps with
  | nil => intro i; rfl
  | cons p ps ih => intro i; simp [offs, ih]
theorem offs_get (ps : List Nat) : ∀ (i k : Nat), k < ps.length → (offs i ps).getD k 0 = i + (U.encs (ps.take k)).length := by
  induction ps with
  | nil => intro i k h; simp at h
  | cons p ps ih =>
    intro i k h
    match k with
    | 0 => simp [offs, U.encs]
    | k + 1 =>
      rw [List.length_cons] at h
      have := ih (i + U.esize p) k (by omega)
      simp only [offs, List.getD_cons_succ, List.take_succ_cons, U.encs_cons, List.length_append, U.enc_length]
      omega
/-- the offsets at which the units of a string begin, of a string made of encodings -/
theorem begN_encs (ps : List Nat) (h : ∀ p ∈ ps, U.isPt p = true) : (begN (U.encs ps)).length = ps.length + 1 ∧ ∀ k, k ≤ ps.length → (begN (U.encs ps)).getD k 0 = (U.encs (ps.take k)).length := by
  unfold begN
  rw [headPos_encs ps h]
  refine ⟨by simp [offs_length], fun k hk => ?_⟩
  rcases Nat.lt_or_eq_of_le hk with hlt | rfl
  · rw [List.getD_eq_getElem?_getD, List.getElem?_append_left (by rw [offs_length]; exact hlt), ← List.getD_eq_getElem?_getD, offs_get ps 0 k hlt, Nat.zero_add]
  · rw [List.getD_eq_getElem?_getD, List.getElem?_append_right (by rw [offs_length]; exact Nat.le_refl _), offs_length, Nat.sub_self, List.take_of_length_le (Nat.le_refl _)]
    rfl
theorem heads_encs (ps : List Nat) (h : ∀ p ∈ ps, U.isPt p = true) : heads (U.encs ps) = ps.length := by
  rw [heads_pos _ 0, headPos_encs ps h, offs_length]
theorem toNat_map (ps : List Nat) : (ps.map fun p => ((p : Nat) : Int)).map Int.toNat = ps := by
  rw [List.map_map]; conv => rhs; rw [← List.map_id ps]
  exact List.map_congr_left fun p _ => by simp
theorem encI_pts (l : List UInt8) : encI (ptsI l) = U.encs (U.pts l) := by unfold encI ptsI; rw [toNat_map]
theorem okI_map (ps : List Nat) (h : ∀ p ∈ ps, U.isPt p = true) : okI (ps.map fun p => ((p : Nat) : Int)) = true := by
  unfold okI
  rw [List.all_eq_true]
  intro x hx
  obtain ⟨p, hp, rfl⟩ := List.mem_map.1 hx
  unfold isPtI
  simpa using h p hp
theorem okI_pts (l : List UInt8) : okI (ptsI l) = true := okI_map _ (U.pts_ok l)
/-- Make leads back from Points -/
theorem makeP_pts (l : List UInt8) (h : (U.bad l).isEmpty = true) : makeP (ptsI l) = (l, 0) := by
  unfold makeP
  rw [okI_pts, encI_pts, ← U.of_valid l (by simpa using h)]
  rfl
theorem countP_valid (l : List UInt8) (h : (U.bad l).isEmpty = true) : countP l = ((ptsI l).length, 0) := by
  unfold countP
  rw [h]
  have hl := U.of_valid l (by simpa using h)
  have : heads l = (ptsI l).length := by
    conv => lhs; rw [hl]
    rw [heads_encs _ (U.pts_ok l)]
    simp [ptsI]
  rw [this]; rfl
theorem countP_bad (l : List UInt8) (h : (U.bad l).isEmpty = false) : countP l = (0, 12) := by unfold countP; rw [h]; rfl
/-- of numbers that are all code points: Points leads back from Make -/
theorem map_toNat (l : List Int) (h : okI l = true) : (l.map Int.toNat).map (fun p => ((p : Nat) : Int)) = l ∧ ∀ p ∈ l.map Int.toNat, U.isPt p = true := by
  unfold okI at h
  rw [List.all_eq_true] at h
  constructor
  · rw [List.map_map]; conv => rhs; rw [← List.map_id l]
    refine List.map_congr_left fun x hx => ?_
    have := (isPtI_iff x).1 (h x hx)
    simp; omega
  · intro p hp
    obtain ⟨x, hx, rfl⟩ := List.mem_map.1 hp
    have := h x hx
    unfold isPtI at this
    simp only [Bool.and_eq_true] at this
    exact this.2
theorem pts_make (l : List Int) (h : okI l = true) : ptsI (encI l) = l ∧ (U.bad (encI l)).isEmpty = true := by
  obtain ⟨h1, h2⟩ := map_toNat l h
  obtain ⟨h3, h4⟩ := U.scan_of _ h2
  unfold ptsI encI
  rw [h3, h4]
  exact ⟨h1, rfl⟩
end Go.Proofs.YtdcdlmigagjbiaaDoor
/- The walks of same, of both IsName and of both Fold. -/
namespace Go.Proofs.YtdcdlmigagjbiaaDoor
open Go.RowKit
theorem same_step (la lb : List Int) (k : Nat) (h1 : la.length = lb.length) (hk : k < la.length) (hp : la.take k = lb.take k) : la.take (k + 1) = lb.take (k + 1) ↔ la.getD k 0 = lb.getD k 0 := by
  have e1 : la.getD k 0 = la[k] := by simp [List.getD, List.getElem?_eq_getElem hk]
  have hk2 : k < lb.length := by omega
  have e2 : lb.getD k 0 = lb[k] := by simp [List.getD, List.getElem?_eq_getElem hk2]
  rw [e1, e2, List.take_succ_eq_append_getElem hk, List.take_succ_eq_append_getElem hk2, hp]
  constructor
  · intro h
    have := List.append_cancel_left h
    simpa using this
  · intro h; rw [h]
theorem same_end (la lb : List Int) (k : Nat) (h1 : la.length = lb.length) (hk : la.length ≤ k) (hp : la.take k = lb.take k) : la = lb := by
  rw [List.take_of_length_le hk, List.take_of_length_le (by omega)] at hp; exact hp
def SamePost (la lb : List Int) (w : World) (e : Ending) (w' : World) : Prop := e = .returned (.bool (la == lb)) ∧ Below w.heap.size w w'
theorem ret_bool {a b : Bool} (h : a = b) : Ending.returned (.bool b) = .returned (.bool a) := by rw [h]
set_option maxRecDepth 100000 in
set_option maxHeartbeats 800000 in
theorem same_any (va vb : Value) (la lb : List Int) (w : World) (hla : la.length ≤ 1000000000) (hlb : lb.length ≤ 1000000000) (ha : Ints w va la) (hb : Ints w vb lb) :
    Calls Tryd.prog 28 #[va, vb] w (SamePost la lb w) := by
  by_cases hne : la.length = lb.length
  · rcases ha.open with ⟨rfl, ao, cap, rfl⟩ | ⟨hpos, b, off, cap, rfl, _, _, hlt, hc⟩
    · have : lb = [] := List.length_eq_zero_iff.1 hne.symm
      subst this
      obtain ⟨bo, cap2, rfl⟩ := hb.shape
      clear ha hb hne
      go_enter Tryd.func28, Tryd.ntmps28
      go_wp2
      refine wp_loop_rounds 1 ?_
      rw [rounds_succ]
      go_wp2
      go_ret
      exact ⟨rfl, Below.refl _ _⟩
    · rcases hb.open with ⟨rfl, bo, cap2, rfl⟩ | ⟨_, b2, off2, cap2, rfl, _, _, hlt2, hc2⟩
      · simp at hne; subst hne; simp at hpos
      have hc' := Lib.hid hc
      have hc2' := Lib.hid hc2
      have Hne := Lib.hid hne
      have hle : lb.length = la.length := hne.symm
      rw [hle] at hlb ⊢
      clear hc hc2 ha hb hne hle
      go_enter Tryd.func28, Tryd.ntmps28
      go_wp2
      go_loopw [5] (fun i wr => ∃ k : Nat, k ≤ la.length ∧ i = .int .i64 k ∧ la.take k = lb.take k ∧ Below w.heap.size w wr) (fun i _ => la.length - (intOf i).toNat)
      case atStart => exact ⟨0, Nat.zero_le _, rfl, rfl, Below.refl _ _⟩
      case round =>
        obtain ⟨k, hk, rfl, hp, hbel⟩ := hrel
        have Hp := Lib.hid hp
        clear hp
        by_cases hlk : k < la.length
        · have hcell : wr.cell? ⟨b, off + k, none⟩ = some (.int .i64 (la.getD k 0)) := (hbel.cell (p := ⟨b, off + k, none⟩) hlt).trans (hc'.out k hlk)
          have hcell2 : wr.cell? ⟨b2, off2 + k, none⟩ = some (.int .i64 (lb.getD k 0)) := (hbel.cell (p := ⟨b2, off2 + k, none⟩) hlt2).trans (hc2'.out k (by have := Hne.out; omega))
          have hst := Lib.hid (same_step la lb k Hne.out hlk Hp.out)
          have hno : ¬ (la.getD k 0 = lb.getD k 0) → Hid ((la == lb) = false) := fun h => Lib.hid (by rw [beq_eq_false_iff_ne]; intro e; exact h (by rw [e]))
          generalize la.getD k 0 = x at hcell hst hno
          generalize lb.getD k 0 = y at hcell2 hst hno
          obtain ⟨c, hcq⟩ : ∃ c, (x != y) = c := ⟨_, rfl⟩
          cases c
          · have hxy : x = y := by simpa using hcq
            have hst2 := Lib.hid (hst.out.2 hxy)
            clear hno hst hxy
            go_wp2
            go_quiet (fail)
            go_wp2
            go_roundw
            case rel => exact ⟨k + 1, by omega, by go_num, hst2.out, below_drewN hbel _⟩
            case measure => simp [intOf]; omega
          · have hno' := hno (by simpa using hcq)
            clear hno hst
            go_wp2
            go_quiet (fail)
            go_wp2
            go_ret
            exact ⟨ret_bool hno'.out, below_drewN hbel _⟩
        · have he := Lib.hid (show (la == lb) = true by rw [beq_iff_eq]; exact same_end la lb k Hne.out (by omega) Hp.out)
          go_wp2
          go_ret
          exact ⟨ret_bool he.out, hbel⟩
  · have he := Lib.hid (show (la == lb) = false by rw [beq_eq_false_iff_ne]; intro e; exact hne (by rw [e]))
    obtain ⟨ao, cap, rfl⟩ := ha.shape
    obtain ⟨bo, cap2, rfl⟩ := hb.shape
    have hq : (((la.length : Nat) : Int) != (lb.length : Int)) = true := by rw [bne_iff_ne]; omega
    clear ha hb hne
    go_enter Tryd.func28, Tryd.ntmps28
    go_wp2
    go_ret
    exact ⟨ret_bool he.out, Below.refl _ _⟩

def isLet (c : UInt8) : Bool := (decide (65 ≤ c.toNat) && decide (c.toNat ≤ 90)) || (decide (97 ≤ c.toNat) && decide (c.toNat ≤ 122))
def isOth (c : UInt8) : Bool := (decide (48 ≤ c.toNat) && decide (c.toNat ≤ 57)) || decide (c.toNat = 45) || decide (c.toNat = 95)
def nameGo : Nat → List UInt8 → Bool
  | _, [] => true
  | i, c :: r => (isLet c || (decide (0 < i) && isOth c)) && nameGo (i + 1) r
/-- what IsName returns -/
def nameP (l : List UInt8) : Bool := nameGo 0 l && (decide (1 ≤ l.length) && decide (l.length ≤ 40))
theorem name_step (s : ByteArray) (k : Nat) (hk : k < s.size) : nameGo k (s.data.toList.drop k) = ((isLet s[k] || (decide (0 < k) && isOth s[k])) && nameGo (k + 1) (s.data.toList.drop (k + 1))) := by
  rw [List.drop_eq_getElem_cons (by simpa using hk)]; rfl
theorem u8_or32 (c : UInt8) : bits .or .u8 (c.toNat : Int) 32 = ((c.toNat ||| 32 : Nat) : Int) := by
  have h : ∀ n : Fin 256, bits .or .u8 (n.val : Int) 32 = ((n.val ||| 32 : Nat) : Int) := by decide +kernel
  exact h ⟨c.toNat, UInt8.toNat_lt c⟩
theorem or32 (c : UInt8) : (c.toNat < 65 → c.toNat ||| 32 ≤ 96) ∧ (65 ≤ c.toNat → c.toNat ≤ 90 → 97 ≤ c.toNat ||| 32 ∧ c.toNat ||| 32 ≤ 122) ∧ (91 ≤ c.toNat → c.toNat ≤ 95 → 123 ≤ c.toNat ||| 32) ∧ (c.toNat = 96 → c.toNat ||| 32 ≤ 96) ∧ (97 ≤ c.toNat → c.toNat ≤ 122 → 97 ≤ c.toNat ||| 32 ∧ c.toNat ||| 32 ≤ 122) ∧ (123 ≤ c.toNat → 123 ≤ c.toNat ||| 32) := by
  have h : ∀ n : Fin 256, (n.val < 65 → n.val ||| 32 ≤ 96) ∧ (65 ≤ n.val → n.val ≤ 90 → 97 ≤ n.val ||| 32 ∧ n.val ||| 32 ≤ 122) ∧ (91 ≤ n.val → n.val ≤ 95 → 123 ≤ n.val ||| 32) ∧ (n.val = 96 → n.val ||| 32 ≤ 96) ∧ (97 ≤ n.val → n.val ≤ 122 → 97 ≤ n.val ||| 32 ∧ n.val ||| 32 ≤ 122) ∧ (123 ≤ n.val → 123 ≤ n.val ||| 32) := by decide +kernel
  exact h ⟨c.toNat, UInt8.toNat_lt c⟩
theorem nameP_long (s : ByteArray) (h : s.size < 1 ∨ 40 < s.size) : nameP s.data.toList = false := by
  have : s.data.toList.length = s.size := by simp
  unfold nameP
  rcases h with h | h
  · rw [show decide (1 ≤ s.data.toList.length) = false from decide_eq_false (by omega)]; simp
  · rw [show decide (s.data.toList.length ≤ 40) = false from decide_eq_false (by omega)]; simp
theorem nameP_short (s : ByteArray) (h : 1 ≤ s.size) (h' : s.size ≤ 40) : nameP s.data.toList = nameGo 0 s.data.toList := by
  have : s.data.toList.length = s.size := by simp
  unfold nameP
  rw [show decide (1 ≤ s.data.toList.length) = true from decide_eq_true (by omega), show decide (s.data.toList.length ≤ 40) = true from decide_eq_true (by omega)]; simp
end Go.Proofs.YtdcdlmigagjbiaaDoor
/- The walks of both Fold. -/
namespace Go.Proofs.YtdcdlmigagjbiaaDoor
open Go.RowKit
/-- a new block of bytes, as '[]byte(s)' lays it, holds the bytes of s, none of them frozen -/
theorem bytes_made (w : World) (s : ByteArray) (cap e : Nat) :
    (∀ j (hj : j < s.size), (w.drew.alloc (.cells (bytesRow s cap) e ((bytesRow s cap).size, (bytesRow s cap).size + 1))).cell? ⟨w.heap.size, j, none⟩ = some (.int .u8 s[j].toNat)) ∧
    (∀ j, j < s.size → (w.drew.alloc (.cells (bytesRow s cap) e ((bytesRow s cap).size, (bytesRow s cap).size + 1))).frozen? ⟨w.heap.size, j, none⟩ = false) ∧
    Below w.heap.size w (w.drew.alloc (.cells (bytesRow s cap) e ((bytesRow s cap).size, (bytesRow s cap).size + 1))) := by
  have hrow : (w.drew.alloc (.cells (bytesRow s cap) e ((bytesRow s cap).size, (bytesRow s cap).size + 1))).heap[w.heap.size]? = some (.cells (bytesRow s cap) e ((bytesRow s cap).size, (bytesRow s cap).size + 1)) := by
    show (w.heap.push _)[w.heap.size]? = _
    simp
  have hsz : (bytesRow s cap).size = s.size + (cap - s.size) := by unfold bytesRow; simp
  refine ⟨fun j hj => ?_, fun j hj => ?_, ((Below.refl _ _).drew).alloc (Nat.le_refl _) _⟩
  · rw [Lib.cell_of_heap hrow]
    unfold bytesRow
    rw [Array.getElem?_append_left (by simpa using hj)]
    simp [hj]
    rfl
  · unfold World.frozen?
    rw [hrow]
    simp; omega
def fold1 (c : UInt8) : UInt8 := if 65 ≤ c.toNat ∧ c.toNat ≤ 90 then UInt8.ofNat (c.toNat + 32) else c
def foldK (l : List UInt8) (k : Nat) : List UInt8 := (l.take k).map fold1 ++ l.drop k
theorem foldK_len (l : List UInt8) (k : Nat) : (foldK l k).length = l.length := by unfold foldK; rw [List.length_append, List.length_map, List.length_take, List.length_drop]; omega
theorem foldK_ge (l : List UInt8) (k j : Nat) (hkj : k ≤ j) : (foldK l k)[j]? = l[j]? := by
  unfold foldK
  rcases Nat.lt_or_ge k l.length with hk | hk
  · rw [List.getElem?_append_right (by rw [List.length_map, List.length_take]; omega), List.length_map, List.length_take, List.getElem?_drop]
    congr 1; omega
  · rw [List.getElem?_append_right (by rw [List.length_map, List.length_take]; omega), List.length_map, List.length_take, List.getElem?_drop]
    rw [List.getElem?_eq_none (by omega), List.getElem?_eq_none (by omega)]
theorem foldK_succ (l : List UInt8) (k : Nat) (hk : k < l.length) (j : Nat) (hj : j ≠ k) : (foldK l (k + 1))[j]? = (foldK l k)[j]? := by
  rcases Nat.lt_or_ge j k with h | h
  · unfold foldK
    rw [List.getElem?_append_left (by rw [List.length_map, List.length_take]; omega), List.getElem?_append_left (by rw [List.length_map, List.length_take]; omega)]
    simp [show j < k by omega, show j < k + 1 by omega]
  · rw [foldK_ge l k j h, foldK_ge l (k + 1) j (by omega)]
theorem foldK_at (l : List UInt8) (k : Nat) (hk : k < l.length) : (foldK l (k + 1))[k]? = some (fold1 l[k]) := by
  unfold foldK
  rw [List.getElem?_append_left (by rw [List.length_map, List.length_take]; omega)]
  simp [List.getElem?_eq_getElem hk]
theorem fold1_let (c : UInt8) (h : 65 ≤ c.toNat) (h' : c.toNat ≤ 90) : ((fold1 c).toNat : Int) = (c.toNat : Int) + 32 ∧ bits .or .u8 (c.toNat : Int) 32 = ((fold1 c).toNat : Int) := by
  have h1 : fold1 c = UInt8.ofNat (c.toNat + 32) := by unfold fold1; rw [if_pos ⟨h, h'⟩]
  rw [u8_or32, h1, U.toNat_ofNat_lt _ (by omega)]
  have h2 : ∀ n : Fin 256, 65 ≤ n.val → n.val ≤ 90 → n.val ||| 32 = n.val + 32 := by decide +kernel
  refine ⟨by omega, ?_⟩
  rw [h2 ⟨c.toNat, UInt8.toNat_lt c⟩ h h']
theorem fold1_no (c : UInt8) (h : c.toNat < 65 ∨ 90 < c.toNat) : fold1 c = c := by unfold fold1; rw [if_neg (by omega)]
/-- the world's bytes at a block -/
def ByteBlock (w : World) (g : Nat) (l : List UInt8) : Prop := (∀ j (hj : j < l.length), w.cell? ⟨g, j, none⟩ = some (.int .u8 (l[j].toNat : Int))) ∧ ∀ j, j < l.length → w.frozen? ⟨g, j, none⟩ = false
theorem ByteBlock.skip {w : World} {g : Nat} {l : List UInt8} {k : Nat} (h : ByteBlock w g (foldK l k)) (hk : k < l.length) (hc : fold1 l[k] = l[k]) : ByteBlock w g (foldK l (k + 1)) := by
  have he : foldK l (k + 1) = foldK l k := by
    apply List.ext_getElem?
    intro j
    by_cases hj : j = k
    · subst hj; rw [foldK_at l j hk, foldK_ge l j j (Nat.le_refl _), hc, List.getElem?_eq_getElem hk]
    · exact foldK_succ l k hk j hj
  rw [he]; exact h
theorem ByteBlock.store {w : World} {g : Nat} {l : List UInt8} {k : Nat} (h : ByteBlock w g (foldK l k)) (hk : k < l.length) (z : Int) (hz : z = ((fold1 l[k]).toNat : Int)) : ByteBlock (w.setCell ⟨g, k, none⟩ (.int .u8 z)) g (foldK l (k + 1)) := by
  refine ⟨fun j hj => ?_, fun j hj => ?_⟩
  · by_cases hjk : j = k
    · subst hjk
      rw [World.cell?_setCell_same w ⟨g, j, none⟩ _ (h.1 j (by rw [foldK_len]; exact hk)), hz]
      have := foldK_at l j hk
      rw [List.getElem?_eq_getElem hj] at this
      simp only [Option.some.injEq] at this
      rw [this]
    · rw [World.cell?_setCell_other w ⟨g, k, none⟩ ⟨g, j, none⟩ _ (by intro e; simp at e <;> omega), h.1 j (by rw [foldK_len] at hj ⊢; exact hj)]
      have := foldK_succ l k hk j hjk
      rw [List.getElem?_eq_getElem hj, List.getElem?_eq_getElem (by rw [foldK_len] at hj ⊢; exact hj)] at this
      simp only [Option.some.injEq] at this
      rw [this]
  · rw [World.frozen?_setCell]; exact h.2 j (by rw [foldK_len] at hj ⊢; exact hj)
theorem foldK_end (l : List UInt8) (k : Nat) (hk : l.length ≤ k) : foldK l k = l.map fold1 := by
  unfold foldK; rw [List.take_of_length_le hk, List.drop_eq_nil_of_le hk, List.append_nil]
theorem ret_fold {l l' : List UInt8} (h : l = l') : Ending.returned (.string ⟨l.toArray⟩) = .returned (.string ⟨l'.toArray⟩) := by rw [h]
theorem conv_block {P : Program} {w : World} {src dst e g n cap : Nat} {l : List UInt8} (hs : P.underlying src = some (.slice e)) (he : P.underlying e = some (.int .u8)) (hd : P.underlying dst = some .string) (hn : l.length = n)
    (h : ByteBlock w g l) : (convert src dst (.slice (some ⟨g, 0, none⟩) n cap)).run P w = .ok (.string ⟨l.toArray⟩) w := by
  subst hn
  exact run_convert_bytes_back w src dst e ⟨g, 0, none⟩ cap l hs he hd (fun j hj => by rw [Go.WideShapes.add_plain, Nat.zero_add]; exact h.1 j hj)
set_option maxRecDepth 100000 in
set_option maxHeartbeats 1600000 in
theorem fold_any (s : ByteArray) (hs : s.size ≤ 4294967296) (w : World) :
    Calls Tryd.prog 29 #[.string s] w fun e w' => e = .returned (.string ⟨(s.data.toList.map fold1).toArray⟩) ∧ Below w.heap.size w w' := by
  have hlen : s.data.toList.length = s.size := by simp
  have Hlen := Lib.hid hlen
  clear hlen
  go_enter Tryd.func29, Tryd.ntmps29
  go_wp2_with fail
  rw [run_bytes_of_string w 9 76 5 s Tryd.underlying9 Tryd.underlying76 Tryd.underlying5]
  simp only [Result.andThen]
  rw [Oper.upon_value]
  obtain ⟨f1, f2, f3⟩ := bytes_made w s (grownCap w s.size 0 5) 5
  generalize (w.drew.alloc (.cells (bytesRow s (grownCap w s.size 0 5)) 5 ((bytesRow s (grownCap w s.size 0 5)).size, (bytesRow s (grownCap w s.size 0 5)).size + 1))) = W1 at f1 f2 f3 ⊢
  generalize grownCap w s.size 0 5 = cap
  have hblk : ByteBlock W1 w.heap.size (foldK s.data.toList 0) := by
    have h0 : foldK s.data.toList 0 = s.data.toList := by simp [foldK]
    rw [h0]
    exact ⟨fun j hj => f1 j (by rw [Hlen.out] at hj; exact hj), fun j hj => f2 j (by rw [Hlen.out] at hj; exact hj)⟩
  clear f1 f2
  go_wp2_with fail
  go_loopw [10] (fun i wr => ∃ k : Nat, k ≤ s.size ∧ i = .int .i64 k ∧ ByteBlock wr w.heap.size (foldK s.data.toList k) ∧ Below w.heap.size w wr) (fun i _ => s.size - (intOf i).toNat)
  case atStart => exact ⟨0, Nat.zero_le _, rfl, hblk, f3⟩
  case round =>
    obtain ⟨k, hk, rfl, hb, hbel⟩ := hrel
    clear hblk f3
    by_cases hlt : k < s.size
    · have hkl : Hid (k < s.data.toList.length) := Lib.hid (by rw [Hlen.out]; exact hlt)
      have hcell := hb.1 k (by rw [foldK_len]; exact hkl.out)
      have hfz := hb.2 k (by rw [foldK_len]; exact hkl.out)
      have hck : (foldK s.data.toList k)[k]'(by rw [foldK_len]; exact hkl.out) = s[k] := by
        have := foldK_ge s.data.toList k k (Nat.le_refl _)
        rw [List.getElem?_eq_getElem (by rw [foldK_len]; exact hkl.out), List.getElem?_eq_getElem hkl.out] at this
        simp only [Option.some.injEq] at this
        rw [this]; rfl
      rw [hck] at hcell
      have hsk : Hid (s.data.toList[k]'hkl.out = s[k]) := Lib.hid rfl
      have Hb := Lib.hid hb
      have hbt := UInt8.toNat_lt s[k]
      clear hck hb
      by_cases hlet : 65 ≤ s[k].toNat ∧ s[k].toNat ≤ 90
      · obtain ⟨g, g'⟩ := hlet
        obtain ⟨z1, z2⟩ := fold1_let s[k] g g'
        have Hst := fun z hz => Lib.hid (Hb.out.store hkl.out z (by rw [hsk.out]; exact hz))
        clear z1
        generalize ((fold1 s[k]).toNat : Int) = z at z2 Hst
        have HS := Lib.hid (Hst z rfl)
        clear Hst
        go_wp2
        go_roundw
        case rel => exact ⟨k + 1, by omega, by go_num, HS.out, hbel.setCell (p := ⟨w.heap.size, k, none⟩) (Nat.le_refl _) _⟩
        case measure => (simp [intOf] <;> omega)
      · have HS := Lib.hid (Hb.out.skip hkl.out (by rw [hsk.out]; exact fold1_no _ (by omega)))
        rcases (by omega : s[k].toNat < 65 ∨ (65 ≤ s[k].toNat ∧ 90 < s[k].toNat)) with g | ⟨g, g'⟩
        all_goals
          clear hlet
          go_wp2
          go_roundw
          case rel => exact ⟨k + 1, by omega, by go_num, HS.out, hbel⟩
          case measure => (simp [intOf] <;> omega)
    · have hen := foldK_end s.data.toList k (by rw [Hlen.out]; omega)
      rw [hen] at hb
      have hconv := conv_block (P := Tryd.prog) (n := s.size) (cap := cap) Tryd.underlying76 Tryd.underlying5 Tryd.underlying9 (by rw [List.length_map, Hlen.out]) hb
      clear hen hb
      go_wp2
      go_ret
      exact ⟨rfl, hbel⟩
end Go.Proofs.YtdcdlmigagjbiaaDoor
/- Patterns, plain: letters, printing, parsing. -/
namespace Go.Proofs.YtdcdlmigagjbiaaDoor

/-- a letter -/
def letC (p : Int) : Bool := decide (32 < p) && !(p == 46) && !(p == 45) && !(decide (48 ≤ p) && decide (p ≤ 57))
/-- whether a string is of letters -/
def letsP (l : List UInt8) : Bool := (U.bad l).isEmpty && (ptsI l).all letC
def foldP (l : List UInt8) : List UInt8 := l.map fold1
/-- a pattern -/
structure Pat where
  letters : List UInt8
  levels : List Int
  beg : Bool
  fin : Bool
  deriving DecidableEq
def Pat.zero : Pat := ⟨[], [], false, false⟩
def digB (n : Int) : List UInt8 := if 0 < n then [UInt8.ofNat (48 + n.toNat)] else []
def lvOk (n : Int) : Bool := !(decide (n < 0) || decide (9 < n))
/-- levels and letters, in turn -/
def bodyB : List Int → List Int → List UInt8
  | [], _ => []
  | n :: ns, [] => digB n ++ bodyB ns []
  | n :: ns, p :: ps => digB n ++ (U.enc p.toNat ++ bodyB ns ps)
def dotB (b : Bool) : List UInt8 := if b then [46] else []
/-- what Print returns -/
def printP (P : Pat) : Nat × List UInt8 :=
  if (U.bad P.letters).isEmpty = false then (12, []) else
  if ptsI P.letters = [] then (11, []) else
  if 40 < (ptsI P.letters).length then (10, []) else
  if letsP P.letters = false ∨ foldP P.letters ≠ P.letters then (14, []) else
  if P.levels.length ≠ (ptsI P.letters).length + 1 then (15, []) else
  if P.levels.all lvOk = false then (2, []) else (0, dotB P.beg ++ bodyB P.levels (ptsI P.letters) ++ dotB P.fin)
/-- letters and levels of what stands between the dots -/
def parseGo : Int → List Int → List Int × List Int
  | lv, [] => ([], [lv])
  | lv, c :: r => if 48 ≤ c ∧ c ≤ 57 then parseGo (c - 48) r else (c :: (parseGo 0 r).1, lv :: (parseGo 0 r).2)
def hasB (l : List Int) : Bool := l.head? == some 46
def stripB (l : List Int) : List Int := if hasB l then l.tail else l
def hasE (l : List Int) : Bool := l.getLast? == some 46
def stripE (l : List Int) : List Int := if hasE l then l.dropLast else l
/-- the pattern that the points say, right or not -/
def patOf (l : List Int) : Pat := ⟨encI (parseGo 0 (stripE (stripB l))).1, (parseGo 0 (stripE (stripB l))).2, hasB l, hasE (stripB l)⟩
def parseP (s : List UInt8) : Nat × Pat :=
  if (U.bad s).isEmpty = false then (12, .zero) else
  if printP (patOf (ptsI s)) = (0, s) then (0, patOf (ptsI s)) else (14, .zero)

/-! ### parsing leads back -/
theorem letC_num {p : Int} (h : letC p = true) : 32 < p ∧ p ≠ 46 ∧ p ≠ 45 ∧ ¬ (48 ≤ p ∧ p ≤ 57) := by
  unfold letC at h
  simp only [Bool.and_eq_true, decide_eq_true_eq, Bool.not_eq_true', beq_eq_false_iff_ne, Bool.and_eq_false_iff, decide_eq_false_iff_not] at h
  omega
theorem lvOk_num {n : Int} (h : lvOk n = true) : 0 ≤ n ∧ n ≤ 9 := by
  unfold lvOk at h
  simp only [Bool.not_eq_true', Bool.or_eq_false_iff, decide_eq_false_iff_not] at h
  omega
/-- the points of a printed pattern, without the dots -/
def bodyI : List Int → List Int → List Int
  | [], _ => []
  | n :: ns, [] => (if 0 < n then [48 + n] else []) ++ bodyI ns []
  | n :: ns, p :: ps => (if 0 < n then [48 + n] else []) ++ p :: bodyI ns ps
theorem enc_one {p : Nat} (h : p < 128) : U.enc p = [UInt8.ofNat p] := by unfold U.enc; rw [if_pos h]
theorem encI_append (a b : List Int) : encI (a ++ b) = encI a ++ encI b := by unfold encI; rw [List.map_append, U.encs_append]
theorem encI_cons (p : Int) (r : List Int) : encI (p :: r) = U.enc p.toNat ++ encI r := rfl
theorem dig_enc {n : Int} (h : lvOk n = true) : digB n = encI (if 0 < n then [48 + n] else []) := by
  have := lvOk_num h
  unfold digB
  split
  · show _ = U.encs [(48 + n).toNat]
    rw [show (48 + n).toNat = 48 + n.toNat from by omega]
    show _ = U.enc (48 + n.toNat) ++ []
    rw [enc_one (by omega), List.append_nil]
  · rfl
theorem body_enc : ∀ (ns ps : List Int), ns.all lvOk = true → bodyB ns ps = encI (bodyI ns ps)
  | [], _, _ => rfl
  | n :: ns, [], h => by
    rw [List.all_cons, Bool.and_eq_true] at h
    show digB n ++ bodyB ns [] = encI (_ ++ bodyI ns [])
    rw [encI_append, dig_enc h.1, body_enc ns [] h.2]
  | n :: ns, p :: ps, h => by
    rw [List.all_cons, Bool.and_eq_true] at h
    show digB n ++ (U.enc p.toNat ++ bodyB ns ps) = encI (_ ++ p :: bodyI ns ps)
    rw [encI_append, encI_cons, dig_enc h.1, body_enc ns ps h.2]
theorem bodyI_pt : ∀ (ns ps : List Int), ns.all lvOk = true → okI ps = true → okI (bodyI ns ps) = true
  | [], _, _, _ => rfl
  | n :: ns, [], h, hp => by
    rw [List.all_cons, Bool.and_eq_true] at h
    have := lvOk_num h.1
    show List.all (_ ++ bodyI ns []) isPtI = true
    rw [List.all_append, Bool.and_eq_true]
    refine ⟨?_, bodyI_pt ns [] h.2 hp⟩
    split
    · simp only [List.all_cons, List.all_nil, Bool.and_true]
      rw [isPtI_iff]; omega
    · rfl
  | n :: ns, p :: ps, h, hp => by
    rw [List.all_cons, Bool.and_eq_true] at h
    have hp' : isPtI p = true ∧ okI ps = true := by unfold okI at hp; rw [List.all_cons, Bool.and_eq_true] at hp; exact hp
    have := lvOk_num h.1
    show List.all (_ ++ p :: bodyI ns ps) isPtI = true
    rw [List.all_append, List.all_cons, Bool.and_eq_true, Bool.and_eq_true]
    refine ⟨?_, hp'.1, bodyI_pt ns ps h.2 hp'.2⟩
    split
    · simp only [List.all_cons, List.all_nil, Bool.and_true]
      rw [isPtI_iff]; omega
    · rfl
theorem parse_body : ∀ (ps ns : List Int), ns.length = ps.length + 1 → ns.all lvOk = true → ps.all letC = true → parseGo 0 (bodyI ns ps) = (ps, ns)
  | [], [n], _, h, _ => by
    rw [List.all_cons, Bool.and_eq_true] at h
    have := lvOk_num h.1
    by_cases hn : 0 < n
    · show parseGo 0 ((if 0 < n then [48 + n] else []) ++ []) = _
      rw [if_pos hn]
      show (if 48 ≤ 48 + n ∧ 48 + n ≤ 57 then parseGo (48 + n - 48) [] else _) = _
      rw [if_pos (by omega), show 48 + n - 48 = n from by omega]
      rfl
    · have : n = 0 := by omega
      subst this
      rfl
  | p :: ps, n :: ns, hl, h, hp => by
    rw [List.all_cons, Bool.and_eq_true] at h hp
    have := lvOk_num h.1
    have hp1 := letC_num hp.1
    have ih := parse_body ps ns (by simpa using hl) h.2 hp.2
    have step : ∀ lv, parseGo lv (p :: bodyI ns ps) = (p :: ps, lv :: ns) := fun lv => by
      show (if 48 ≤ p ∧ p ≤ 57 then _ else _) = _
      rw [if_neg hp1.2.2.2, ih]
    by_cases hn : 0 < n
    · show parseGo 0 ((if 0 < n then [48 + n] else []) ++ p :: bodyI ns ps) = _
      rw [if_pos hn]
      show (if 48 ≤ 48 + n ∧ 48 + n ≤ 57 then parseGo (48 + n - 48) (p :: bodyI ns ps) else _) = _
      rw [if_pos (by omega), show 48 + n - 48 = n from by omega, step]
    · have : n = 0 := by omega
      subst this
      exact step 0
theorem body_ne : ∀ (ns ps : List Int), ns.all lvOk = true → ps.all letC = true → ∀ x, x ∈ bodyI ns ps → x ≠ 46
  | [], _, _, _, x, hx => by cases hx
  | n :: ns, [], h, hp, x, hx => by
    rw [List.all_cons, Bool.and_eq_true] at h
    have := lvOk_num h.1
    change x ∈ (if 0 < n then [48 + n] else []) ++ bodyI ns [] at hx
    rcases List.mem_append.1 hx with hx | hx
    · split at hx
      · obtain rfl : x = 48 + n := by simpa using hx
        omega
      · cases hx
    · exact body_ne ns [] h.2 hp x hx
  | n :: ns, p :: ps, h, hp, x, hx => by
    rw [List.all_cons, Bool.and_eq_true] at h hp
    have := lvOk_num h.1
    change x ∈ (if 0 < n then [48 + n] else []) ++ p :: bodyI ns ps at hx
    rcases List.mem_append.1 hx with hx | hx
    · split at hx
      · obtain rfl : x = 48 + n := by simpa using hx
        omega
      · cases hx
    · rcases List.mem_cons.1 hx with rfl | hx
      · exact (letC_num hp.1).2.1
      · exact body_ne ns ps h.2 hp.2 x hx
theorem strip_dots (b f : Bool) {l : List Int} (h : ∀ x, x ∈ l → x ≠ 46) (hl : l ≠ []) :
    hasB ((if b then [46] else []) ++ l ++ (if f then [46] else [])) = b ∧ hasE (stripB ((if b then [46] else []) ++ l ++ (if f then [46] else []))) = f ∧
    stripE (stripB ((if b then [46] else []) ++ l ++ (if f then [46] else []))) = l := by
  have hb : hasB ((if b then [46] else []) ++ l ++ (if f then [46] else [])) = b := by
    cases b with
    | true => rfl
    | false =>
      cases l with
      | nil => exact absurd rfl hl
      | cons x r =>
        show (some x == some 46) = false
        have := h x List.mem_cons_self
        simpa using this
  have hs : stripB ((if b then [46] else []) ++ l ++ (if f then [46] else [])) = l ++ (if f then [46] else []) := by
    unfold stripB
    rw [hb]
    cases b <;> rfl
  refine ⟨hb, ?_, ?_⟩
  · rw [hs]
    unfold hasE
    cases f with
    | true => simp
    | false =>
      simp only [Bool.false_eq_true, if_false, List.append_nil]
      rw [List.getLast?_eq_some_getLast hl]
      have := h _ (List.getLast_mem hl)
      simpa using this
  · rw [hs]
    unfold stripE hasE
    cases f with
    | true => simp
    | false =>
      simp only [Bool.false_eq_true, if_false, List.append_nil]
      rw [List.getLast?_eq_some_getLast hl]
      have := h _ (List.getLast_mem hl)
      rw [if_neg (by simpa using this)]
theorem print_back {P : Pat} {t : List UInt8} (h : printP P = (0, t)) : parseP t = (0, P) := by
  have h0 := h
  unfold printP at h
  split at h
  · cases h
  rename_i h1
  split at h
  · cases h
  rename_i h2
  split at h
  · cases h
  split at h
  · cases h
  rename_i h4
  split at h
  · cases h
  rename_i h5
  split at h
  · cases h
  rename_i h6
  injection h with _ h
  simp only [Bool.not_eq_false] at h1 h6
  have h5' : P.levels.length = (ptsI P.letters).length + 1 := by omega
  have hl : (ptsI P.letters).all letC = true := by
    have : letsP P.letters = true := by cases hh : letsP P.letters <;> simp [hh] at h4 ⊢
    unfold letsP at this
    rw [Bool.and_eq_true] at this
    exact this.2
  have hok := okI_pts P.letters
  have hbe := body_enc P.levels (ptsI P.letters) h6
  have hbo := bodyI_pt P.levels (ptsI P.letters) h6 hok
  have hdot : ∀ b : Bool, dotB b = encI (if b then [46] else []) := by intro b; cases b <;> rfl
  have ht : t = encI ((if P.beg then [46] else []) ++ bodyI P.levels (ptsI P.letters) ++ (if P.fin then [46] else [])) := by
    rw [← h, hbe, encI_append, encI_append, ← hdot, ← hdot]
  have hokt : okI ((if P.beg then [46] else []) ++ bodyI P.levels (ptsI P.letters) ++ (if P.fin then [46] else [])) = true := by
    unfold okI at hbo ⊢
    rw [List.all_append, List.all_append, hbo]
    cases P.beg <;> cases P.fin <;> rfl
  obtain ⟨hp1, hp2⟩ := pts_make _ hokt
  rw [← ht] at hp1 hp2
  have hne : bodyI P.levels (ptsI P.letters) ≠ [] := by
    intro e
    have := parse_body (ptsI P.letters) P.levels h5' h6 hl
    rw [e] at this
    injection this with this _
    exact h2 this.symm
  obtain ⟨s1, s2, s3⟩ := strip_dots P.beg P.fin (body_ne P.levels (ptsI P.letters) h6 hl) hne
  have hpat : patOf (ptsI t) = P := by
    rw [hp1]
    unfold patOf
    rw [s1, s2, s3, parse_body (ptsI P.letters) P.levels h5' h6 hl, encI_pts, ← U.of_valid _ (by simpa using h1)]
  unfold parseP
  rw [if_neg (by rw [hp2]; simp), hpat, if_pos h0]
end Go.Proofs.YtdcdlmigagjbiaaDoor
