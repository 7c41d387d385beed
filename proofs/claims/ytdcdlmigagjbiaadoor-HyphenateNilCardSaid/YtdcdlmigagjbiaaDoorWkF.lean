/- The walks of Count, begins, Offset, Unit. -/
import Derived.Test.YtdcdlmigagjbiaaDoorWkE
import Derived.Outline
namespace Go.Proofs.YtdcdlmigagjbiaaDoor
open Go.RowKit
def isHead (c : UInt8) : Bool := !decide (128 ≤ c.toNat ∧ c.toNat < 192)
theorem u8_head (c : UInt8) : (bits .and .u8 (c.toNat : Int) 192 != 128) = isHead c := by
  unfold isHead; rw [← u8_cont]; rfl
def heads (l : List UInt8) : Nat := (l.filter isHead).length
theorem heads_snoc (s : ByteArray) (k : Nat) (hk : k < s.size) : heads (s.data.toList.take (k + 1)) = heads (s.data.toList.take k) + if isHead s[k] then 1 else 0 := by
  rw [List.take_succ_eq_append_getElem (by simpa using hk)]
  unfold heads
  rw [List.filter_append, List.length_append]
  congr 1
  show (List.filter isHead [s[k]]).length = _
  cases h : isHead s[k] <;> simp [h]
theorem heads_le (l : List UInt8) : heads l ≤ l.length := List.length_filter_le _ _
/-- what Count returns -/
def countP (l : List UInt8) : Nat × Nat := if (U.bad l).isEmpty then (heads l, 0) else (0, 12)
theorem ret_count {l : List UInt8} {a b : Nat} (h : countP l = (a, b)) : Ending.returned (.tuple #[.int .i64 a, .int .i64 b]) = .returned (.tuple #[.int .i64 (countP l).1, .int .i64 (countP l).2]) := by rw [h]
theorem valid_at (s : ByteArray) (b : Bool) (hs : s.size ≤ 4294967296) (h : Hid ((U.bad s.data.toList).isEmpty = b)) (w : World) :
    Calls Tryd.prog 23 #[.string s] w fun e w' => e = .returned (.bool b) ∧ w = w' := by
  have := valid_any s hs w
  rw [h.out] at this
  exact this
set_option maxRecDepth 100000 in
set_option maxHeartbeats 400000 in
theorem count_any (s : ByteArray) (hs : s.size ≤ 4294967296) (w : World) :
    Calls Tryd.prog 34 #[.string s] w fun e w' => e = .returned (.tuple #[.int .i64 (countP s.data.toList).1, .int .i64 (countP s.data.toList).2]) ∧ w = w' := by
  obtain ⟨b, hb⟩ : ∃ b, (U.bad s.data.toList).isEmpty = b := ⟨_, rfl⟩
  have Hb := Lib.hid hb
  clear hb
  cases b
  · have hx := Lib.hid (show countP s.data.toList = (0, 12) by unfold countP; rw [Hb.out]; rfl)
    go_enter Tryd.func34, Tryd.ntmps34
    go_wp2_with ((go_at_call 23; (with_reducible refine (valid_at s _ hs Hb _).mono ?_); rintro e w' ⟨rfl, rfl⟩))
    go_ret2
    exact ⟨ret_count (a := 0) (b := 12) hx.out, rfl⟩
  · have hx := Lib.hid (show countP s.data.toList = (heads s.data.toList, 0) by unfold countP; rw [Hb.out]; rfl)
    go_enter Tryd.func34, Tryd.ntmps34
    go_wp2_with ((go_at_call 23; (with_reducible refine (valid_at s _ hs Hb _).mono ?_); rintro e w' ⟨rfl, rfl⟩))
    go_loop [2, 10] (fun n i => ∃ k : Nat, k ≤ s.size ∧ i = .int .i64 k ∧ n = .int .i64 (heads (s.data.toList.take k))) (fun _ i => s.size - (intOf i).toNat)
    case atStart => exact ⟨0, Nat.zero_le _, rfl, rfl⟩
    case round =>
      obtain ⟨k, hk, rfl, rfl⟩ := hrel
      have hl := heads_le (s.data.toList.take k)
      have hl' : heads (s.data.toList.take k) ≤ k := Nat.le_trans hl (List.length_take_le _ _)
      clear hl
      by_cases hlt : k < s.size
      · have hsn := Lib.hid (heads_snoc s k hlt)
        have hh := u8_head s[k]
        obtain ⟨c, hc⟩ : ∃ c, isHead s[k] = c := ⟨_, rfl⟩
        rw [hc] at hh
        have Hc := Lib.hid hc
        clear hc
        cases c
        · go_wp2
          go_round
          case rel => exact ⟨k + 1, by omega, by go_num, by rw [hsn.out, Hc.out]; rfl⟩
          case measure => simp [intOf]; omega
        · go_wp2
          go_round
          case rel => exact ⟨k + 1, by omega, by go_num, by rw [hsn.out, Hc.out]; rfl⟩
          case measure => simp [intOf]; omega
      · have hke : k = s.size := by omega
        have ht := Lib.hid (show s.data.toList.take k = s.data.toList from List.take_of_length_le (by simp; omega))
        clear hke
        go_wp2
        go_ret2
        exact ⟨ret_count (a := heads (s.data.toList.take k)) (b := 0) (by rw [ht.out]; exact hx.out), rfl⟩

def headPos : Nat → List UInt8 → List Nat
  | _, [] => []
  | i, c :: r => if isHead c then i :: headPos (i + 1) r else headPos (i + 1) r
theorem headPos_snoc (l : List UInt8) (c : UInt8) : ∀ i, headPos i (l ++ [c]) = headPos i l ++ if isHead c then [i + l.length] else [] := by
  induction l with
  | nil => intro i; simp only [List.nil_append, headPos]; cases isHead c <;> simp
  | cons d l ih =>
    intro i
    simp only [List.cons_append, headPos, ih]
    rw [List.length_cons, show i + 1 + l.length = i + (l.length + 1) from by omega]
    cases isHead d <;> simp
theorem headPos_len (l : List UInt8) : ∀ i, (headPos i l).length ≤ l.length := by
  induction l with
  | nil => intro i; simp [headPos]
  | cons d l ih =>
    intro i
    simp only [headPos]
    have := ih (i + 1)
    cases isHead d <;> simp <;> omega
def posI (l : List UInt8) : List Int := (headPos 0 l).map fun p => ((p : Nat) : Int)
theorem posI_snoc (s : ByteArray) (k : Nat) (hk : k < s.size) : posI (s.data.toList.take (k + 1)) = posI (s.data.toList.take k) ++ if isHead s[k] then [(k : Int)] else [] := by
  rw [List.take_succ_eq_append_getElem (by simpa using hk)]
  unfold posI
  show (headPos 0 (List.take k s.data.toList ++ [s[k]])).map _ = _
  rw [headPos_snoc]
  have : (List.take k s.data.toList).length = k := by rw [List.length_take]; simp; omega
  rw [this, Nat.zero_add]
  cases isHead s[k] <;> simp
theorem posI_len (s : ByteArray) (k : Nat) : (posI (s.data.toList.take k)).length ≤ k := by
  have := headPos_len (s.data.toList.take k) 0
  have h2 := List.length_take_le k s.data.toList
  unfold posI; rw [List.length_map]; omega
/-- what begins returns -/
def beginsP (l : List UInt8) : List Int := posI l ++ [(l.length : Int)]
def BeginsPost (s : ByteArray) (w : World) (e : Ending) (w' : World) : Prop :=
  ∃ v, e = .returned v ∧ Below w.heap.size w w' ∧ w'.ownsRow w.heap.size 3 1 v (beginsP s.data.toList).length ((beginsP s.data.toList).map (Value.int .i64))
set_option maxRecDepth 100000 in
set_option maxHeartbeats 800000 in
theorem begins_any (s : ByteArray) (hs : s.size ≤ 4294967296) (w : World) :
    Calls Tryd.prog 49 #[.string s] w (BeginsPost s w) := by
  obtain ⟨i0, hi, hz0, hz1, hz2⟩ := info_parts int_info
  go_enter Tryd.func49, Tryd.ntmps49
  go_wp2
  go_loopw [3, 7] (fun v i wr => ∃ k : Nat, k ≤ s.size ∧ i = .int .i64 k ∧ wr.ownsRow w.heap.size 3 1 v (posI (s.data.toList.take k)).length ((posI (s.data.toList.take k)).map (Value.int .i64)) ∧ Below w.heap.size w wr) (fun _ i _ => s.size - (intOf i).toNat)
  case atStart => exact ⟨0, Nat.zero_le _, rfl, World.ownsRow_nil _ _ _ _, Below.refl _ _⟩
  case round =>
    obtain ⟨k, hk, rfl, hown, hbel⟩ := hrel
    have hal := posI_len s k
    have hsz := hbel.size
    by_cases hlt : k < s.size
    · have hsn := Lib.hid (posI_snoc s k hlt)
      have hh := u8_head s[k]
      obtain ⟨c, hc⟩ : ∃ c, isHead s[k] = c := ⟨_, rfl⟩
      rw [hc] at hh
      have Hc := Lib.hid hc
      clear hc
      cases c
      · go_wp2
        go_roundw
        case rel =>
          refine ⟨k + 1, by omega, by go_num, ?_, hbel⟩
          rw [hsn.out, Hc.out]
          simpa using hown
        case measure => simp [intOf]; omega
      · go_wp2_with ((at_builtin; refine wpList_append_own _ rfl _ _ 26 rfl w.heap.size 3 i0 (.int .i64 0) 1 8 Tryd.underlying26 hi hz0 hz1 hz2 rfl (by decide) _ _ _ rfl (hown.alloc _) ⟨wr.heap.size, 0, none⟩ 1 1 [.int .i64 k] rfl rfl ?c1 ?c2 ?c3 ?c4 ?c5 ?_))
        case c1 =>
          intro j u hj
          match j, hj with
          | 0, hj => simp at hj; subst hj; simp [Addr.add]
        case c2 => intro u hu; simp at hu; subst hu; rfl
        case c3 => unfold maxLen; omega
        case c4 => omega
        case c5 => simp; omega
        intro v' w1 hown' hgrow _
        have R := rel_append hsz hown hbel hown' hgrow
        clear hown' hgrow hown hbel hi hz0 hz1 hz2
        go_wp2
        go_roundw
        case rel =>
          refine ⟨k + 1, by omega, by go_num, ?_, R.2⟩
          rw [hsn.out, Hc.out]
          simpa using R.1
        case measure => simp [intOf]; omega
    · have ht := Lib.hid (show s.data.toList.take k = s.data.toList from List.take_of_length_le (by simp; omega))
      have hpe := Lib.hid (show beginsP s.data.toList = posI (s.data.toList.take k) ++ [(s.size : Int)] by unfold beginsP; rw [ht.out]; simp)
      clear ht
      go_wp2_with ((at_builtin; refine wpList_append_own _ rfl _ _ 26 rfl w.heap.size 3 i0 (.int .i64 0) 1 8 Tryd.underlying26 hi hz0 hz1 hz2 rfl (by decide) _ _ _ rfl (hown.alloc _) ⟨wr.heap.size, 0, none⟩ 1 1 [.int .i64 s.size] rfl rfl ?d1 ?d2 ?d3 ?d4 ?d5 ?_))
      case d1 =>
        intro j u hj
        match j, hj with
        | 0, hj => simp at hj; subst hj; simp [Addr.add]
      case d2 => intro u hu; simp at hu; subst hu; rfl
      case d3 => unfold maxLen; omega
      case d4 => omega
      case d5 => simp; omega
      intro v' w1 hown' hgrow _
      have R := rel_append hsz hown hbel hown' hgrow
      clear hown' hgrow hown hbel hi hz0 hz1 hz2
      go_wp2
      go_ret
      exact ⟨_, rfl, R.2, by rw [hpe.out]; simpa using R.1⟩
end Go.Proofs.YtdcdlmigagjbiaaDoor
