/- The walk of Repair. -/
import Derived.Test.YtkoklnnlhfjbjaaWkM
import Derived.Outline
namespace Go.Proofs.Ytkoklnnlhfjbjaa
open Go.RowKit
def fffd : List UInt8 := [239, 191, 189]
def repN : Nat → List UInt8 → List UInt8
  | 0, _ => []
  | n + 1, l => if l = [] then [] else (if (U.dec l).2.2 then l.take (U.dec l).2.1 else fffd) ++ repN n (l.drop (max (U.dec l).2.1 1))
def rep (l : List UInt8) : List UInt8 := repN l.length l
theorem repN_stable : ∀ (n m : Nat) (l : List UInt8), l.length ≤ n → l.length ≤ m → repN n l = repN m l := by
  intro n
  induction n with
  | zero =>
    intro m l h1 _
    have : l = [] := List.length_eq_zero_iff.1 (by omega)
    subst this
    match m with
    | 0 => rfl
    | m + 1 => simp [repN]
  | succ n ih =>
    intro m l h1 h2
    match m with
    | 0 =>
      have : l = [] := List.length_eq_zero_iff.1 (by omega)
      subst this
      simp [repN]
    | m + 1 =>
      simp only [repN]
      by_cases he : l = []
      · rw [if_pos he, if_pos he]
      · rw [if_neg he, if_neg he]
        have hl : 0 < l.length := List.length_pos_iff.2 he
        rw [ih m _ (by rw [List.length_drop]; omega) (by rw [List.length_drop]; omega)]
theorem rep_step (l : List UInt8) (h : l ≠ []) : rep l = (if (U.dec l).2.2 then l.take (U.dec l).2.1 else fffd) ++ rep (l.drop (max (U.dec l).2.1 1)) := by
  have hl : 0 < l.length := List.length_pos_iff.2 h
  unfold rep
  obtain ⟨n, hn⟩ : ∃ n, l.length = n + 1 := ⟨l.length - 1, by omega⟩
  rw [hn]
  simp only [repN]
  rw [if_neg h, repN_stable n (l.drop (max (U.dec l).2.1 1)).length _ (by rw [List.length_drop]; omega) (Nat.le_refl _)]
theorem rep_nil : rep [] = [] := rfl
theorem rep_at (s : ByteArray) (k p n : Nat) (b : Bool) (hk : k < s.size) (h : U.dec (s.data.toList.drop k) = (p, n, b)) :
    rep (s.data.toList.drop k) = (if b then (s.data.toList.drop k).take n else fffd) ++ rep (s.data.toList.drop (k + max n 1)) := by
  rw [rep_step _ (by intro e; have := congrArg List.length e; rw [List.length_drop] at this; simp at this; omega), h, List.drop_drop]
/-- how many bytes belong to a broken beginning: no more than there are -/
theorem dec_le (l : List UInt8) (h : l ≠ []) : (U.dec l).2.1 ≤ l.length := by
  by_cases hb : (U.dec l).2.2 = true
  · obtain ⟨_, h2, h3⟩ := U.dec_ok l hb
    have := congrArg List.length h3
    rw [List.length_append, U.enc_length, ← h2, List.length_drop] at this
    omega
  · exact (U.begin_eq l h (by simpa using hb)).2
theorem dec_room (s : ByteArray) (k p n : Nat) (b : Bool) (hk : k < s.size) (h : U.dec (s.data.toList.drop k) = (p, n, b)) : k + max n 1 ≤ s.size := by
  have hne : s.data.toList.drop k ≠ [] := by intro e; have := congrArg List.length e; rw [List.length_drop] at this; simp at this; omega
  have := dec_le _ hne
  rw [h, List.length_drop] at this
  have h2 : s.data.toList.length = s.size := by simp
  simp only at this
  omega
theorem byteCells_append (a b : List UInt8) : Lib.byteCells (a ++ b) = Lib.byteCells a ++ Lib.byteCells b := by simp [Lib.byteCells]
theorem strCells_extract (s : ByteArray) (a b : Nat) : Lib.strCells (s.extract a b) = Lib.byteCells ((s.data.toList.drop a).take (b - a)) := by
  unfold Lib.strCells Lib.byteCells; rw [Lib.extract_data]
theorem strCells_fffd : Lib.strCells ⟨#[239, 191, 189]⟩ = Lib.byteCells fffd := rfl
set_option maxRecDepth 100000 in
set_option maxHeartbeats 800000 in
theorem repair_any (s : ByteArray) (hs : s.size ≤ 4294967296) (w : World) :
    Calls Try.prog 13 #[.string s] w fun e w' => e = .returned (.string ⟨(rep s.data.toList).toArray⟩) ∧ Below w.heap.size w w' := by
  go_enter Try.func13, Try.ntmps13
  go_wp2
  go_loopw [4] (fun i wr => ∃ (k : Nat) (acc : List UInt8), k ≤ s.size ∧ i = .int .i64 k ∧ Lib.IsBuilder 54 5 w.heap.size w.heap.size (Lib.byteCells acc) wr ∧ Below w.heap.size w wr ∧ acc.length ≤ 3 * k ∧
      acc ++ rep (s.data.toList.drop k) = rep s.data.toList) (fun i _ => s.size - (intOf i).toNat)
  case atStart =>
    refine ⟨0, [], Nat.zero_le _, rfl, Or.inl ?_, (Below.refl _ _).alloc (Nat.le_refl _) _, by simp, rfl⟩
    exact ⟨Nat.le_refl _, _, by show (w.heap.push _)[w.heap.size]? = _; simp, World.ownsRow_nil _ _ _ _, by simp [Value.ownBlock]⟩
  case round =>
    obtain ⟨k, acc, hk, rfl, hbd, hbel, hacc, hrep⟩ := hrel
    have Hrep := Lib.hid hrep
    have hsz := hbel.size
    clear hrep
    have hbl := Lib.hid (Lib.byteCells_length acc)
    by_cases hlt : k < s.size
    · obtain ⟨p, n, b, hd⟩ : ∃ p n b, U.dec (s.data.toList.drop k) = (p, n, b) := ⟨_, _, _, rfl⟩
      have Hd := Lib.hid hd
      have hroom := dec_room s k p n b hlt hd
      have hra := Lib.hid (rep_at s k p n b hlt hd)
      clear hd
      cases b
      · go_wp2_with (first
          | (go_at_call 37; (with_reducible refine (decode_at s k _ _ _ hs hlt Hd _).mono ?_); rintro e w' ⟨rfl, rfl⟩)
          | (go_at_call 38; (with_reducible refine (writeString_any w.heap.size w.heap.size (Lib.byteCells acc) _ _ hbd (by rw [hbl.out]; have : (⟨#[239, 191, 189]⟩ : ByteArray).size = 3 := rfl; omega) hsz).mono ?_); rintro e w1 ⟨rfl, hbd1, hb1⟩; have hsz1 := hb1.size))
        go_roundw
        case rel =>
          refine ⟨k + max n 1, acc ++ fffd, hroom, congrArg (Value.int .i64) (by omega), Or.inr ?_, hbel.trans (hb1.mono (Nat.le_refl _)), ?_, ?_⟩
          · rw [byteCells_append]; exact hbd1
          · rw [List.length_append]; have : fffd.length = 3 := rfl; omega
          · rw [← Hrep.out, hra.out, List.append_assoc]; rfl
        case measure => (simp [intOf] <;> omega)
      · have hext := Lib.hid (strCells_extract s k (k + n))
        obtain ⟨g1, g2, g3, g4, g5, g6, g7⟩ := dec_size s k p n Hd.out
        clear g4 g5 g6 g7
        have hes : (s.extract k (k + n)).size ≤ 4 := by simp; omega
        have hmx := Lib.hid (show max n 1 = n by omega)
        go_wp2_with (first
          | (go_at_call 37; (with_reducible refine (decode_at s k _ _ _ hs hlt Hd _).mono ?_); rintro e w' ⟨rfl, rfl⟩)
          | (go_at_call 38; (with_reducible refine (writeString_any w.heap.size w.heap.size (Lib.byteCells acc) _ _ hbd (by rw [hbl.out]; omega) hsz).mono ?_); rintro e w1 ⟨rfl, hbd1, hb1⟩; have hsz1 := hb1.size))
        go_roundw
        case rel =>
          refine ⟨k + n, acc ++ (s.data.toList.drop k).take n, by omega, congrArg (Value.int .i64) (by omega), Or.inr ?_, hbel.trans (hb1.mono (Nat.le_refl _)), ?_, ?_⟩
          · rw [byteCells_append]; rw [hext.out, show k + n - k = n from by omega] at hbd1; exact hbd1
          · rw [List.length_append]; have := List.length_take_le n (s.data.toList.drop k); omega
          · rw [← Hrep.out, hra.out, List.append_assoc, hmx.out]; rfl
        case measure => (simp [intOf] <;> omega)
    · have hac := Lib.hid (show acc = rep s.data.toList by rw [← Hrep.out, drop_end s k (by omega)]; simp [rep_nil])
      go_wp2_with (go_at_call 39; (with_reducible refine (string_any w.heap.size w.heap.size acc _ hbd hsz).mono ?_); rintro e w1 ⟨rfl, hb1⟩)
      go_ret
      exact ⟨by rw [← hac.out]; rfl, hbel.trans hb1⟩
end Go.Proofs.Ytkoklnnlhfjbjaa
