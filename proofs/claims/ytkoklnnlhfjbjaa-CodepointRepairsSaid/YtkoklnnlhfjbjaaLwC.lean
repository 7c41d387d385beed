/- The walk of the reference's Repair and of the law CodepointRepairs. -/
import Derived.Test.YtkoklnnlhfjbjaaWkR
import Derived.Test.YtkoklnnlhfjbjaaLwA
import Derived.Deep.QuietTactic
import Derived.BigQuiet
namespace Go.Proofs.Ytkoklnnlhfjbjaa
open Go.RowKit
theorem rencode_fffd (w : World) : Calls Try.prog 41 #[.int .i64 65533] w fun e w' => e = .returned (.string ⟨fffd.toArray⟩) ∧ Below w.heap.size w w' :=
  rencode_any 65533 (by decide) w
theorem beginning_at (s : ByteArray) (k p n : Nat) (hs : s.size ≤ 4294967296) (hk : k < s.size) (h : Hid (U.dec (s.data.toList.drop k) = (p, n, false))) (w : World) :
    Calls Try.prog 40 #[.string (s.extract k s.size)] w fun e w' => e = .returned (.int .i64 n) ∧ Below w.heap.size w w' := by
  have := beginning_any (s.extract k s.size) (Nat.le_trans (size_extract s k) hs) w
  rw [extract_drop] at this
  have hne : s.data.toList.drop k ≠ [] := by intro e; have := congrArg List.length e; rw [List.length_drop] at this; simp at this; omega
  rw [(U.begin_eq _ hne (by rw [h.out])).1, h.out] at this
  exact this
theorem take_ok (l : List UInt8) (p n : Nat) (h : U.dec l = (p, n, true)) : l.take n = U.enc p ∧ U.isPt p = true ∧ n = U.esize p := by
  obtain ⟨h1, h2, h3⟩ := U.dec_ok l (by rw [h])
  rw [h] at h1 h2 h3
  simp only at h1 h2 h3
  refine ⟨?_, h1, h2⟩
  conv => lhs; rw [h3]
  rw [U.take_enc p _ n h2]
set_option maxRecDepth 100000 in
set_option maxHeartbeats 800000 in
theorem rrepair_any (s : ByteArray) (hs : s.size ≤ 4294967296) (w : World) :
    Calls Try.prog 15 #[.string s] w fun e w' => e = .returned (.string ⟨(rep s.data.toList).toArray⟩) ∧ Below w.heap.size w w' := by
  go_enter Try.func15, Try.ntmps15
  go_wp2
  go_loopw [3, 4] (fun v i wr => ∃ (k : Nat) (acc : List UInt8), k ≤ s.size ∧ i = .int .i64 k ∧ v = .string ⟨acc.toArray⟩ ∧ Below w.heap.size w wr ∧ acc.length ≤ 3 * k ∧
      acc ++ rep (s.data.toList.drop k) = rep s.data.toList) (fun _ i _ => s.size - (intOf i).toNat)
  case atStart => exact ⟨0, [], Nat.zero_le _, rfl, rfl, Below.refl _ _, by simp, rfl⟩
  case round =>
    obtain ⟨k, acc, hk, rfl, rfl, hbel, hacc, hrep⟩ := hrel
    have Hrep := Lib.hid hrep
    have hsz := hbel.size
    clear hrep
    by_cases hlt : k < s.size
    · obtain ⟨p, n, b, hd⟩ : ∃ p n b, U.dec (s.data.toList.drop k) = (p, n, b) := ⟨_, _, _, rfl⟩
      have Hd := Lib.hid hd
      have hroom := dec_room s k p n b hlt hd
      have hra := Lib.hid (rep_at s k p n b hlt hd)
      cases b
      · have hdc := rdec_at s k p n false hs Hd
        simp only [Bool.false_eq_true, if_false] at hdc
        have Hdc := Lib.hid hdc
        have hadd := fun w : World => run_add_lists (P := Try.prog) w acc fffd (by have : fffd.length = 3 := rfl; omega)
        clear hdc hd
        go_wp2_with (first
          | (go_at_call 26; (with_reducible refine (Hdc.out _).mono ?_); rintro e w1 ⟨rfl, hb1⟩; have hbel := hbel.trans (hb1.mono hbel.size))
          | (go_at_call 40; (with_reducible refine (beginning_at s k p n hs hlt Hd _).mono ?_); rintro e w2 ⟨rfl, hb2⟩; have hbel := hbel.trans (hb2.mono hbel.size))
          | (go_at_call 41; (with_reducible refine (rencode_fffd _).mono ?_); rintro e w3 ⟨rfl, hb3⟩; have hbel := hbel.trans (hb3.mono hbel.size)))
        go_roundw
        case rel =>
          refine ⟨k + max n 1, acc ++ fffd, hroom, congrArg (Value.int .i64) (by omega), rfl, hbel, ?_, ?_⟩
          · rw [List.length_append]; have : fffd.length = 3 := rfl; omega
          · rw [← Hrep.out, hra.out, List.append_assoc]; rfl
        case measure => (simp [intOf] <;> omega)
      · obtain ⟨t1, t2, t3⟩ := take_ok _ p n hd
        have hp4 := U.esize_pos p
        have T1 := Lib.hid t1
        have T2 := Lib.hid t2
        have T3 := Lib.hid t3
        have hdc := rdec_at s k p n true hs Hd
        simp only [if_true] at hdc
        have Hdc := Lib.hid hdc
        have hn0 : ((n : Int) == 0) = false := beq_eq_false_iff_ne.2 (by omega)
        have hn1 : 1 ≤ n := by omega
        have hn4 : n ≤ 4 := by omega
        have hel := Lib.hid (U.enc_length p)
        have hadd := fun w : World => run_add_lists (P := Try.prog) w acc (U.enc p) (by rw [hel.out]; omega)
        clear hdc hd t1 t2 t3
        go_wp2_with (first
          | (go_at_call 26; (with_reducible refine (Hdc.out _).mono ?_); rintro e w1 ⟨rfl, hb1⟩; have hbel := hbel.trans (hb1.mono hbel.size))
          | (go_at_call 41; (with_reducible refine (rencode_any p T2.out _).mono ?_); rintro e w3 ⟨rfl, hb3⟩; have hbel := hbel.trans (hb3.mono hbel.size)))
        go_roundw
        case rel =>
          refine ⟨k + n, acc ++ U.enc p, by omega, congrArg (Value.int .i64) (by omega), rfl, hbel, ?_, ?_⟩
          · rw [List.length_append, hel.out]; have := T3.out; omega
          · rw [← Hrep.out, hra.out, List.append_assoc]
            simp only [if_true]
            rw [T1.out, show max n 1 = n by omega]
        case measure => (simp [intOf] <;> omega)
    · have hac := Lib.hid (show acc = rep s.data.toList by rw [← Hrep.out, drop_end s k (by omega)]; simp [rep_nil])
      go_wp2
      go_ret
      exact ⟨by rw [← hac.out]; rfl, hbel⟩
/-- repairing keeps what is encoded -/
theorem rep_encs (ps : List Nat) (h : ∀ p ∈ ps, U.isPt p = true) (r : List UInt8) : rep (U.encs ps ++ r) = U.encs ps ++ rep r := by
  induction ps with
  | nil => rfl
  | cons p ps ih =>
    have hp := h p (List.mem_cons_self ..)
    have hpos := U.esize_pos p
    rw [U.encs_cons, List.append_assoc]
    have hd := U.dec_enc p hp (U.encs ps ++ r)
    rw [rep_step _ (by intro e; have := congrArg List.length e; rw [List.length_append, U.enc_length] at this; simp at this; omega), hd]
    simp only [if_true]
    rw [U.take_enc p _ _ rfl, show max (U.esize p) 1 = U.esize p by omega]
    have hdrop : (U.enc p ++ (U.encs ps ++ r)).drop (U.esize p) = U.encs ps ++ r := by rw [← U.enc_length]; simp
    rw [hdrop, ih (fun q hq => h q (List.mem_cons_of_mem _ hq)), List.append_assoc]
theorem rep_valid (n : Nat) : ∀ l : List UInt8, l.length ≤ n → ∃ qs, (∀ q ∈ qs, U.isPt q = true) ∧ rep l = U.encs qs := by
  induction n with
  | zero =>
    intro l h
    have : l = [] := List.length_eq_zero_iff.1 (by omega)
    subst this
    exact ⟨[], by simp, rfl⟩
  | succ n ih =>
    intro l hl
    by_cases he : l = []
    · subst he; exact ⟨[], by simp, rfl⟩
    · have hpos : 0 < l.length := List.length_pos_iff.2 he
      obtain ⟨qs, h1, h2⟩ := ih (l.drop (max (U.dec l).2.1 1)) (by rw [List.length_drop]; omega)
      rw [rep_step l he, h2]
      by_cases hb : (U.dec l).2.2 = true
      · obtain ⟨t1, t2, _⟩ := take_ok l (U.dec l).1 (U.dec l).2.1 (by rw [← hb])
        rw [if_pos hb, t1]
        refine ⟨(U.dec l).1 :: qs, ?_, rfl⟩
        intro q hq
        rcases List.mem_cons.1 hq with e | e
        · rw [e]; exact t2
        · exact h1 q e
      · rw [if_neg hb]
        refine ⟨65533 :: qs, ?_, rfl⟩
        intro q hq
        rcases List.mem_cons.1 hq with e | e
        · rw [e]; decide
        · exact h1 q e
theorem rep_ok (l : List UInt8) : (U.bad (rep l)).isEmpty = true := by
  obtain ⟨qs, h1, h2⟩ := rep_valid _ l (Nat.le_refl _)
  rw [h2, (U.scan_of qs h1).2]; rfl
theorem rep_split (l : List UInt8) : rep l = U.encs (U.pts l) ++ rep (U.bad l) := by
  conv => lhs; rw [U.split_all l]
  exact rep_encs _ (U.pts_ok l) _
theorem rep_same (l : List UInt8) (h : (U.bad l).isEmpty = true) : rep l = l := by
  have hb : U.bad l = [] := by simpa using h
  rw [rep_split, hb, rep_nil, List.append_nil, ← U.of_valid l hb]
theorem rep_len (n : Nat) : ∀ l : List UInt8, l.length ≤ n → (rep l).length ≤ 3 * l.length := by
  induction n with
  | zero =>
    intro l h
    have : l = [] := List.length_eq_zero_iff.1 (by omega)
    subst this
    simp [rep_nil]
  | succ n ih =>
    intro l hl
    by_cases he : l = []
    · subst he; simp [rep_nil]
    · have hpos : 0 < l.length := List.length_pos_iff.2 he
      have hle := dec_le l he
      have := ih (l.drop (max (U.dec l).2.1 1)) (by rw [List.length_drop]; omega)
      rw [rep_step l he, List.length_append]
      rw [List.length_drop] at this
      split
      · rw [List.length_take]; omega
      · have : fffd.length = 3 := rfl
        omega
/-- where the first error stands, and what stands before it -/
theorem first_prefix (l : List UInt8) (h : (U.bad l).isEmpty = false) : firstP l = ((U.encs (U.pts l)).length : Int) ∧ (U.encs (U.pts l)).length ≤ (rep l).length ∧ (U.encs (U.pts l)).length ≤ l.length ∧ (rep l).take (U.encs (U.pts l)).length = l.take (U.encs (U.pts l)).length := by
  have hs := U.split_all l
  have hl := congrArg List.length hs
  rw [List.length_append] at hl
  refine ⟨by unfold firstP; rw [h]; simp only [Bool.false_eq_true, if_false]; omega, by rw [rep_split, List.length_append]; omega, by omega, ?_⟩
  have hr := rep_split l
  clear hl h
  generalize U.encs (U.pts l) = A at hs hr ⊢
  generalize U.bad l = B at hs hr
  rw [hr, hs]
  simp
theorem rrepair_at (s : ByteArray) (t : List UInt8) (hs : s.size ≤ 4294967296) (h : Hid (rep s.data.toList = t)) (w : World) :
    Calls Try.prog 15 #[.string s] w fun e w' => e = .returned (.string ⟨t.toArray⟩) ∧ Below w.heap.size w w' := by
  have := rrepair_any s hs w
  rw [h.out] at this
  exact this
theorem valid_list (l : List UInt8) (b : Bool) (hl : l.length ≤ 4294967296) (h : Hid ((U.bad l).isEmpty = b)) (w : World) :
    Calls Try.prog 16 #[.string ⟨l.toArray⟩] w fun e w' => e = .returned (.bool b) ∧ w = w' := by
  have hd : (⟨l.toArray⟩ : ByteArray).data.toList = l := by simp
  exact valid_at ⟨l.toArray⟩ b (by simp [ByteArray.size]; omega) (by rw [hd]; exact h) w
set_option maxRecDepth 100000 in
set_option maxHeartbeats 800000 in
theorem lawRepairs (s : ByteArray) (hs : s.size ≤ 9223372036854775807) (w : World) : Calls Try.prog 3 #[.string s] w (LawPost w) := by
  have hc := size_cutS s
  have hcut := Lib.hid (cut_any s hs)
  clear hs
  generalize cutS s = t at hc hcut
  have ht : t.size ≤ 4294967296 := by omega
  have hB : Below w.heap.size w w := Below.refl _ _
  have hok := rep_ok t.data.toList
  have hrl := rep_len _ t.data.toList (Nat.le_refl _)
  rw [lenD t] at hrl
  obtain ⟨c, hb⟩ : ∃ c, (U.bad t.data.toList).isEmpty = c := ⟨_, rfl⟩
  cases c
  · obtain ⟨g1, g2, g3, g4⟩ := first_prefix t.data.toList hb
    rw [lenD t] at g3
    obtain ⟨r, hr⟩ : ∃ r, rep t.data.toList = r := ⟨_, rfl⟩
    rw [hr] at hok hrl g2 g4
    generalize (U.encs (U.pts t.data.toList)).length = n at g1 g2 g3 g4
    have Hr := Lib.hid hr
    have Hok := Lib.hid hok
    have G1 := Lib.hid g1
    have hr2 : r.length ≤ 4294967296 := by omega
    have heq : ((⟨r.toArray⟩ : ByteArray).extract 0 n).toList = (t.extract 0 n).toList := by
      rw [Lib.toList_data, Lib.toList_data, extract_take, extract_take]; exact g4
    have heq2 : (((⟨r.toArray⟩ : ByteArray).extract 0 n).toList == (t.extract 0 n).toList) = true := by rw [heq]; simp
    have hdn : decide ((n : Int) ≤ r.length) = true := decide_eq_true (by omega)
    clear hr hok g1 g4 heq hrl hb
    go_enter Try.func3, Try.ntmps3
    go_wp2_with (first
      | (go_at_call 12; (with_reducible refine (hcut.out _).mono ?_); rintro e w' ⟨rfl, rfl⟩)
      | (go_at_call 14; (with_reducible refine (known_any _).mono ?_); rintro e w1 ⟨rfl, hb1⟩; have hB := hB.trans (hb1.mono hB.size))
      | (go_at_call 13; (with_reducible refine (repair_at t r ht Hr _).mono ?_); rintro e w2 ⟨rfl, hb2⟩; have hB := hB.trans (hb2.mono hB.size))
      | (go_at_call 15; (with_reducible refine (rrepair_at t r ht Hr _).mono ?_); rintro e w3 ⟨rfl, hb3⟩; have hB := hB.trans (hb3.mono hB.size))
      | (go_at_call 16; (with_reducible refine (valid_list r true hr2 Hok _).mono ?_); rintro e w' ⟨rfl, rfl⟩)
      | (go_at_call 17; (with_reducible refine (rfirst_at t n ht G1 _).mono ?_); rintro e w4 ⟨rfl, hb4⟩; have hB := hB.trans (hb4.mono hB.size)))
    go_quiet (fail)
    go_wp2
    go_ret
    exact ⟨by simp, below_drewN hB _⟩
  · have hr := rep_same t.data.toList hb
    have hz := Lib.hid (firstP_good t hb)
    obtain ⟨r, hrr⟩ : ∃ r, rep t.data.toList = r := ⟨_, rfl⟩
    have heq2 : (r == t.toList) = true := by rw [← hrr, hr, Lib.toList_data]; simp
    have Hok := Lib.hid (show (U.bad r).isEmpty = true by rw [← hrr]; exact hok)
    have hr2 : r.length ≤ 4294967296 := by rw [← hrr]; omega
    have Hr := Lib.hid hrr
    clear hr hok hb hrl hrr
    go_enter Try.func3, Try.ntmps3
    go_wp2_with (first
      | (go_at_call 12; (with_reducible refine (hcut.out _).mono ?_); rintro e w' ⟨rfl, rfl⟩)
      | (go_at_call 14; (with_reducible refine (known_any _).mono ?_); rintro e w1 ⟨rfl, hb1⟩; have hB := hB.trans (hb1.mono hB.size))
      | (go_at_call 13; (with_reducible refine (repair_at t r ht Hr _).mono ?_); rintro e w2 ⟨rfl, hb2⟩; have hB := hB.trans (hb2.mono hB.size))
      | (go_at_call 15; (with_reducible refine (rrepair_at t r ht Hr _).mono ?_); rintro e w3 ⟨rfl, hb3⟩; have hB := hB.trans (hb3.mono hB.size))
      | (go_at_call 16; (with_reducible refine (valid_list r true hr2 Hok _).mono ?_); rintro e w' ⟨rfl, rfl⟩)
      | (go_at_call 17; (with_reducible refine (rfirst_at t (-1) ht hz _).mono ?_); rintro e w4 ⟨rfl, hb4⟩; have hB := hB.trans (hb4.mono hB.size)))
    go_ret
    exact ⟨by simp, hB⟩
end Go.Proofs.Ytkoklnnlhfjbjaa
