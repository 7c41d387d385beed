/- Points, letters, Fold, Make at lists of bytes; a pattern in memory; the printed body, plain. -/
import Derived.Test.YtdcdlmigagjbiaaDoorHl2
import Derived.Test.YtdcdlmigagjbiaaDoorHad
import Derived.Test.YtdcdlmigagjbiaaDoorHbl
namespace Go.Proofs.YtdcdlmigagjbiaaDoor
open Go.RowKit
theorem ba_data (l : List UInt8) : (⟨l.toArray⟩ : ByteArray).data.toList = l := rfl
theorem ba_size (l : List UInt8) : (⟨l.toArray⟩ : ByteArray).size = l.length := by simp [ByteArray.size]
/-- Points of a string that is not valid -/
theorem pts_bad {l : List UInt8} (h : (U.bad l).isEmpty = false) (hs : l.length ≤ 4294967296) (w : World) :
    Calls Tryd.prog 38 #[.string ⟨l.toArray⟩] w fun e w' => e = .returned (.tuple #[.slice none 0 0, .int .i64 12]) ∧ Below w.heap.size w w' := by
  refine (points_any ⟨l.toArray⟩ (by rw [ba_size]; exact hs) w).mono ?_
  rintro e w' ⟨v, he, hb, hv⟩
  rw [ba_data, h] at he hv
  exact ⟨by rw [he, show v = _ from hv]; rfl, hb⟩
/-- .. of a valid string -/
theorem pts_ok {l : List UInt8} (h : (U.bad l).isEmpty = true) (hs : l.length ≤ 4294967296) (w : World) :
    Calls Tryd.prog 38 #[.string ⟨l.toArray⟩] w fun e w' => ∃ ao cap, e = .returned (.tuple #[.slice ao (ptsI l).length cap, .int .i64 0]) ∧ Below w.heap.size w w' ∧ Hid (IntRow w' w.heap.size (.slice ao (ptsI l).length cap) (ptsI l)) := by
  refine (points_any ⟨l.toArray⟩ (by rw [ba_size]; exact hs) w).mono ?_
  rintro e w' ⟨v, he, hb, hv⟩
  rw [ba_data, h] at he hv
  have hv' : IntRow w' w.heap.size v (ptsI l) := hv
  obtain ⟨ao, cap, rfl⟩ := row_slice hv'
  exact ⟨ao, cap, he, hb, Lib.hid hv'⟩
theorem lets_at (l : List UInt8) (hs : l.length ≤ 4294967296) (w : World) :
    Calls Tryd.prog 39 #[.string ⟨l.toArray⟩] w fun e w' => ∃ v, e = .returned (.tuple #[v, .bool (letsP l)]) ∧ Below w.heap.size w w' :=
  (letters_any ⟨l.toArray⟩ (by rw [ba_size]; exact hs) w).mono fun e w' ⟨v, he, hb, _⟩ => ⟨v, he, hb⟩
theorem lets2_at (l : List UInt8) (hs : l.length ≤ 4294967296) (w : World) :
    Calls Tryd.prog 44 #[.string ⟨l.toArray⟩] w fun e w' => ∃ v, e = .returned (.tuple #[v, .bool (letsP l)]) ∧ Below w.heap.size w w' :=
  (letters2_any ⟨l.toArray⟩ (by rw [ba_size]; exact hs) w).mono fun e w' ⟨v, he, hb, _⟩ => ⟨v, he, hb⟩
/-- letters of a string of letters -/
theorem lets_yes {l : List UInt8} (h : letsP l = true) (hs : l.length ≤ 4294967296) (w : World) :
    Calls Tryd.prog 39 #[.string ⟨l.toArray⟩] w fun e w' => ∃ ao cap, e = .returned (.tuple #[.slice ao (ptsI l).length cap, .bool true]) ∧ Below w.heap.size w w' ∧ Hid (IntRow w' w.heap.size (.slice ao (ptsI l).length cap) (ptsI l)) := by
  refine (letters_any ⟨l.toArray⟩ (by rw [ba_size]; exact hs) w).mono ?_
  rintro e w' ⟨v, he, hb, hv⟩
  rw [ba_data] at he hv
  rw [if_pos h] at hv
  obtain ⟨ao, cap, rfl⟩ := row_slice hv
  exact ⟨ao, cap, by rw [he, h], hb, Lib.hid hv⟩
theorem lets2_yes {l : List UInt8} (h : letsP l = true) (hs : l.length ≤ 4294967296) (w : World) :
    Calls Tryd.prog 44 #[.string ⟨l.toArray⟩] w fun e w' => ∃ ao cap, e = .returned (.tuple #[.slice ao (ptsI l).length cap, .bool true]) ∧ Below w.heap.size w w' ∧ Hid (IntRow w' w.heap.size (.slice ao (ptsI l).length cap) (ptsI l)) := by
  refine (letters2_any ⟨l.toArray⟩ (by rw [ba_size]; exact hs) w).mono ?_
  rintro e w' ⟨v, he, hb, hv⟩
  rw [ba_data] at he hv
  rw [if_pos h] at hv
  obtain ⟨ao, cap, rfl⟩ := row_slice hv
  exact ⟨ao, cap, by rw [he, h], hb, Lib.hid hv⟩
theorem lets_no {l : List UInt8} (h : letsP l = false) (hs : l.length ≤ 4294967296) (w : World) :
    Calls Tryd.prog 39 #[.string ⟨l.toArray⟩] w fun e w' => e = .returned (.tuple #[.slice none 0 0, .bool false]) ∧ Below w.heap.size w w' := by
  refine (letters_any ⟨l.toArray⟩ (by rw [ba_size]; exact hs) w).mono ?_
  rintro e w' ⟨v, he, hb, hv⟩
  rw [ba_data] at he hv
  rw [if_neg (by rw [h]; simp)] at hv
  exact ⟨by rw [he, h, hv], hb⟩
theorem lets2_no {l : List UInt8} (h : letsP l = false) (hs : l.length ≤ 4294967296) (w : World) :
    Calls Tryd.prog 44 #[.string ⟨l.toArray⟩] w fun e w' => e = .returned (.tuple #[.slice none 0 0, .bool false]) ∧ Below w.heap.size w w' := by
  refine (letters2_any ⟨l.toArray⟩ (by rw [ba_size]; exact hs) w).mono ?_
  rintro e w' ⟨v, he, hb, hv⟩
  rw [ba_data] at he hv
  rw [if_neg (by rw [h]; simp)] at hv
  exact ⟨by rw [he, h, hv], hb⟩
theorem fold_at (l : List UInt8) (hs : l.length ≤ 4294967296) (w : World) :
    Calls Tryd.prog 29 #[.string ⟨l.toArray⟩] w fun e w' => e = .returned (.string ⟨(foldP l).toArray⟩) ∧ Below w.heap.size w w' :=
  fold_any ⟨l.toArray⟩ (by rw [ba_size]; exact hs) w
/-- Make of one point of a row of points -/
theorem make_one {w : World} {v : Value} {b off c : Nat} {z : Int} (hz : isPtI z = true) (hv : v = .slice (some ⟨b, off, none⟩) 1 c) (hc : 1 ≤ c ∧ c ≤ maxLen) (hlt : b < w.heap.size) (hcell : w.cell? ⟨b, off, none⟩ = some (.int .i64 z)) :
    Calls Tryd.prog 41 #[v] w fun e w' => e = .returned (.tuple #[.string ⟨(U.enc z.toNat).toArray⟩, .int .i64 0]) ∧ Below w.heap.size w w' := by
  have hi : Ints w v [z] := ⟨some ⟨b, off, none⟩, c, hv, hc.1, hc.2, fun _ => ⟨b, off, rfl, hlt, fun j hj => by
    have : j = 0 := by simp at hj; exact hj
    subst this
    exact hcell⟩⟩
  refine (make_any v [z] w (by simp) hi).mono ?_
  rintro e w' ⟨he, hb⟩
  have hm : makeP [z] = (U.enc z.toNat, 0) := by
    unfold makeP
    rw [show okI [z] = true from by simp [okI, hz]]
    simp [encI, U.encs]
  rw [hm] at he
  exact ⟨he, hb⟩
theorem below_drewN {B : Nat} {a w : World} (h : Below B a w) (n : Nat) : Below B a (w.drewN n) := ⟨h.os, h.tape, h.output, h.size, h.block⟩
theorem below_undrewN {B n : Nat} {a w : World} (h : Below B (a.drewN n) w) : Below B a w := ⟨h.os, h.tape, h.output, h.size, h.block⟩
/-- the four cells of a pattern -/
theorem Blk.four {w : World} {g : Nat} {t : TypeId} {a b c d : Value} (h : Blk w g t #[a, b, c, d]) : w.cell? ⟨g, 0, none⟩ = some a ∧ w.cell? ⟨g, 1, none⟩ = some b ∧ w.cell? ⟨g, 2, none⟩ = some c ∧ w.cell? ⟨g, 3, none⟩ = some d :=
  ⟨h.cell 0, h.cell 1, h.cell 2, h.cell 3⟩
theorem builder_below {T e : TypeId} {B b : Nat} {bs : List Value} {w w' : World} (h : Lib.IsBuilder T e B b bs w) (hb : Below w.heap.size w w') : Lib.IsBuilder T e B b bs w' := by
  have go : ∀ p, Lib.BuilderAt T e B b p bs w → Lib.BuilderAt T e B b p bs w' := by
    rintro p ⟨h1, v, h2, h3, h4⟩
    exact ⟨h1, v, (hb.block b (Array.getElem?_eq_some_iff.1 h2).1).trans h2, row_turn h3 (Turn.ofBelow (F := []) hb (Nat.le_refl _)) (fun _ _ => by simp), h4⟩
  rcases h with h | h
  · exact .inl (go _ h)
  · exact .inr (go _ h)

theorem used_builder {T e : TypeId} {B b : Nat} {bs : List Value} {w : World} (h : Lib.BuilderAt T e B b (.pointer (some ⟨b, 0, none⟩)) bs w) : Lib.IsBuilder T e B b bs w := Or.inr h

/-! ### the printed body, step by step -/
theorem body_snoc : ∀ (ns ps : List Int) (k : Nat), k < ns.length → bodyB (ns.take (k + 1)) ps = bodyB (ns.take k) ps ++ (digB (ns.getD k 0) ++ (if k < ps.length then U.enc (ps.getD k 0).toNat else []))
  | n :: ns, [], 0, _ => by simp [bodyB]
  | n :: ns, p :: ps, 0, _ => by simp [bodyB]
  | n :: ns, [], k + 1, h => by
    have ih := body_snoc ns [] k (by simpa using h)
    simp only [List.take_succ_cons, bodyB, List.getD_cons_succ, ih]
    simp
  | n :: ns, p :: ps, k + 1, h => by
    have ih := body_snoc ns ps k (by simpa using h)
    simp only [List.take_succ_cons, bodyB, List.getD_cons_succ, ih]
    simp
theorem byteCells_append (a b : List UInt8) : Lib.byteCells (a ++ b) = Lib.byteCells a ++ Lib.byteCells b := by simp [Lib.byteCells]
theorem dig_cells {z : Int} (h : 0 < z) (h9 : ¬ 9 < z) : Lib.byteCells (digB z) = [.int .u8 (48 + z)] := by
  unfold digB
  rw [if_pos h]
  show [Value.int .u8 ((UInt8.ofNat (48 + z.toNat)).toNat : Int)] = _
  rw [byteCell (48 + z.toNat) (48 + z) (by omega) (by omega)]
theorem dig_none {z : Int} (h : ¬ 0 < z) : digB z = [] := by unfold digB; rw [if_neg h]
theorem dig_len (n : Int) : (digB n).length ≤ 1 := by unfold digB; split <;> simp
theorem body_len (ns ps : List Int) : ∀ k, k ≤ ns.length → (bodyB (ns.take k) ps).length ≤ 5 * k
  | 0, _ => by simp [bodyB]
  | k + 1, h => by
    have ih := body_len ns ps k (by omega)
    rw [body_snoc ns ps k (by omega), List.length_append, List.length_append]
    have h1 := dig_len (ns.getD k 0)
    have h2 : (if k < ps.length then U.enc (ps.getD k 0).toNat else ([] : List UInt8)).length ≤ 4 := by
      split
      · rw [U.enc_length]; exact (U.esize_pos _).2
      · simp
    omega
theorem lv_no {ns : List Int} {k : Nat} (h : k < ns.length) (hk : lvOk (ns.getD k 0) = false) : ns.all lvOk = false := by
  rw [List.all_eq_false]
  refine ⟨ns[k], List.getElem_mem h, ?_⟩
  rw [List.getD_eq_getElem?_getD, List.getElem?_eq_getElem h] at hk
  simpa using hk
theorem lv_yes {ns : List Int} (h : ∀ k, k < ns.length → lvOk (ns.getD k 0) = true) : ns.all lvOk = true := by
  rw [List.all_eq_true]
  intro x hx
  obtain ⟨k, hk, rfl⟩ := List.mem_iff_getElem.1 hx
  have := h k hk
  rwa [List.getD_eq_getElem?_getD, List.getElem?_eq_getElem hk] at this
/-- what Print leaves -/
def PrintPost (P : Pat) (w : World) (e : Ending) (w' : World) : Prop :=
  e = .returned (.tuple #[.string ⟨(printP P).2.toArray⟩, .int .i64 ((printP P).1 : Int)]) ∧ Below w.heap.size w w'
theorem printPost {P : Pat} {w w' : World} {n : Nat} {t : List UInt8} (h : printP P = (n, t)) (hb : Below w.heap.size w w') : PrintPost P w (.returned (.tuple #[.string ⟨t.toArray⟩, .int .i64 (n : Int)])) w' := ⟨by rw [h], hb⟩
theorem printP_bad {P : Pat} (h : (U.bad P.letters).isEmpty = false) : printP P = (12, []) := by unfold printP; rw [if_pos h]
theorem printP_empty {P : Pat} (h : (U.bad P.letters).isEmpty = true) (h0 : (ptsI P.letters).length = 0) : printP P = (11, []) := by
  unfold printP; rw [if_neg (by rw [h]; simp), if_pos (List.eq_nil_of_length_eq_zero h0)]
theorem printP_long {P : Pat} (h : (U.bad P.letters).isEmpty = true) (h0 : 40 < (ptsI P.letters).length) : printP P = (10, []) := by
  unfold printP; rw [if_neg (by rw [h]; simp), if_neg (by intro e; rw [e] at h0; simp at h0), if_pos h0]
theorem printP_syn {P : Pat} (h : (U.bad P.letters).isEmpty = true) (h0 : (ptsI P.letters).length ≠ 0) (h1 : ¬ 40 < (ptsI P.letters).length) (h2 : letsP P.letters = false ∨ foldP P.letters ≠ P.letters) : printP P = (14, []) := by
  unfold printP; rw [if_neg (by rw [h]; simp), if_neg (by intro e; rw [e] at h0; exact h0 rfl), if_neg h1, if_pos h2]
theorem printP_form {P : Pat} (h : (U.bad P.letters).isEmpty = true) (h0 : (ptsI P.letters).length ≠ 0) (h1 : ¬ 40 < (ptsI P.letters).length) (h2 : letsP P.letters = true) (h3 : foldP P.letters = P.letters) (h4 : P.levels.length ≠ (ptsI P.letters).length + 1) : printP P = (15, []) := by
  unfold printP; rw [if_neg (by rw [h]; simp), if_neg (by intro e; rw [e] at h0; exact h0 rfl), if_neg h1, if_neg (by rw [h2, h3]; simp), if_pos h4]
theorem printP_range {P : Pat} (h : (U.bad P.letters).isEmpty = true) (h0 : (ptsI P.letters).length ≠ 0) (h1 : ¬ 40 < (ptsI P.letters).length) (h2 : letsP P.letters = true) (h3 : foldP P.letters = P.letters) (h4 : P.levels.length = (ptsI P.letters).length + 1) (h5 : P.levels.all lvOk = false) : printP P = (2, []) := by
  unfold printP; rw [if_neg (by rw [h]; simp), if_neg (by intro e; rw [e] at h0; exact h0 rfl), if_neg h1, if_neg (by rw [h2, h3]; simp), if_neg (by simpa using h4), if_pos h5]
theorem printP_ok {P : Pat} (h : (U.bad P.letters).isEmpty = true) (h0 : (ptsI P.letters).length ≠ 0) (h1 : ¬ 40 < (ptsI P.letters).length) (h2 : letsP P.letters = true) (h3 : foldP P.letters = P.letters) (h4 : P.levels.length = (ptsI P.letters).length + 1) (h5 : P.levels.all lvOk = true) : printP P = (0, dotB P.beg ++ bodyB P.levels (ptsI P.letters) ++ dotB P.fin) := by
  unfold printP; rw [if_neg (by rw [h]; simp), if_neg (by intro e; rw [e] at h0; exact h0 rfl), if_neg h1, if_neg (by rw [h2, h3]; simp), if_neg (by simpa using h4), if_neg (by rw [h5]; simp)]
end Go.Proofs.YtdcdlmigagjbiaaDoor
