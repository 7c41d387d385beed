/- Replace against the reference's; known. -/
import Derived.Test.YtbpokgjahlnfhaaPtd
namespace Go.Proofs.Ytbpokgjahlnfhaa
open Go.RowKit Go.Shelf

theorem Tr.str_size (t : Tr) : t.str.size = t.size := by
  show t.bytes.toArray.size = t.bytes.length
  simp
theorem Tr.str_list (t : Tr) : t.str.data.toList = t.bytes := by
  show t.bytes.toArray.toList = t.bytes
  simp
theorem rep_ref (t : Tr) (a b : Int) (s : ByteArray) : refRep t.str a b s = ((t.replace a b s).2.str, (t.replace a b s).1) := by
  unfold refRep Tr.replace wrongNo
  rw [Tr.str_size]
  by_cases h1 : a < 0 ∨ b < a ∨ (t.size : Int) < b
  · rw [if_pos h1, if_pos h1]
    rfl
  · rw [if_neg h1, if_neg h1, if_neg (show ¬ ((0 : Nat) = 2) by omega)]
    by_cases h2 : (65536 : Int) < (t.size : Int) - (b - a) + (s.size : Int)
    · rw [if_pos h2, if_pos (by omega)]
    · rw [if_neg h2, if_neg (by omega)]
      congr 1
      apply bytes_ext
      rw [Tr.str_list, Tr.bytes_repl _ _ _ _ (by omega) (by omega)]
      have e := Tr.str_list t
      have z : t.size = t.bytes.length := rfl
      simp [e]
      rw [List.take_of_length_le (by simp; omega)]
theorem rep_okay {t : Tr} (h : t.okay) (a b : Int) (s : ByteArray) : (t.replace a b s).2.okay := by
  unfold Tr.replace
  split
  · exact h
  · rename_i h1
    have hw : ¬ (a < 0 ∨ b < a ∨ (t.size : Int) < b) := fun hh => h1 (by unfold wrongNo; rw [if_pos hh])
    split
    · exact h
    · rename_i h2
      refine ⟨Tr.full_repl h.1 a b _, ?_⟩
      show (t.repl a b s.data.toList).bytes.length ≤ 65536
      rw [Tr.bytes_repl _ _ _ _ (by omega) (by omega)]
      have z : t.size = t.bytes.length := rfl
      have z1 : s.data.toList.length = s.size := by simp
      simp only [List.length_append, List.length_take, List.length_drop]
      omega
theorem rep_avl {t : Tr} (h : t.avl) (a b : Int) (s : ByteArray) : (t.replace a b s).2.avl := by
  unfold Tr.replace
  split
  · exact h
  · split
    · exact h
    · exact Tr.avl_repl h a b _
theorem rep_count (t : Tr) (a b : Int) (s : ByteArray) : (t.replace a b s).2.count ≤ t.count + (if (t.replace a b s).1 = 0 then 2 else 0) := by
  unfold Tr.replace
  split
  · simp
  · rename_i h1
    have hw : ¬ (a < 0 ∨ b < a ∨ (t.size : Int) < b) := fun hh => h1 (by unfold wrongNo; rw [if_pos hh])
    split
    · simp
    · have := Tr.count_repl t a b s.data.toList (by omega) (by omega)
      simpa using this
theorem rep_size (t : Tr) (a b : Int) (s : ByteArray) : (t.replace a b s).2.size ≤ t.size + s.size := by
  unfold Tr.replace
  split
  · simp
  · rename_i h1
    have hw : ¬ (a < 0 ∨ b < a ∨ (t.size : Int) < b) := fun hh => h1 (by unfold wrongNo; rw [if_pos hh])
    split
    · simp
    · show (t.repl a b s.data.toList).bytes.length ≤ _
      rw [Tr.bytes_repl _ _ _ _ (by omega) (by omega)]
      have z : t.size = t.bytes.length := rfl
      have z1 : s.data.toList.length = s.size := by simp
      simp only [List.length_append, List.length_take, List.length_drop]
      omega
theorem str_fresh (s : ByteArray) : (Tr.fresh s).str = s := by
  apply bytes_ext
  rw [Tr.str_list, Tr.bytes_fresh]

/-! ### known -/
def K0 : Tr := Tr.fresh ⟨#[97, 98, 99, 100, 101, 102]⟩
def K1 : Tr := (K0.replace 1 3 ⟨#[]⟩).2
def K2 : Tr := (K1.replace 2 2 ⟨#[88]⟩).2
theorem K1_ref : (K0.replace 1 3 ⟨#[]⟩).1 = 0 ∧ K1.str = ⟨#[97, 100, 101, 102]⟩ := by
  have h := rep_ref K0 1 3 ⟨#[]⟩
  rw [show K0.str = ⟨#[97, 98, 99, 100, 101, 102]⟩ from str_fresh _, show refRep ⟨#[97, 98, 99, 100, 101, 102]⟩ 1 3 ⟨#[]⟩ = (⟨#[97, 100, 101, 102]⟩, 0) from by decide +kernel] at h
  injection h with h1 h2
  exact ⟨h2.symm, h1.symm⟩
theorem K2_ref : (K1.replace 2 2 ⟨#[88]⟩).1 = 0 ∧ K2.str = ⟨#[97, 100, 88, 101, 102]⟩ := by
  have h := rep_ref K1 2 2 ⟨#[88]⟩
  rw [K1_ref.2, show refRep ⟨#[97, 100, 101, 102]⟩ 2 2 ⟨#[88]⟩ = (⟨#[97, 100, 88, 101, 102]⟩, 0) from by decide +kernel] at h
  injection h with h1 h2
  exact ⟨h2.symm, h1.symm⟩
theorem K_okay : K0.okay ∧ K1.okay ∧ K2.okay := by
  have h := (Tr.okay_fresh ⟨#[97, 98, 99, 100, 101, 102]⟩ (by decide)).1
  exact ⟨h, rep_okay h _ _ _, rep_okay (rep_okay h _ _ _) _ _ _⟩
theorem K_count : 1 ≤ K2.count ∧ K2.count ≤ 5 := by
  constructor
  · apply Tr.pos_of_bytes
    intro h
    have := K2_ref.2
    unfold Tr.str at this
    rw [h] at this
    exact absurd this (by decide)
  · have h0 := (Tr.okay_fresh ⟨#[97, 98, 99, 100, 101, 102]⟩ (by decide)).2.2
    have h1 := rep_count K0 1 3 ⟨#[]⟩
    have h2 := rep_count K1 2 2 ⟨#[88]⟩
    rw [if_pos K1_ref.1] at h1
    rw [if_pos K2_ref.1] at h2
    have e1 : (K0.replace 1 3 ⟨#[]⟩).2 = K1 := rfl
    have e2 : (K1.replace 2 2 ⟨#[88]⟩).2 = K2 := rfl
    have e0 : K0 = Tr.fresh ⟨#[97, 98, 99, 100, 101, 102]⟩ := rfl
    rw [e1] at h1
    rw [e2] at h2
    rw [← e0] at h0
    omega
theorem K2_size : K2.size = 5 := by
  rw [← Tr.str_size, K2_ref.2]
  rfl
/-- Delete, Insert of the example, with their numbers -/
theorem kdel {w : World} {tb : Nat} (h : Tree w tb K0) : Calls Try.prog 34 #[.pointer (some ⟨tb, 0, none⟩), .int .i64 1, .int .i64 3] w (Done tb K1 0 w) := by
  have := del_any 1 3 h K_okay.1
  rw [K1_ref.1] at this
  exact this
theorem kins {w : World} {tb : Nat} (h : Tree w tb K1) : Calls Try.prog 17 #[.pointer (some ⟨tb, 0, none⟩), .int .i64 2, .string ⟨#[88]⟩] w (Done tb K2 0 w) := by
  have := ins_any 2 ⟨#[88]⟩ h K_okay.2.1 (by decide)
  rw [K2_ref.1] at this
  exact this
theorem kstr {w : World} {tb : Nat} (h : Tree w tb K2) : Calls Try.prog 21 #[.pointer (some ⟨tb, 0, none⟩)] w fun e w' => e = .returned (.string ⟨#[97, 100, 88, 101, 102]⟩) ∧ Below w.heap.size w w' := by
  have := tstring_any h K_okay.2.2
  rw [K2_ref.2] at this
  exact this
theorem klen {w : World} {tb : Nat} (h : Tree w tb K2) : Calls Try.prog 15 #[.pointer (some ⟨tb, 0, none⟩)] w fun e w' => e = .returned (.int .i64 5) ∧ w = w' := by
  have := tlen_any h
  rw [K2_size] at this
  exact this
set_option maxHeartbeats 2000000 in
theorem known_any (w : World) : Calls Try.prog 13 #[] w fun e w' => e = .returned (.bool true) ∧ Below w.heap.size w w' := by
  obtain ⟨kc1, kc2⟩ := K_count
  have d5 : decide ((K2.count : Int) ≤ 5) = true := by simp; omega
  go_enter Try.func13, Try.ntmps13
  go_wp2_with (first
    | (go_at_call 14; refine (tnew_ok _ _ (by decide)).mono ?_; rintro e w1 ⟨tb, rfl, h1, h2, h3⟩)
    | (go_at_call 34; refine (kdel h2).mono ?_; rintro e w2 ⟨rfl, h4, h5⟩)
    | (go_at_call 17; refine (kins h4).mono ?_; rintro e w3 ⟨rfl, h6, h7⟩)
    | (go_at_call 21; refine (kstr h6).mono ?_; rintro e w4 ⟨rfl, h8⟩)
    | (go_at_call 15; refine (klen (h6.below h8)).mono ?_; rintro e w5 ⟨rfl, rfl⟩)
    | (go_at_call 22; first | (refine (tpieces_any (h6.below h8)).mono ?_; rintro e w5 ⟨rfl, n5, rfl⟩) | (refine (tpieces_any ((h6.below h8).drewN _)).mono ?_; rintro e w6 ⟨rfl, n6, rfl⟩)))
  go_ret
  have b1 := h3.trans (h5.toBelow (by simp; exact h1) h3.size)
  have b2 := b1.trans (h7.toBelow (by simp; exact h1) b1.size)
  exact ⟨by rw [← d5]; rfl, below_drewN (b2.trans (h8.mono b2.size)) _⟩

/-! ### one operation of the law -/
structure OpP where
  kind : Nat
  src : Int
  dst : Int
  text : ByteArray
def OpP.cut (o : OpP) : ByteArray := o.text.extract 0 (min o.text.size 200)
theorem OpP.cut_size (o : OpP) : o.cut.size ≤ 200 := by
  unfold OpP.cut
  simp
  omega
/-- the number and the tree behind one operation -/
def stepT (t : Tr) (o : OpP) : Nat × Tr :=
  if o.kind % 4 = 0 then t.replace (nearP o.src t.size) (nearP o.src t.size) o.cut
  else if o.kind % 4 = 1 then t.replace (nearP o.src t.size) (nearP o.dst t.size) ⟨#[]⟩
  else if o.kind % 4 = 2 then t.replace (nearP o.src t.size) (nearP o.dst t.size) o.cut
  else (0, t)
/-- how many edits one operation adds -/
def editT (t : Tr) (o : OpP) : Nat := if o.kind % 4 = 3 then 0 else if (stepT t o).1 = 0 then 1 else 0
def runS (s : ByteArray) (l : List OpP) (k : Nat) : Tr × Nat := (l.take k).foldl (fun st o => ((stepT st.1 o).2, st.2 + editT st.1 o)) (Tr.fresh s, 0)
theorem runS_zero (s : ByteArray) (l : List OpP) : runS s l 0 = (Tr.fresh s, 0) := by simp [runS]
theorem runS_step {s : ByteArray} {l : List OpP} {k : Nat} (h : k < l.length) : runS s l (k + 1) = ((stepT (runS s l k).1 l[k]).2, (runS s l k).2 + editT (runS s l k).1 l[k]) := by
  unfold runS
  rw [List.take_succ_eq_append_getElem h, List.foldl_append]
  rfl
theorem runS_all {s : ByteArray} {l : List OpP} {k : Nat} (h : l.length ≤ k) : runS s l k = runS s l l.length := by unfold runS; rw [List.take_of_length_le h, List.take_length]
theorem step_inv (t : Tr) (o : OpP) (h : t.okay) : (stepT t o).2.okay ∧ (t.avl → (stepT t o).2.avl) ∧ (stepT t o).2.count ≤ t.count + 2 * editT t o ∧ (stepT t o).2.size ≤ t.size + 200 ∧ editT t o ≤ 1 := by
  have hc := o.cut_size
  unfold editT stepT
  by_cases h0 : o.kind % 4 = 0
  · rw [if_pos h0, if_neg (by omega)]
    have c := rep_count t (nearP o.src t.size) (nearP o.src t.size) o.cut
    have z := rep_size t (nearP o.src t.size) (nearP o.src t.size) o.cut
    refine ⟨rep_okay h _ _ _, fun ha => rep_avl ha _ _ _, ?_, by omega, by split <;> omega⟩
    split at c <;> rename_i hh
    · rw [if_pos hh]; omega
    · rw [if_neg hh]; omega
  · by_cases h1 : o.kind % 4 = 1
    · rw [if_neg h0, if_pos h1, if_neg (by omega)]
      have c := rep_count t (nearP o.src t.size) (nearP o.dst t.size) ⟨#[]⟩
      have z := rep_size t (nearP o.src t.size) (nearP o.dst t.size) ⟨#[]⟩
      have z0 : (⟨#[]⟩ : ByteArray).size = 0 := rfl
      refine ⟨rep_okay h _ _ _, fun ha => rep_avl ha _ _ _, ?_, by omega, by split <;> omega⟩
      split at c <;> rename_i hh
      · rw [if_pos hh]; omega
      · rw [if_neg hh]; omega
    · by_cases h2 : o.kind % 4 = 2
      · rw [if_neg h0, if_neg h1, if_pos h2, if_neg (by omega)]
        have c := rep_count t (nearP o.src t.size) (nearP o.dst t.size) o.cut
        have z := rep_size t (nearP o.src t.size) (nearP o.dst t.size) o.cut
        refine ⟨rep_okay h _ _ _, fun ha => rep_avl ha _ _ _, ?_, by omega, by split <;> omega⟩
        split at c <;> rename_i hh
        · rw [if_pos hh]; omega
        · rw [if_neg hh]; omega
      · rw [if_neg h0, if_neg h1, if_neg h2, if_pos (by omega)]
        exact ⟨h, fun ha => ha, by simp only; omega, by simp only; omega, by omega⟩
theorem run_inv (s : ByteArray) (l : List OpP) (k : Nat) (hs : s.size ≤ 300) : (runS s l k).1.okay ∧ (runS s l k).1.avl ∧ (runS s l k).1.count ≤ 1 + 2 * (runS s l k).2 ∧ (runS s l k).1.size ≤ 300 + 200 * k ∧ (runS s l k).2 ≤ k := by
  induction k with
  | zero =>
    rw [runS_zero]
    obtain ⟨h1, h2, h3⟩ := Tr.okay_fresh s (by omega)
    have e : (Tr.fresh s).size = s.size := by rw [← Tr.str_size, str_fresh]
    exact ⟨h1, h2, by omega, by show (Tr.fresh s).size ≤ _; omega, by omega⟩
  | succ k ih =>
    by_cases hk : k < l.length
    · rw [runS_step hk]
      obtain ⟨i1, i2, i3, i4, i5⟩ := ih
      obtain ⟨j1, j2, j3, j4, j5⟩ := step_inv (runS s l k).1 l[k] i1
      exact ⟨j1, j2 i2, by simp only; omega, by simp only; omega, by simp only; omega⟩
    · rw [runS_all (show l.length ≤ k + 1 by omega)]
      rw [runS_all (show l.length ≤ k by omega)] at ih
      obtain ⟨i1, i2, i3, i4, i5⟩ := ih
      exact ⟨i1, i2, i3, by omega, by omega⟩
end Go.Proofs.Ytbpokgjahlnfhaa
