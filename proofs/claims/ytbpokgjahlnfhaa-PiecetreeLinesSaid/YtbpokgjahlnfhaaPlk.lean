/- The places of the line feeds, plain. -/
import Derived.Test.YtbpokgjahlnfhaaPtq
import Derived.Lib.Bytealg
namespace Go.Proofs.Ytbpokgjahlnfhaa

/-- the places of the line feeds of a list whose first byte has the place k -/
def fposF : List UInt8 → Nat → List Nat
  | [], _ => []
  | b :: r, k => if b = 10 then k :: fposF r (k + 1) else fposF r (k + 1)
def fpos (B : List UInt8) : List Nat := fposF B 0
theorem fposF_append (A B : List UInt8) (k : Nat) : fposF (A ++ B) k = fposF A k ++ fposF B (k + A.length) := by
  induction A generalizing k with
  | nil => simp [fposF]
  | cons a r ih =>
    simp only [List.cons_append, fposF]
    rw [ih, show k + 1 + r.length = k + (a :: r).length from by simp; omega]
    split <;> rfl
theorem fposF_shift (B : List UInt8) (k d : Nat) : fposF B (k + d) = (fposF B k).map (· + d) := by
  induction B generalizing k with
  | nil => rfl
  | cons b r ih =>
    simp only [fposF]
    rw [show k + d + 1 = k + 1 + d from by omega, ih]
    split <;> simp
theorem fposF_len (B : List UInt8) (k : Nat) : (fposF B k).length = (B.filter (· == 10)).length := by
  induction B generalizing k with
  | nil => rfl
  | cons b r ih =>
    simp only [fposF]
    by_cases h : b = 10
    · subst h
      rw [if_pos rfl]
      simp [ih]
    · rw [if_neg h]
      simp [h, ih]
theorem fposF_bd {B : List UInt8} {k p : Nat} (h : p ∈ fposF B k) : k ≤ p ∧ p < k + B.length := by
  induction B generalizing k with
  | nil => cases h
  | cons b r ih =>
    simp only [fposF] at h
    split at h
    · rcases List.mem_cons.1 h with rfl | h
      · simp
      · have := ih h; simp; omega
    · have := ih h; simp; omega
theorem fposF_head {L : List UInt8} {a p : Nat} {rest : List Nat} (h : fposF L a = p :: rest) : a ≤ p ∧ p - a < L.length ∧ fposF (L.drop (p + 1 - a)) (p + 1) = rest := by
  induction L generalizing a with
  | nil => cases h
  | cons b r ih =>
    simp only [fposF] at h
    split at h
    · injection h with h1 h2
      subst h1
      refine ⟨Nat.le_refl _, by simp, ?_⟩
      rw [show a + 1 - a = 1 from by omega]
      simpa using h2
    · obtain ⟨h1, h2, h3⟩ := ih h
      refine ⟨by omega, by simp; omega, ?_⟩
      rw [show p + 1 - a = (p + 1 - (a + 1)) + 1 from by omega]
      simpa using h3
theorem indexByte_none {L : List UInt8} {a : Nat} (h : fposF L a = []) : Lib.indexByte L 10 = -1 := by
  induction L generalizing a with
  | nil => rfl
  | cons b r ih =>
    simp only [fposF] at h
    split at h
    · cases h
    · rename_i hb
      have := ih h
      simp [Lib.indexByte, hb, this]
theorem indexByte_some {L : List UInt8} {a p : Nat} {rest : List Nat} (h : fposF L a = p :: rest) : Lib.indexByte L 10 = ((p - a : Nat) : Int) := by
  induction L generalizing a with
  | nil => cases h
  | cons b r ih =>
    simp only [fposF] at h
    split at h
    · rename_i hb
      injection h with h1 h2
      subst h1
      simp [Lib.indexByte, hb]
    · rename_i hb
      have e := ih h
      have hd := fposF_head h
      have hne : ¬ ((p - (a + 1) : Nat) : Int) = -1 := by omega
      simp only [Lib.indexByte]
      rw [e]
      simp [hb, hne]
      omega
theorem gD_append (A B : List Nat) (i : Nat) : (A ++ B).getD i 0 = if i < A.length then A.getD i 0 else B.getD (i - A.length) 0 := by
  simp only [List.getD_eq_getElem?_getD, List.getElem?_append]
  split <;> rfl
/-- the line feed number idx of a tree -/
def Tr.feedAt (t : Tr) (idx : Nat) : Nat := (fpos t.bytes).getD idx 0
theorem Tr.feeds_len (t : Tr) : (fpos t.bytes).length = t.feeds := fposF_len _ _
theorem feed_left (l : Tr) (p : List UInt8) (r : Tr) {idx : Nat} (h : idx < l.feeds) : (Tr.node l p r).feedAt idx = l.feedAt idx := by
  unfold Tr.feedAt fpos
  simp only [Tr.bytes]
  rw [List.append_assoc, fposF_append, gD_append, if_pos (by rw [fposF_len]; exact h)]
theorem feed_mid (l : Tr) (p : List UInt8) (r : Tr) {j : Nat} (h : j < (fpos p).length) : (Tr.node l p r).feedAt (l.feeds + j) = l.size + (fpos p).getD j 0 := by
  unfold Tr.feedAt fpos at *
  simp only [Tr.bytes]
  have e : (fposF l.bytes 0).length = l.feeds := fposF_len _ _
  rw [List.append_assoc, fposF_append, gD_append, if_neg (by omega), e, Nat.add_sub_cancel_left, fposF_append, gD_append, if_pos (by rw [fposF_len, ← fposF_len p 0]; exact h), fposF_shift]
  simp only [List.getD_eq_getElem?_getD, List.getElem?_map]
  rw [List.getElem?_eq_getElem h]
  simp
  have : l.size = l.bytes.length := rfl
  omega
theorem feed_right (l : Tr) (p : List UInt8) (r : Tr) {j : Nat} (h : j < r.feeds) : (Tr.node l p r).feedAt (l.feeds + (fpos p).length + j) = l.size + p.length + r.feedAt j := by
  unfold Tr.feedAt fpos at *
  simp only [Tr.bytes]
  have e : (fposF l.bytes 0).length = l.feeds := fposF_len _ _
  have e2 : (fposF p (0 + l.bytes.length)).length = (fposF p 0).length := by rw [fposF_len, fposF_len]
  have e3 : (fposF r.bytes 0).length = r.feeds := fposF_len _ _
  rw [List.append_assoc, fposF_append, gD_append, if_neg (by omega), e, fposF_append, gD_append, if_neg (by omega), e2, show l.feeds + (fposF p 0).length + j - l.feeds - (fposF p 0).length = j from by omega, show 0 + l.bytes.length + p.length = 0 + (l.bytes.length + p.length) from by omega, fposF_shift]
  simp only [List.getD_eq_getElem?_getD, List.getElem?_map]
  rw [List.getElem?_eq_getElem (by omega)]
  simp
  have : l.size = l.bytes.length := rfl
  omega
theorem feedAt_lt (t : Tr) {idx : Nat} (h : idx < t.feeds) : t.feedAt idx < t.size := by
  have hl : idx < (fpos t.bytes).length := by rw [Tr.feeds_len]; exact h
  unfold Tr.feedAt
  rw [List.getD_eq_getElem?_getD, List.getElem?_eq_getElem hl]
  have := fposF_bd (List.getElem_mem hl)
  show (fpos t.bytes)[idx] < t.bytes.length
  omega
end Go.Proofs.Ytbpokgjahlnfhaa
