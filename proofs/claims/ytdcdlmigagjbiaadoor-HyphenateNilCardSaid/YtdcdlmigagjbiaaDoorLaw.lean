/- The plain laws behind the statements of layer 1: heads and offsets of encodings. No program is walked here. -/
import Derived.Test.YtdcdlmigagjbiaaDoorWkI
namespace Go.Proofs.YtdcdlmigagjbiaaDoor
theorem isHead_low (n : Nat) (h : n < 128) : isHead (UInt8.ofNat n) = true := by
  unfold isHead; rw [U.toNat_ofNat_lt n (by omega)]; simp; omega
theorem isHead_high (n : Nat) (h : 192 ≤ n) (h' : n < 256) : isHead (UInt8.ofNat n) = true := by
  unfold isHead; rw [U.toNat_ofNat_lt n h']; simp; omega
theorem isHead_cont (n : Nat) (h : n < 64) : isHead (UInt8.ofNat (128 + n)) = false := by
  unfold isHead; rw [U.toNat_ofNat_lt (128 + n) (by omega)]; simp; omega
/-- an encoding has one head, its first byte -/
theorem headPos_enc (p : Nat) (hp : U.isPt p = true) (i : Nat) : headPos i (U.enc p) = [i] := by
  rw [U.isPt_iff] at hp
  unfold U.enc
  by_cases h1 : p < 128
  · rw [if_pos h1]; simp only [headPos]; rw [isHead_low p h1]; rfl
  rw [if_neg h1]
  by_cases h2 : p < 2048
  · rw [if_pos h2]; simp only [headPos]; rw [isHead_high _ (by omega) (by omega), isHead_cont _ (by omega)]; rfl
  rw [if_neg h2]
  by_cases h3 : p < 65536
  · rw [if_pos h3]; simp only [headPos]; rw [isHead_high _ (by omega) (by omega), isHead_cont _ (by omega), isHead_cont _ (by omega)]; rfl
  rw [if_neg h3]; simp only [headPos]; rw [isHead_high _ (by omega) (by omega), isHead_cont _ (by omega), isHead_cont _ (by omega), isHead_cont _ (by omega)]; rfl
theorem headPos_append (a b : List UInt8) : ∀ i, headPos i (a ++ b) = headPos i a ++ headPos (i + a.length) b := by
  induction a with
  | nil => intro i; simp [headPos]
  | cons c a ih =>
    intro i
    simp only [List.cons_append, headPos, ih, List.length_cons]
    rw [show i + 1 + a.length = i + (a.length + 1) from by omega]
    cases isHead c <;> simp
theorem heads_pos (l : List UInt8) : ∀ i, heads l = (headPos i l).length := by
  induction l with
  | nil => intro i; rfl
  | cons c l ih =>
    intro i
    unfold heads at ih ⊢
    simp only [headPos, List.filter_cons]
    cases isHead c
    · simpa using ih (i + 1)
    · simp; exact ih (i + 1)
def offs : Nat → List Nat → List Nat
  | _, [] => []
  | i, p :: ps => i :: offs (i + U.esize p) ps
theorem headPos_encs (ps : List Nat) (h : ∀ p ∈ ps, U.isPt p = true) : ∀ i, headPos i (U.encs ps) = offs i ps := by
  induction ps with
  | nil => intro i; rfl
  | cons p ps ih =>
    intro i
    rw [U.encs_cons, headPos_append, headPos_enc p (h p (List.mem_cons_self ..)), U.enc_length, ih (fun q hq => h q (List.mem_cons_of_mem _ hq))]
    rfl
theorem offs_length (ps : List Nat) : ∀ i, (offs i ps).length = ps.length := by
  induction ps with
  | nil => intro i; rfl
  | cons p ps ih => intro i; simp [offs, ih]
theorem offs_get (ps : List Nat) : ∀ (i k : Nat), k < ps.length → (offs i ps).getD k 0 = i + (U.encs (ps.take k)).length := by
  induction ps with
  | nil => intro i k h; simp at h
  | cons p ps ih =>
    intro i k h
    match k with
    | 0 => simp [offs, U.encs]
    | k + 1 =>
      rw [List.length_cons] at h
      have := ih (i + U.esize p) k (by omega)
      simp only [offs, List.getD_cons_succ, List.take_succ_cons, U.encs_cons, List.length_append, U.enc_length]
      omega
/-- the offsets at which the units of a string begin, of a string made of encodings -/
theorem begN_encs (ps : List Nat) (h : ∀ p ∈ ps, U.isPt p = true) : (begN (U.encs ps)).length = ps.length + 1 ∧ ∀ k, k ≤ ps.length → (begN (U.encs ps)).getD k 0 = (U.encs (ps.take k)).length := by
  unfold begN
  rw [headPos_encs ps h]
  refine ⟨by simp [offs_length], fun k hk => ?_⟩
  rcases Nat.lt_or_eq_of_le hk with hlt | rfl
  · rw [List.getD_eq_getElem?_getD, List.getElem?_append_left (by rw [offs_length]; exact hlt), ← List.getD_eq_getElem?_getD, offs_get ps 0 k hlt, Nat.zero_add]
  · rw [List.getD_eq_getElem?_getD, List.getElem?_append_right (by rw [offs_length]; exact Nat.le_refl _), offs_length, Nat.sub_self, List.take_of_length_le (Nat.le_refl _)]
    rfl
theorem heads_encs (ps : List Nat) (h : ∀ p ∈ ps, U.isPt p = true) : heads (U.encs ps) = ps.length := by
  rw [heads_pos _ 0, headPos_encs ps h, offs_length]
theorem toNat_map (ps : List Nat) : (ps.map fun p => ((p : Nat) : Int)).map Int.toNat = ps := by
  rw [List.map_map]; conv => rhs; rw [← List.map_id ps]
  exact List.map_congr_left fun p _ => by simp
theorem encI_pts (l : List UInt8) : encI (ptsI l) = U.encs (U.pts l) := by unfold encI ptsI; rw [toNat_map]
theorem okI_map (ps : List Nat) (h : ∀ p ∈ ps, U.isPt p = true) : okI (ps.map fun p => ((p : Nat) : Int)) = true := by
  unfold okI
  rw [List.all_eq_true]
  intro x hx
  obtain ⟨p, hp, rfl⟩ := List.mem_map.1 hx
  unfold isPtI
  simpa using h p hp
theorem okI_pts (l : List UInt8) : okI (ptsI l) = true := okI_map _ (U.pts_ok l)
/-- Make leads back from Points -/
theorem makeP_pts (l : List UInt8) (h : (U.bad l).isEmpty = true) : makeP (ptsI l) = (l, 0) := by
  unfold makeP
  rw [okI_pts, encI_pts, ← U.of_valid l (by simpa using h)]
  rfl
theorem countP_valid (l : List UInt8) (h : (U.bad l).isEmpty = true) : countP l = ((ptsI l).length, 0) := by
  unfold countP
  rw [h]
  have hl := U.of_valid l (by simpa using h)
  have : heads l = (ptsI l).length := by
    conv => lhs; rw [hl]
    rw [heads_encs _ (U.pts_ok l)]
    simp [ptsI]
  rw [this]; rfl
theorem countP_bad (l : List UInt8) (h : (U.bad l).isEmpty = false) : countP l = (0, 12) := by unfold countP; rw [h]; rfl
/-- of numbers that are all code points: Points leads back from Make -/
theorem map_toNat (l : List Int) (h : okI l = true) : (l.map Int.toNat).map (fun p => ((p : Nat) : Int)) = l ∧ ∀ p ∈ l.map Int.toNat, U.isPt p = true := by
  unfold okI at h
  rw [List.all_eq_true] at h
  constructor
  · rw [List.map_map]; conv => rhs; rw [← List.map_id l]
    refine List.map_congr_left fun x hx => ?_
    have := (isPtI_iff x).1 (h x hx)
    simp; omega
  · intro p hp
    obtain ⟨x, hx, rfl⟩ := List.mem_map.1 hp
    have := h x hx
    unfold isPtI at this
    simp only [Bool.and_eq_true] at this
    exact this.2
theorem pts_make (l : List Int) (h : okI l = true) : ptsI (encI l) = l ∧ (U.bad (encI l)).isEmpty = true := by
  obtain ⟨h1, h2⟩ := map_toNat l h
  obtain ⟨h3, h4⟩ := U.scan_of _ h2
  unfold ptsI encI
  rw [h3, h4]
  exact ⟨h1, rfl⟩
end Go.Proofs.YtdcdlmigagjbiaaDoor
