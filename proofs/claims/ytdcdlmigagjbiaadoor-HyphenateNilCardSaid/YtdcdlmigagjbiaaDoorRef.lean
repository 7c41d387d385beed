/- The reference's decoding, its 'beginning', in plain Lean: that they agree with XUtf's 'dec'. Nothing of the program stands here. -/
import Derived.Test.YtdcdlmigagjbiaaDoorUtf
namespace Go.Proofs.YtdcdlmigagjbiaaDoor.U

def rsize (b : Nat) : Nat := if b < 128 then 1 else if 192 ≤ b ∧ b < 224 then 2 else if 224 ≤ b ∧ b < 240 then 3 else if 240 ≤ b ∧ b < 248 then 4 else 0
def rlead (b : Nat) : Nat := if b < 128 then b else if 192 ≤ b ∧ b < 224 then b - 192 else if 224 ≤ b ∧ b < 240 then b - 224 else if 240 ≤ b ∧ b < 248 then b - 240 else 0

def rgo : Nat → Nat → List UInt8 → Option Nat
  | 0, p, _ => some p
  | _ + 1, _, [] => none
  | k + 1, p, c :: r => if c.toNat < 128 ∨ 191 < c.toNat then none else rgo k (p * 64 + c.toNat - 128) r

/-- the reference's check behind its loop -/
def rfin (l : List UInt8) (n : Nat) : Option Nat → Nat × Nat
  | none => (0, 0)
  | some p => if isPt p = true ∧ enc p = l.take n then (p, n) else (0, 0)

def decR : List UInt8 → Nat × Nat
  | [] => (0, 0)
  | b :: r => if b.toNat < 128 then (b.toNat, 1) else if rsize b.toNat = 0 then (0, 0) else if r.length + 1 < rsize b.toNat then (0, 0) else rfin (b :: r) (rsize b.toNat) (rgo (rsize b.toNat - 1) (rlead b.toNat) r)

theorem take_enc (p : Nat) (r : List UInt8) (n : Nat) (h : n = esize p) : (enc p ++ r).take n = enc p := by
  rw [h, ← enc_length]; simp

theorem decR_enc (p : Nat) (hp : isPt p = true) (r : List UInt8) : decR (enc p ++ r) = (p, esize p) := by
  have hp' := hp
  rw [isPt_iff] at hp
  have ht := fun n h => take_enc p r n h
  have hl := enc_length p
  by_cases h1 : p < 128
  · have he : enc p = [UInt8.ofNat p] := by unfold enc; rw [if_pos h1]
    have hs : esize p = 1 := by unfold esize; rw [if_pos h1]
    rw [he, hs]
    simp only [List.cons_append, List.nil_append, decR]
    rw [toNat_ofNat_lt p (by omega), if_pos h1]
  by_cases h2 : p < 2048
  · have he : enc p = [UInt8.ofNat (192 + p / 64), UInt8.ofNat (128 + p % 64)] := by unfold enc; rw [if_neg h1, if_pos h2]
    have hs : esize p = 2 := by unfold esize; rw [if_neg h1, if_pos h2]
    have ht2 := ht 2 hs.symm
    rw [hs]
    have e2 : rsize (192 + p / 64) = 2 := by unfold rsize; rw [if_neg (by omega), if_pos (by omega)]
    have e3 : rlead (192 + p / 64) = p / 64 := by unfold rlead; rw [if_neg (by omega), if_pos (by omega)]; omega
    rw [he] at ht2 ⊢
    simp only [List.cons_append, List.nil_append, decR] at ht2 ⊢
    rw [toNat_ofNat_lt (192 + p / 64) (by omega), if_neg (by omega), e2, if_neg (by omega), if_neg (by simp only [List.length_cons]; omega), e3]
    show rfin _ 2 (rgo 1 (p / 64) _) = _
    simp only [rgo]
    rw [toNat_ofNat_lt (128 + p % 64) (by omega), if_neg (by omega), show p / 64 * 64 + (128 + p % 64) - 128 = p from by omega]
    simp only [rfin]
    rw [if_pos ⟨hp', by rw [he]; exact ht2.symm⟩]
  by_cases h3 : p < 65536
  · have he : enc p = [UInt8.ofNat (224 + p / 4096), UInt8.ofNat (128 + p / 64 % 64), UInt8.ofNat (128 + p % 64)] := by unfold enc; rw [if_neg h1, if_neg h2, if_pos h3]
    have hs : esize p = 3 := by unfold esize; rw [if_neg h1, if_neg h2, if_pos h3]
    have ht2 := ht 3 hs.symm
    rw [hs]
    have e2 : rsize (224 + p / 4096) = 3 := by unfold rsize; rw [if_neg (by omega), if_neg (by omega), if_pos (by omega)]
    have e3 : rlead (224 + p / 4096) = p / 4096 := by unfold rlead; rw [if_neg (by omega), if_neg (by omega), if_pos (by omega)]; omega
    rw [he] at ht2 ⊢
    simp only [List.cons_append, List.nil_append, decR] at ht2 ⊢
    rw [toNat_ofNat_lt (224 + p / 4096) (by omega), if_neg (by omega), e2, if_neg (by omega), if_neg (by simp only [List.length_cons]; omega), e3]
    show rfin _ 3 (rgo 2 (p / 4096) _) = _
    simp only [rgo]
    rw [toNat_ofNat_lt (128 + p / 64 % 64) (by omega), toNat_ofNat_lt (128 + p % 64) (by omega), if_neg (by omega), if_neg (by omega), show (p / 4096 * 64 + (128 + p / 64 % 64) - 128) * 64 + (128 + p % 64) - 128 = p from by omega]
    simp only [rfin]
    rw [if_pos ⟨hp', by rw [he]; exact ht2.symm⟩]
  have he : enc p = [UInt8.ofNat (240 + p / 262144), UInt8.ofNat (128 + p / 4096 % 64), UInt8.ofNat (128 + p / 64 % 64), UInt8.ofNat (128 + p % 64)] := by unfold enc; rw [if_neg h1, if_neg h2, if_neg h3]
  have hs : esize p = 4 := by unfold esize; rw [if_neg h1, if_neg h2, if_neg h3]
  have ht2 := ht 4 hs.symm
  rw [hs]
  have e2 : rsize (240 + p / 262144) = 4 := by unfold rsize; rw [if_neg (by omega), if_neg (by omega), if_neg (by omega), if_pos (by omega)]
  have e3 : rlead (240 + p / 262144) = p / 262144 := by unfold rlead; rw [if_neg (by omega), if_neg (by omega), if_neg (by omega), if_pos (by omega)]; omega
  rw [he] at ht2 ⊢
  simp only [List.cons_append, List.nil_append, decR] at ht2 ⊢
  rw [toNat_ofNat_lt (240 + p / 262144) (by omega), if_neg (by omega), e2, if_neg (by omega), if_neg (by simp only [List.length_cons]; omega), e3]
  show rfin _ 4 (rgo 3 (p / 262144) _) = _
  simp only [rgo]
  rw [toNat_ofNat_lt (128 + p / 4096 % 64) (by omega), toNat_ofNat_lt (128 + p / 64 % 64) (by omega), toNat_ofNat_lt (128 + p % 64) (by omega), if_neg (by omega), if_neg (by omega), if_neg (by omega),
    show ((p / 262144 * 64 + (128 + p / 4096 % 64) - 128) * 64 + (128 + p / 64 % 64) - 128) * 64 + (128 + p % 64) - 128 = p from by omega]
  simp only [rfin]
  rw [if_pos ⟨hp', by rw [he]; exact ht2.symm⟩]

theorem rfin_some (l : List UInt8) (n : Nat) (o : Option Nat) (h : (rfin l n o).2 ≠ 0) : isPt (rfin l n o).1 = true ∧ enc (rfin l n o).1 = l.take n := by
  match o with
  | none => exact absurd rfl h
  | some p =>
    simp only [rfin] at h ⊢
    by_cases hc : isPt p = true ∧ enc p = l.take n
    · rw [if_pos hc]; exact hc
    · rw [if_neg hc] at h; exact absurd rfl h

theorem decR_some (l : List UInt8) (h : (decR l).2 ≠ 0) : (dec l).2.2 = true := by
  match l with
  | [] => exact absurd rfl h
  | b :: r =>
    simp only [decR] at h
    by_cases h1 : b.toNat < 128
    · simp only [dec]
      have : tsize b.toNat = 1 := by unfold tsize; rw [if_pos h1]
      rw [this]; rfl
    · rw [if_neg h1] at h
      by_cases h2 : rsize b.toNat = 0
      · rw [if_pos h2] at h; exact absurd rfl h
      · rw [if_neg h2] at h
        by_cases h3 : r.length + 1 < rsize b.toNat
        · rw [if_pos h3] at h; exact absurd rfl h
        · rw [if_neg h3] at h
          obtain ⟨k1, k2⟩ := rfin_some _ _ _ h
          generalize (rfin (b :: r) (rsize b.toNat) (rgo (rsize b.toNat - 1) (rlead b.toNat) r)).1 = p at k1 k2
          have := dec_enc p k1 ((b :: r).drop (rsize b.toNat))
          rw [k2, List.take_append_drop] at this
          rw [this]

/-- the reference decodes as the program does -/
theorem decR_eq (l : List UInt8) : decR l = if (dec l).2.2 = true then ((dec l).1, (dec l).2.1) else (0, 0) := by
  by_cases h : (dec l).2.2 = true
  · rw [if_pos h]
    obtain ⟨h1, h2, h3⟩ := dec_ok l h
    have := decR_enc _ h1 (l.drop (dec l).2.1)
    rw [← h3] at this
    rw [this, h2]
  · rw [if_neg h]
    by_cases hd : (decR l).2 = 0
    · match l with
      | [] => rfl
      | b :: r =>
        simp only [decR] at hd ⊢
        by_cases h1 : b.toNat < 128
        · rw [if_pos h1] at hd; exact absurd hd (by simp)
        · rw [if_neg h1] at hd ⊢
          by_cases h2 : rsize b.toNat = 0
          · rw [if_pos h2]
          · rw [if_neg h2] at hd ⊢
            by_cases h3 : r.length + 1 < rsize b.toNat
            · rw [if_pos h3]
            · rw [if_neg h3] at hd ⊢
              generalize rgo (rsize b.toNat - 1) (rlead b.toNat) r = o at hd ⊢
              match o with
              | none => rfl
              | some p =>
                simp only [rfin] at hd ⊢
                by_cases hc : isPt p = true ∧ enc p = (b :: r).take (rsize b.toNat)
                · rw [if_pos hc] at hd; exact absurd hd h2
                · rw [if_neg hc]
    · exact absurd (decR_some l hd) h

/-- does the encoding of a point begin with these bytes, and have more? -/
def begR : List UInt8 → Bool
  | [] => false
  | b :: r => if (if b.toNat < 128 then 0 else rsize b.toNat) ≤ r.length + 1 then false else
      decide ((decR (b :: r ++ List.replicate (rsize b.toNat - (r.length + 1)) 128)).2 > 0) || decide ((decR (b :: r ++ List.replicate (rsize b.toNat - (r.length + 1)) 191)).2 > 0)

/-- the greatest count up to n of bytes that begin an encoding -/
def begN (l : List UInt8) : Nat → Nat
  | 0 => 0
  | n + 1 => if begR (l.take (n + 1)) then n + 1 else begN l n
def beginning (l : List UInt8) : Nat := begN l (min 3 l.length)

theorem decR_pos (l : List UInt8) : decide ((decR l).2 > 0) = (dec l).2.2 := by
  rw [decR_eq]
  by_cases h : (dec l).2.2 = true
  · rw [if_pos h, h]
    have h2 := (dec_ok l h).2.1
    have := esize_pos (dec l).1
    simp; omega
  · rw [if_neg h]
    simp at h
    rw [h]; simp

theorem begR_eq (b : UInt8) (r : List UInt8) : begR (b :: r) = (!decide ((if b.toNat < 128 then 0 else rsize b.toNat) ≤ r.length + 1) &&
    ((dec (b :: r ++ List.replicate (rsize b.toNat - (r.length + 1)) 128)).2.2 || (dec (b :: r ++ List.replicate (rsize b.toNat - (r.length + 1)) 191)).2.2)) := by
  simp only [begR, decR_pos]
  by_cases h : (if b.toNat < 128 then 0 else rsize b.toNat) ≤ r.length + 1
  · rw [if_pos h]; simp [h]
  · rw [if_neg h]; simp [h]

theorem begN_eq (l : List UInt8) (k : Nat) : ∀ n, k ≤ n → (∀ m, 1 ≤ m → m ≤ n → begR (l.take m) = decide (m ≤ k)) → begN l n = k := by
  intro n
  induction n with
  | zero => intro h _; simp [begN]; omega
  | succ n ih =>
    intro h hb
    simp only [begN]
    rw [hb (n + 1) (by omega) (by omega)]
    by_cases e : n + 1 ≤ k
    · rw [if_pos (by simpa using e)]; omega
    · rw [if_neg (by simpa using e)]
      exact ih (by omega) (fun m h1 h2 => hb m h1 (by omega))
end Go.Proofs.YtdcdlmigagjbiaaDoor.U
