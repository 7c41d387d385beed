/- UTF-8 in plain Lean: what decoding one code point gives, what encoding gives, and that a byte list is the encodings of its points and a rest that does not decode. Nothing of the program stands here. -/
import Derived.WalkKit
import Derived.WalkSpells
import Derived.WalkSmall
import Derived.Lib.BufferRead
import Derived.Lib.UnsafeStr
import Derived.Lib.Hide
import Derived.Maps.Ext
import Derived.Maps.OwnSet
import Derived.Maps.AppendAt
import Derived.Deep.AppendLies
import Derived.Deep.Draws
import Derived.Laws.OwnMore
import Derived.Laws.Rows
namespace Go.Proofs.YtdcdlmigagjbiaaDoor.U

def tsize (b : Nat) : Nat := if b < 128 then 1 else if b < 194 ∨ 244 < b then 0 else if b < 224 then 2 else if b < 240 then 3 else 4
def tlow (b : Nat) : Nat := if b = 224 then 160 else if b = 240 then 144 else 128
def thigh (b : Nat) : Nat := if b = 237 then 159 else if b = 244 then 143 else 191
def tlead (b : Nat) : Nat := if b < 128 then b else if b < 224 then b - 192 else if b < 240 then b - 224 else b - 240

/-- the bytes behind the first: how many are still wanted, the bounds of the next one, the number so far, how many bytes were taken -/
def decGo : Nat → Nat → Nat → Nat → Nat → List UInt8 → Nat × Nat × Bool
  | 0, _, _, p, size, _ => (p, size, true)
  | _ + 1, _, _, _, size, [] => (0, size, false)
  | k + 1, lo, hi, p, size, c :: r => if c.toNat < lo ∨ hi < c.toNat then (0, size, false) else decGo k 128 191 (p * 64 + c.toNat % 64) (size + 1) r

/-- the code point at the head of a list, how many bytes belong to its beginning, and whether it is whole -/
def dec : List UInt8 → Nat × Nat × Bool
  | [] => (0, 0, false)
  | b :: r => if tsize b.toNat = 0 then (0, 0, false) else if tsize b.toNat = 1 then (b.toNat, 1, true) else decGo (tsize b.toNat - 1) (tlow b.toNat) (thigh b.toNat) (tlead b.toNat) 1 r

def isPt (p : Nat) : Bool := decide (p ≤ 1114111) && !(decide (55296 ≤ p) && decide (p ≤ 57343))

def enc (p : Nat) : List UInt8 :=
  if p < 128 then [UInt8.ofNat p]
  else if p < 2048 then [UInt8.ofNat (192 + p / 64), UInt8.ofNat (128 + p % 64)]
  else if p < 65536 then [UInt8.ofNat (224 + p / 4096), UInt8.ofNat (128 + p / 64 % 64), UInt8.ofNat (128 + p % 64)]
  else [UInt8.ofNat (240 + p / 262144), UInt8.ofNat (128 + p / 4096 % 64), UInt8.ofNat (128 + p / 64 % 64), UInt8.ofNat (128 + p % 64)]

def esize (p : Nat) : Nat := if p < 128 then 1 else if p < 2048 then 2 else if p < 65536 then 3 else 4

theorem enc_length (p : Nat) : (enc p).length = esize p := by
  unfold enc esize; (repeat' split) <;> rfl

theorem esize_pos (p : Nat) : 1 ≤ esize p ∧ esize p ≤ 4 := by
  unfold esize; (repeat' split) <;> omega

theorem isPt_iff (p : Nat) : isPt p = true ↔ p ≤ 1114111 ∧ ¬ (55296 ≤ p ∧ p ≤ 57343) := by
  unfold isPt; simp only [Bool.and_eq_true, decide_eq_true_eq, Bool.not_eq_true', Bool.and_eq_false_iff, decide_eq_false_iff_not]; omega

theorem ofNat_toNat (c : UInt8) (n : Nat) (h : n = c.toNat) : UInt8.ofNat n = c := by
  subst h; simp

theorem toNat_ofNat_lt (n : Nat) (h : n < 256) : (UInt8.ofNat n).toNat = n := by
  simp; omega

/-- what is encoded is decoded again, whatever stands behind it -/
theorem dec_enc (p : Nat) (hp : isPt p = true) (r : List UInt8) : dec (enc p ++ r) = (p, esize p, true) := by
  rw [isPt_iff] at hp
  unfold enc esize
  by_cases h1 : p < 128
  · rw [if_pos h1, if_pos h1]
    simp only [List.cons_append, List.nil_append, dec]
    rw [toNat_ofNat_lt p (by omega)]
    have : tsize p = 1 := by unfold tsize; rw [if_pos h1]
    rw [this]; simp
  rw [if_neg h1, if_neg h1]
  by_cases h2 : p < 2048
  · rw [if_pos h2, if_pos h2]
    simp only [List.cons_append, List.nil_append, dec]
    rw [toNat_ofNat_lt (192 + p / 64) (by omega)]
    have : tsize (192 + p / 64) = 2 := by unfold tsize; rw [if_neg (by omega), if_neg (by omega), if_pos (by omega)]
    rw [this, if_neg (by omega), if_neg (by omega)]
    have l1 : tlow (192 + p / 64) = 128 := by unfold tlow; rw [if_neg (by omega), if_neg (by omega)]
    have l2 : thigh (192 + p / 64) = 191 := by unfold thigh; rw [if_neg (by omega), if_neg (by omega)]
    have l3 : tlead (192 + p / 64) = p / 64 := by unfold tlead; rw [if_neg (by omega), if_pos (by omega)]; omega
    rw [l1, l2, l3]
    show decGo 1 128 191 (p / 64) 1 _ = _
    simp only [decGo]
    rw [toNat_ofNat_lt (128 + p % 64) (by omega), if_neg (by omega)]
    exact Prod.ext (by show p / 64 * 64 + (128 + p % 64) % 64 = p; omega) rfl
  rw [if_neg h2, if_neg h2]
  by_cases h3 : p < 65536
  · rw [if_pos h3, if_pos h3]
    simp only [List.cons_append, List.nil_append, dec]
    rw [toNat_ofNat_lt (224 + p / 4096) (by omega)]
    have : tsize (224 + p / 4096) = 3 := by unfold tsize; rw [if_neg (by omega), if_neg (by omega), if_neg (by omega), if_pos (by omega)]
    rw [this, if_neg (by omega), if_neg (by omega)]
    have l3 : tlead (224 + p / 4096) = p / 4096 := by unfold tlead; rw [if_neg (by omega), if_neg (by omega), if_pos (by omega)]; omega
    rw [l3]
    show decGo 2 _ _ (p / 4096) 1 _ = _
    simp only [decGo]
    rw [toNat_ofNat_lt (128 + p / 64 % 64) (by omega), toNat_ofNat_lt (128 + p % 64) (by omega)]
    rw [if_neg (by unfold tlow thigh; (repeat' split) <;> omega), if_neg (by omega)]
    exact Prod.ext (by show (p / 4096 * 64 + (128 + p / 64 % 64) % 64) * 64 + (128 + p % 64) % 64 = p; omega) rfl
  rw [if_neg h3, if_neg h3]
  simp only [List.cons_append, List.nil_append, dec]
  rw [toNat_ofNat_lt (240 + p / 262144) (by omega)]
  have : tsize (240 + p / 262144) = 4 := by unfold tsize; rw [if_neg (by omega), if_neg (by omega), if_neg (by omega), if_neg (by omega)]
  rw [this, if_neg (by omega), if_neg (by omega)]
  have l3 : tlead (240 + p / 262144) = p / 262144 := by unfold tlead; rw [if_neg (by omega), if_neg (by omega), if_neg (by omega)]; omega
  rw [l3]
  show decGo 3 _ _ (p / 262144) 1 _ = _
  simp only [decGo]
  rw [toNat_ofNat_lt (128 + p / 4096 % 64) (by omega), toNat_ofNat_lt (128 + p / 64 % 64) (by omega), toNat_ofNat_lt (128 + p % 64) (by omega)]
  rw [if_neg (by unfold tlow thigh; (repeat' split) <;> omega), if_neg (by omega), if_neg (by omega)]
  exact Prod.ext (by show ((p / 262144 * 64 + (128 + p / 4096 % 64) % 64) * 64 + (128 + p / 64 % 64) % 64) * 64 + (128 + p % 64) % 64 = p; omega) rfl

theorem tsize_cases (b : Nat) : tsize b = 0 ∨ (tsize b = 1 ∧ b < 128) ∨ (tsize b = 2 ∧ 194 ≤ b ∧ b < 224) ∨ (tsize b = 3 ∧ 224 ≤ b ∧ b < 240) ∨ (tsize b = 4 ∧ 240 ≤ b ∧ b ≤ 244) := by
  unfold tsize
  by_cases h1 : b < 128
  · rw [if_pos h1]; omega
  · rw [if_neg h1]
    by_cases h2 : b < 194 ∨ 244 < b
    · rw [if_pos h2]; omega
    · rw [if_neg h2]
      by_cases h3 : b < 224
      · rw [if_pos h3]; omega
      · rw [if_neg h3]
        by_cases h4 : b < 240
        · rw [if_pos h4]; omega
        · rw [if_neg h4]; omega

/-- what decodes is the encoding of its point -/
theorem enc_dec (l : List UInt8) (p n : Nat) (h : dec l = (p, n, true)) : isPt p = true ∧ n = esize p ∧ ∃ r, l = enc p ++ r := by
  rw [isPt_iff]
  match l with
  | [] => simp [dec] at h
  | b :: r =>
    simp only [dec] at h
    rcases tsize_cases b.toNat with e | ⟨e, hb⟩ | ⟨e, hb, hb'⟩ | ⟨e, hb, hb'⟩ | ⟨e, hb, hb'⟩
    · rw [e, if_pos rfl] at h; simp at h
    · rw [e, if_neg (by omega), if_pos rfl] at h
      simp only [Prod.mk.injEq, and_true] at h
      obtain ⟨rfl, rfl⟩ := h
      refine ⟨by omega, by unfold esize; rw [if_pos hb], r, ?_⟩
      unfold enc; rw [if_pos hb]; simp
    · rw [e, if_neg (by omega), if_neg (by omega)] at h
      have l1 : tlow b.toNat = 128 := by unfold tlow; rw [if_neg (by omega), if_neg (by omega)]
      have l2 : thigh b.toNat = 191 := by unfold thigh; rw [if_neg (by omega), if_neg (by omega)]
      have l3 : tlead b.toNat = b.toNat - 192 := by unfold tlead; rw [if_neg (by omega), if_pos (by omega)]
      rw [l1, l2, l3] at h
      match r with
      | [] => simp [decGo] at h
      | c :: r =>
        simp only [decGo] at h
        by_cases hc : c.toNat < 128 ∨ 191 < c.toNat
        · rw [if_pos hc] at h; simp at h
        · rw [if_neg hc] at h
          simp only [Prod.mk.injEq, and_true] at h
          obtain ⟨hp, rfl⟩ := h
          have k1 : ¬ p < 128 := by omega
          have k2 : p < 2048 := by omega
          refine ⟨by omega, by unfold esize; rw [if_neg k1, if_pos k2], r, ?_⟩
          unfold enc; rw [if_neg k1, if_pos k2]
          rw [ofNat_toNat b _ (by omega), ofNat_toNat c _ (by omega)]; rfl
    · rw [e, if_neg (by omega), if_neg (by omega)] at h
      have l3 : tlead b.toNat = b.toNat - 224 := by unfold tlead; rw [if_neg (by omega), if_neg (by omega), if_pos (by omega)]
      rw [l3] at h
      match r with
      | [] => simp [decGo] at h
      | [c] =>
        simp only [decGo] at h
        split at h <;> simp at h
      | c :: c2 :: r =>
        simp only [decGo] at h
        by_cases hc : c.toNat < tlow b.toNat ∨ thigh b.toNat < c.toNat
        · rw [if_pos hc] at h; simp at h
        · rw [if_neg hc] at h
          by_cases hc2 : c2.toNat < 128 ∨ 191 < c2.toNat
          · rw [if_pos hc2] at h; simp at h
          · rw [if_neg hc2] at h
            simp only [Prod.mk.injEq, and_true] at h
            obtain ⟨hp, rfl⟩ := h
            have lo : 128 ≤ c.toNat ∧ (b.toNat = 224 → 160 ≤ c.toNat) := by
              unfold tlow at hc; (repeat' split at hc) <;> omega
            have hi : c.toNat ≤ 191 ∧ (b.toNat = 237 → c.toNat ≤ 159) := by
              unfold thigh at hc; (repeat' split at hc) <;> omega
            have k2 : ¬ p < 2048 := by omega
            have k3 : p < 65536 := by omega
            refine ⟨by omega, by unfold esize; rw [if_neg (by omega), if_neg k2, if_pos k3], r, ?_⟩
            unfold enc; rw [if_neg (by omega), if_neg k2, if_pos k3]
            rw [ofNat_toNat b _ (by omega), ofNat_toNat c _ (by omega), ofNat_toNat c2 _ (by omega)]; rfl
    · rw [e, if_neg (by omega), if_neg (by omega)] at h
      have l3 : tlead b.toNat = b.toNat - 240 := by unfold tlead; rw [if_neg (by omega), if_neg (by omega), if_neg (by omega)]
      rw [l3] at h
      match r with
      | [] => simp [decGo] at h
      | [c] =>
        simp only [decGo] at h
        split at h <;> simp at h
      | [c, c2] =>
        simp only [decGo] at h
        (repeat' split at h) <;> simp at h
      | c :: c2 :: c3 :: r =>
        simp only [decGo] at h
        by_cases hc : c.toNat < tlow b.toNat ∨ thigh b.toNat < c.toNat
        · rw [if_pos hc] at h; simp at h
        · rw [if_neg hc] at h
          by_cases hc2 : c2.toNat < 128 ∨ 191 < c2.toNat
          · rw [if_pos hc2] at h; simp at h
          · rw [if_neg hc2] at h
            by_cases hc3 : c3.toNat < 128 ∨ 191 < c3.toNat
            · rw [if_pos hc3] at h; simp at h
            · rw [if_neg hc3] at h
              simp only [Prod.mk.injEq, and_true] at h
              obtain ⟨hp, rfl⟩ := h
              have lo : 128 ≤ c.toNat ∧ (b.toNat = 240 → 144 ≤ c.toNat) := by
                unfold tlow at hc; (repeat' split at hc) <;> omega
              have hi : c.toNat ≤ 191 ∧ (b.toNat = 244 → c.toNat ≤ 143) := by
                unfold thigh at hc; (repeat' split at hc) <;> omega
              have k3 : ¬ p < 65536 := by omega
              refine ⟨by omega, by unfold esize; rw [if_neg (by omega), if_neg (by omega), if_neg k3], r, ?_⟩
              unfold enc; rw [if_neg (by omega), if_neg (by omega), if_neg k3]
              rw [ofNat_toNat b _ (by omega), ofNat_toNat c _ (by omega), ofNat_toNat c2 _ (by omega), ofNat_toNat c3 _ (by omega)]; rfl

def encs (ps : List Nat) : List UInt8 := (ps.map enc).flatten
theorem encs_nil : encs [] = [] := rfl
theorem encs_cons (p : Nat) (ps : List Nat) : encs (p :: ps) = enc p ++ encs ps := rfl
theorem encs_append (a b : List Nat) : encs (a ++ b) = encs a ++ encs b := by simp [encs]

/-- the points of a list up to the first error, and what is left there -/
def scanN : Nat → List UInt8 → List Nat × List UInt8
  | 0, l => ([], l)
  | n + 1, l => if (dec l).2.2 then ((dec l).1 :: (scanN n (l.drop (dec l).2.1)).1, (scanN n (l.drop (dec l).2.1)).2) else ([], l)
def pts (l : List UInt8) : List Nat := (scanN l.length l).1
def bad (l : List UInt8) : List UInt8 := (scanN l.length l).2

theorem dec_ok (l : List UInt8) (h : (dec l).2.2 = true) : isPt (dec l).1 = true ∧ (dec l).2.1 = esize (dec l).1 ∧ l = enc (dec l).1 ++ l.drop (dec l).2.1 := by
  obtain ⟨h1, h2, r, h3⟩ := enc_dec l (dec l).1 (dec l).2.1 (by rw [← h])
  refine ⟨h1, h2, ?_⟩
  conv => lhs; rw [h3]
  congr 1
  rw [h2, ← enc_length]
  generalize enc (dec l).1 = a at h3
  rw [h3]; simp

theorem scanN_stable (n : Nat) : ∀ l : List UInt8, l.length ≤ n → scanN n l = scanN l.length l := by
  have key : ∀ n m : Nat, ∀ l : List UInt8, l.length ≤ n → l.length ≤ m → scanN n l = scanN m l := by
    intro n
    induction n with
    | zero =>
      intro m l h1 _
      have : l = [] := List.length_eq_zero_iff.1 (by omega)
      subst this
      match m with
      | 0 => rfl
      | m + 1 => simp [scanN, dec]
    | succ n ih =>
      intro m l h1 h2
      match m with
      | 0 =>
        have : l = [] := List.length_eq_zero_iff.1 (by omega)
        subst this
        simp [scanN, dec]
      | m + 1 =>
        simp only [scanN]
        by_cases h : (dec l).2.2 = true
        · rw [if_pos h, if_pos h]
          obtain ⟨_, hs, hl⟩ := dec_ok l h
          have hp := esize_pos (dec l).1
          have hne : l ≠ [] := by intro e; rw [e] at h; simp [dec] at h
          have hlen : 1 ≤ l.length := by
            cases l with
            | nil => exact absurd rfl hne
            | cons => simp
          have : (l.drop (dec l).2.1).length = l.length - (dec l).2.1 := List.length_drop ..
          rw [ih m (l.drop (dec l).2.1) (by omega) (by omega)]
        · rw [if_neg h, if_neg h]
  exact fun l h => key n l.length l h (Nat.le_refl _)

theorem scan_ok (l : List UInt8) (h : (dec l).2.2 = true) : pts l = (dec l).1 :: pts (l.drop (dec l).2.1) ∧ bad l = bad (l.drop (dec l).2.1) := by
  obtain ⟨_, hs, hl⟩ := dec_ok l h
  have hp := esize_pos (dec l).1
  have hne : l ≠ [] := by intro e; rw [e] at h; simp [dec] at h
  match l, hne with
  | b :: r, _ =>
    have hd : ((b :: r).drop (dec (b :: r)).2.1).length ≤ r.length := by rw [List.length_drop, List.length_cons]; omega
    have := scanN_stable r.length _ hd
    unfold pts bad
    rw [List.length_cons]
    simp only [scanN, if_pos h]
    rw [this]
    exact ⟨rfl, rfl⟩

theorem scan_no (l : List UInt8) (h : (dec l).2.2 = false) : pts l = [] ∧ bad l = l := by
  match l with
  | [] => exact ⟨rfl, rfl⟩
  | b :: r =>
    unfold pts bad
    rw [List.length_cons]
    simp only [scanN, h]
    exact ⟨rfl, rfl⟩

theorem scan_nil : pts [] = [] ∧ bad [] = [] := ⟨rfl, rfl⟩

theorem scan_enc (p : Nat) (hp : isPt p = true) (r : List UInt8) : pts (enc p ++ r) = p :: pts r ∧ bad (enc p ++ r) = bad r := by
  have hd := dec_enc p hp r
  have hk : (dec (enc p ++ r)).2.2 = true := by rw [hd]
  have hdrop : (enc p ++ r).drop (dec (enc p ++ r)).2.1 = r := by rw [hd]; show (enc p ++ r).drop (esize p) = r; rw [← enc_length]; simp
  obtain ⟨h1, h2⟩ := scan_ok _ hk
  rw [hdrop] at h1 h2
  rw [hd] at h1
  exact ⟨h1, h2⟩

theorem scan_encs (ps : List Nat) (h : ∀ p ∈ ps, isPt p = true) (r : List UInt8) : pts (encs ps ++ r) = ps ++ pts r ∧ bad (encs ps ++ r) = bad r := by
  induction ps with
  | nil => exact ⟨rfl, rfl⟩
  | cons p ps ih =>
    rw [encs_cons, List.append_assoc]
    obtain ⟨h1, h2⟩ := scan_enc p (h p (List.mem_cons_self ..)) (encs ps ++ r)
    obtain ⟨h3, h4⟩ := ih (fun q hq => h q (List.mem_cons_of_mem _ hq))
    rw [h1, h2, h3, h4]
    exact ⟨rfl, rfl⟩

/-- every list is the encodings of its points and a rest that does not decode -/
theorem decomp (n : Nat) : ∀ l : List UInt8, l.length ≤ n → l = encs (pts l) ++ bad l ∧ (∀ p ∈ pts l, isPt p = true) ∧ (dec (bad l)).2.2 = false := by
  induction n with
  | zero =>
    intro l h
    have : l = [] := List.length_eq_zero_iff.1 (by omega)
    subst this
    exact ⟨rfl, by intro p hp; simp [scan_nil.1] at hp, rfl⟩
  | succ n ih =>
    intro l hl
    by_cases h : (dec l).2.2 = true
    · obtain ⟨h1, h2⟩ := scan_ok l h
      obtain ⟨h3, h4, h5⟩ := dec_ok l h
      have hp := esize_pos (dec l).1
      have hlen : (l.drop (dec l).2.1).length ≤ n := by rw [List.length_drop]; omega
      obtain ⟨i1, i2, i3⟩ := ih _ hlen
      rw [h1, h2, encs_cons]
      refine ⟨?_, ?_, i3⟩
      · rw [List.append_assoc, ← i1]; exact h5
      · intro p hpm
        rcases List.mem_cons.1 hpm with e | e
        · rw [e]; exact h3
        · exact i2 p e
    · have h' : (dec l).2.2 = false := by simpa using h
      obtain ⟨h1, h2⟩ := scan_no l h'
      rw [h1, h2]
      exact ⟨rfl, by intro p hp; simp at hp, h'⟩

theorem split_all (l : List UInt8) : l = encs (pts l) ++ bad l := (decomp _ l (Nat.le_refl _)).1
theorem pts_ok (l : List UInt8) : ∀ p ∈ pts l, isPt p = true := (decomp _ l (Nat.le_refl _)).2.1
theorem bad_no (l : List UInt8) : (dec (bad l)).2.2 = false := (decomp _ l (Nat.le_refl _)).2.2
theorem of_valid (l : List UInt8) (h : bad l = []) : l = encs (pts l) := by have := split_all l; rw [h, List.append_nil] at this; exact this
theorem scan_of (ps : List Nat) (h : ∀ p ∈ ps, isPt p = true) : pts (encs ps) = ps ∧ bad (encs ps) = [] := by
  have := scan_encs ps h []
  rw [List.append_nil, scan_nil.1, scan_nil.2, List.append_nil] at this
  exact this

end Go.Proofs.YtdcdlmigagjbiaaDoor.U
/- The reference's decoding, its 'beginning', in plain Lean: that they agree with XUtf's 'dec'. Nothing of the program stands here. -/
namespace Go.Proofs.YtdcdlmigagjbiaaDoor.U

def rsize (b : Nat) : Nat := if b < 128 then 1 else if 192 ≤ b ∧ b < 224 then 2 else if 224 ≤ b ∧ b < 240 then 3 else if 240 ≤ b ∧ b < 248 then 4 else 0
def rlead (b : Nat) : Nat := if b < 128 then b else if 192 ≤ b ∧ b < 224 then b - 192 else if 224 ≤ b ∧ b < 240 then b - 224 else if 240 ≤ b ∧ b < 248 then b - 240 else 0

def rgo : Nat → Nat → List UInt8 → Option Nat
  | 0, p, _ => some p
  | _ + 1, _, [] => none
  | k + 1, p, c :: r => if c.toNat < 128 ∨ 191 < c.toNat then none else rgo k (p * 64 + c.toNat - 128) r

/-- the reference's check behind its loop -/
def rfin (l : List UInt8) (n : Nat) : Option Nat → Nat × Nat
  | none => (0, 0)
  | some p => if isPt p = true ∧ enc p = l.take n then (p, n) else (0, 0)

def decR : List UInt8 → Nat × Nat
  | [] => (0, 0)
  | b :: r => if b.toNat < 128 then (b.toNat, 1) else if rsize b.toNat = 0 then (0, 0) else if r.length + 1 < rsize b.toNat then (0, 0) else rfin (b :: r) (rsize b.toNat) (rgo (rsize b.toNat - 1) (rlead b.toNat) r)

theorem take_enc (p : Nat) (r : List UInt8) (n : Nat) (h : n = esize p) : (enc p ++ r).take n = enc p := by
  rw [h, ← enc_length]; simp

theorem decR_enc (p : Nat) (hp : isPt p = true) (r : List UInt8) : decR (enc p ++ r) = (p, esize p) := by
  have hp' := hp
  rw [isPt_iff] at hp
  have ht := fun n h => take_enc p r n h
  have hl := enc_length p
  by_cases h1 : p < 128
  · have he : enc p = [UInt8.ofNat p] := by unfold enc; rw [if_pos h1]
    have hs : esize p = 1 := by unfold esize; rw [if_pos h1]
    rw [he, hs]
    simp only [List.cons_append, List.nil_append, decR]
    rw [toNat_ofNat_lt p (by omega), if_pos h1]
  by_cases h2 : p < 2048
  · have he : enc p = [UInt8.ofNat (192 + p / 64), UInt8.ofNat (128 + p % 64)] := by unfold enc; rw [if_neg h1, if_pos h2]
    have hs : esize p = 2 := by unfold esize; rw [if_neg h1, if_pos h2]
    have ht2 := ht 2 hs.symm
    rw [hs]
    have e2 : rsize (192 + p / 64) = 2 := by unfold rsize; rw [if_neg (by omega), if_pos (by omega)]
    have e3 : rlead (192 + p / 64) = p / 64 := by unfold rlead; rw [if_neg (by omega), if_pos (by omega)]; omega
    rw [he] at ht2 ⊢
    simp only [List.cons_append, List.nil_append, decR] at ht2 ⊢
    rw [toNat_ofNat_lt (192 + p / 64) (by omega), if_neg (by omega), e2, if_neg (by omega), if_neg (by simp only [List.length_cons]; omega), e3]
    show rfin _ 2 (rgo 1 (p / 64) _) = _
    simp only [rgo]
    rw [toNat_ofNat_lt (128 + p % 64) (by omega), if_neg (by omega), show p / 64 * 64 + (128 + p % 64) - 128 = p from by omega]
    simp only [rfin]
    rw [if_pos ⟨hp', by rw [he]; exact ht2.symm⟩]
  by_cases h3 : p < 65536
  · have he : enc p = [UInt8.ofNat (224 + p / 4096), UInt8.ofNat (128 + p / 64 % 64), UInt8.ofNat (128 + p % 64)] := by unfold enc; rw [if_neg h1, if_neg h2, if_pos h3]
    have hs : esize p = 3 := by unfold esize; rw [if_neg h1, if_neg h2, if_pos h3]
    have ht2 := ht 3 hs.symm
    rw [hs]
    have e2 : rsize (224 + p / 4096) = 3 := by unfold rsize; rw [if_neg (by omega), if_neg (by omega), if_pos (by omega)]
    have e3 : rlead (224 + p / 4096) = p / 4096 := by unfold rlead; rw [if_neg (by omega), if_neg (by omega), if_pos (by omega)]; omega
    rw [he] at ht2 ⊢
    simp only [List.cons_append, List.nil_append, decR] at ht2 ⊢
    rw [toNat_ofNat_lt (224 + p / 4096) (by omega), if_neg (by omega), e2, if_neg (by omega), if_neg (by simp only [List.length_cons]; omega), e3]
    show rfin _ 3 (rgo 2 (p / 4096) _) = _
    simp only [rgo]
    rw [toNat_ofNat_lt (128 + p / 64 % 64) (by omega), toNat_ofNat_lt (128 + p % 64) (by omega), if_neg (by omega), if_neg (by omega), show (p / 4096 * 64 + (128 + p / 64 % 64) - 128) * 64 + (128 + p % 64) - 128 = p from by omega]
    simp only [rfin]
    rw [if_pos ⟨hp', by rw [he]; exact ht2.symm⟩]
  have he : enc p = [UInt8.ofNat (240 + p / 262144), UInt8.ofNat (128 + p / 4096 % 64), UInt8.ofNat (128 + p / 64 % 64), UInt8.ofNat (128 + p % 64)] := by unfold enc; rw [if_neg h1, if_neg h2, if_neg h3]
  have hs : esize p = 4 := by unfold esize; rw [if_neg h1, if_neg h2, if_neg h3]
  have ht2 := ht 4 hs.symm
  rw [hs]
  have e2 : rsize (240 + p / 262144) = 4 := by unfold rsize; rw [if_neg (by omega), if_neg (by omega), if_neg (by omega), if_pos (by omega)]
  have e3 : rlead (240 + p / 262144) = p / 262144 := by unfold rlead; rw [if_neg (by omega), if_neg (by omega), if_neg (by omega), if_pos (by omega)]; omega
  rw [he] at ht2 ⊢
  simp only [List.cons_append, List.nil_append, decR] at ht2 ⊢
  rw [toNat_ofNat_lt (240 + p / 262144) (by omega), if_neg (by omega), e2, if_neg (by omega), if_neg (by simp only [List.length_cons]; omega), e3]
  show rfin _ 4 (rgo 3 (p / 262144) _) = _
  simp only [rgo]
  rw [toNat_ofNat_lt (128 + p / 4096 % 64) (by omega), toNat_ofNat_lt (128 + p / 64 % 64) (by omega), toNat_ofNat_lt (128 + p % 64) (by omega), if_neg (by omega), if_neg (by omega), if_neg (by omega),
    show ((p / 262144 * 64 + (128 + p / 4096 % 64) - 128) * 64 + (128 + p / 64 % 64) - 128) * 64 + (128 + p % 64) - 128 = p from by omega]
  simp only [rfin]
  rw [if_pos ⟨hp', by rw [he]; exact ht2.symm⟩]

theorem rfin_some (l : List UInt8) (n : Nat) (o : Option Nat) (h : (rfin l n o).2 ≠ 0) : isPt (rfin l n o).1 = true ∧ enc (rfin l n o).1 = l.take n := by
  match o with
  | none => exact absurd rfl h
  | some p =>
    simp only [rfin] at h ⊢
    by_cases hc : isPt p = true ∧ enc p = l.take n
    · rw [if_pos hc]; exact hc
    · rw [if_neg hc] at h; exact absurd rfl h

theorem decR_some (l : List UInt8) (h : (decR l).2 ≠ 0) : (dec l).2.2 = true := by
  match l with
  | [] => exact absurd rfl h
  | b :: r =>
    simp only [decR] at h
    by_cases h1 : b.toNat < 128
    · simp only [dec]
      have : tsize b.toNat = 1 := by unfold tsize; rw [if_pos h1]
      rw [this]; rfl
    · rw [if_neg h1] at h
      by_cases h2 : rsize b.toNat = 0
      · rw [if_pos h2] at h; exact absurd rfl h
      · rw [if_neg h2] at h
        by_cases h3 : r.length + 1 < rsize b.toNat
        · rw [if_pos h3] at h; exact absurd rfl h
        · rw [if_neg h3] at h
          obtain ⟨k1, k2⟩ := rfin_some _ _ _ h
          generalize (rfin (b :: r) (rsize b.toNat) (rgo (rsize b.toNat - 1) (rlead b.toNat) r)).1 = p at k1 k2
          have := dec_enc p k1 ((b :: r).drop (rsize b.toNat))
          rw [k2, List.take_append_drop] at this
          rw [this]

/-- the reference decodes as the program does -/
theorem decR_eq (l : List UInt8) : decR l = if (dec l).2.2 = true then ((dec l).1, (dec l).2.1) else (0, 0) := by
  by_cases h : (dec l).2.2 = true
  · rw [if_pos h]
    obtain ⟨h1, h2, h3⟩ := dec_ok l h
    have := decR_enc _ h1 (l.drop (dec l).2.1)
    rw [← h3] at this
    rw [this, h2]
  · rw [if_neg h]
    by_cases hd : (decR l).2 = 0
    · match l with
      | [] => rfl
      | b :: r =>
        simp only [decR] at hd ⊢
        by_cases h1 : b.toNat < 128
        · rw [if_pos h1] at hd; exact absurd hd (by simp)
        · rw [if_neg h1] at hd ⊢
          by_cases h2 : rsize b.toNat = 0
          · rw [if_pos h2]
          · rw [if_neg h2] at hd ⊢
            by_cases h3 : r.length + 1 < rsize b.toNat
            · rw [if_pos h3]
            · rw [if_neg h3] at hd ⊢
              generalize rgo (rsize b.toNat - 1) (rlead b.toNat) r = o at hd ⊢
              match o with
              | none => rfl
              | some p =>
                simp only [rfin] at hd ⊢
                by_cases hc : isPt p = true ∧ enc p = (b :: r).take (rsize b.toNat)
                · rw [if_pos hc] at hd; exact absurd hd h2
                · rw [if_neg hc]
    · exact absurd (decR_some l hd) h

/-- does the encoding of a point begin with these bytes, and have more? -/
def begR : List UInt8 → Bool
  | [] => false
  | b :: r => if (if b.toNat < 128 then 0 else rsize b.toNat) ≤ r.length + 1 then false else
      decide ((decR (b :: r ++ List.replicate (rsize b.toNat - (r.length + 1)) 128)).2 > 0) || decide ((decR (b :: r ++ List.replicate (rsize b.toNat - (r.length + 1)) 191)).2 > 0)

/-- the greatest count up to n of bytes that begin an encoding -/
def begN (l : List UInt8) : Nat → Nat
  | 0 => 0
  | n + 1 => if begR (l.take (n + 1)) then n + 1 else begN l n
def beginning (l : List UInt8) : Nat := begN l (min 3 l.length)

theorem decR_pos (l : List UInt8) : decide ((decR l).2 > 0) = (dec l).2.2 := by
  rw [decR_eq]
  by_cases h : (dec l).2.2 = true
  · rw [if_pos h, h]
    have h2 := (dec_ok l h).2.1
    have := esize_pos (dec l).1
    simp; omega
  · rw [if_neg h]
    simp at h
    rw [h]; simp

theorem begR_eq (b : UInt8) (r : List UInt8) : begR (b :: r) = (!decide ((if b.toNat < 128 then 0 else rsize b.toNat) ≤ r.length + 1) &&
    ((dec (b :: r ++ List.replicate (rsize b.toNat - (r.length + 1)) 128)).2.2 || (dec (b :: r ++ List.replicate (rsize b.toNat - (r.length + 1)) 191)).2.2)) := by
  simp only [begR, decR_pos]
  by_cases h : (if b.toNat < 128 then 0 else rsize b.toNat) ≤ r.length + 1
  · rw [if_pos h]; simp [h]
  · rw [if_neg h]; simp [h]

theorem begN_eq (l : List UInt8) (k : Nat) : ∀ n, k ≤ n → (∀ m, 1 ≤ m → m ≤ n → begR (l.take m) = decide (m ≤ k)) → begN l n = k := by
  intro n
  induction n with
  | zero => intro h _; simp [begN]; omega
  | succ n ih =>
    intro h hb
    simp only [begN]
    rw [hb (n + 1) (by omega) (by omega)]
    by_cases e : n + 1 ≤ k
    · rw [if_pos (by simpa using e)]; omega
    · rw [if_neg (by simpa using e)]
      exact ih (by omega) (fun m h1 h2 => hb m h1 (by omega))
end Go.Proofs.YtdcdlmigagjbiaaDoor.U
/- How many bytes of a broken encoding belong together: the program's count is the reference's 'beginning'. Nothing of the program stands here. -/
namespace Go.Proofs.YtdcdlmigagjbiaaDoor.U

/-- is the second byte within its bounds? -/
def inr (b c : UInt8) : Bool := !decide (c.toNat < tlow b.toNat ∨ thigh b.toNat < c.toNat)
def cnt (c : UInt8) : Bool := !decide (c.toNat < 128 ∨ 191 < c.toNat)

theorem dec0 (b : UInt8) (r : List UInt8) (h : tsize b.toNat = 0) : dec (b :: r) = (0, 0, false) := by simp [dec, h]
theorem dec1 (b : UInt8) (r : List UInt8) (h : tsize b.toNat = 1) : (dec (b :: r)).2.2 = true := by simp [dec, h]
theorem decN (b : UInt8) (r : List UInt8) (h0 : tsize b.toNat ≠ 0) (h1 : tsize b.toNat ≠ 1) : dec (b :: r) = decGo (tsize b.toNat - 1) (tlow b.toNat) (thigh b.toNat) (tlead b.toNat) 1 r := by simp [dec, h0, h1]

theorem go_nil (k lo hi p s : Nat) : decGo (k + 1) lo hi p s [] = (0, s, false) := rfl
theorem go_in (k lo hi p s : Nat) (c : UInt8) (r : List UInt8) (h : ¬ (c.toNat < lo ∨ hi < c.toNat)) : decGo (k + 1) lo hi p s (c :: r) = decGo k 128 191 (p * 64 + c.toNat % 64) (s + 1) r := by
  simp only [decGo]; rw [if_neg h]
theorem go_out (k lo hi p s : Nat) (c : UInt8) (r : List UInt8) (h : c.toNat < lo ∨ hi < c.toNat) : decGo (k + 1) lo hi p s (c :: r) = (0, s, false) := by
  simp only [decGo]; rw [if_pos h]

theorem inr_iff (b c : UInt8) : inr b c = true ↔ ¬ (c.toNat < tlow b.toNat ∨ thigh b.toNat < c.toNat) := by unfold inr; simp
theorem cnt_iff (c : UInt8) : cnt c = true ↔ ¬ (c.toNat < 128 ∨ 191 < c.toNat) := by unfold cnt; simp

theorem inr_no {b c : UInt8} (h : inr b c = false) : c.toNat < tlow b.toNat ∨ thigh b.toNat < c.toNat := by
  unfold inr at h; rw [Bool.not_eq_false'] at h; exact of_decide_eq_true h
theorem cnt_no {c : UInt8} (h : cnt c = false) : c.toNat < 128 ∨ 191 < c.toNat := by
  unfold cnt at h; rw [Bool.not_eq_false'] at h; exact of_decide_eq_true h

theorem some_in (b : UInt8) : inr b 128 = true ∨ inr b 191 = true := by
  rw [inr_iff, inr_iff]
  have e1 : (128 : UInt8).toNat = 128 := rfl
  have e2 : (191 : UInt8).toNat = 191 := rfl
  rw [e1, e2]
  unfold tlow thigh
  (repeat' split) <;> omega

theorem ok2 (b c : UInt8) (r : List UInt8) (h : tsize b.toNat = 2) : (dec (b :: c :: r)).2.2 = inr b c := by
  rw [decN b _ (by omega) (by omega), h]
  by_cases hc : c.toNat < tlow b.toNat ∨ thigh b.toNat < c.toNat
  · rw [go_out _ _ _ _ _ _ _ hc]; simp [inr, hc]
  · rw [go_in _ _ _ _ _ _ _ hc]; simp [decGo, inr, hc]
theorem ok3 (b c d : UInt8) (r : List UInt8) (h : tsize b.toNat = 3) : (dec (b :: c :: d :: r)).2.2 = (inr b c && cnt d) := by
  rw [decN b _ (by omega) (by omega), h]
  by_cases hc : c.toNat < tlow b.toNat ∨ thigh b.toNat < c.toNat
  · rw [go_out _ _ _ _ _ _ _ hc]; simp [inr, hc]
  · rw [go_in _ _ _ _ _ _ _ hc]
    by_cases hd : d.toNat < 128 ∨ 191 < d.toNat
    · rw [go_out _ _ _ _ _ _ _ hd]; simp [cnt, hd]
    · rw [go_in _ _ _ _ _ _ _ hd]; simp [decGo, inr, hc, cnt, hd]
theorem ok4 (b c d e : UInt8) (r : List UInt8) (h : tsize b.toNat = 4) : (dec (b :: c :: d :: e :: r)).2.2 = (inr b c && cnt d && cnt e) := by
  rw [decN b _ (by omega) (by omega), h]
  by_cases hc : c.toNat < tlow b.toNat ∨ thigh b.toNat < c.toNat
  · rw [go_out _ _ _ _ _ _ _ hc]; simp [inr, hc]
  · rw [go_in _ _ _ _ _ _ _ hc]
    by_cases hd : d.toNat < 128 ∨ 191 < d.toNat
    · rw [go_out _ _ _ _ _ _ _ hd]; simp [cnt, hd]
    · rw [go_in _ _ _ _ _ _ _ hd]
      by_cases he : e.toNat < 128 ∨ 191 < e.toNat
      · rw [go_out _ _ _ _ _ _ _ he]; simp [cnt, he]
      · rw [go_in _ _ _ _ _ _ _ he]; simp [decGo, inr, hc, cnt, hd, he]

theorem cnt_128 : cnt 128 = true := by decide
theorem cnt_191 : cnt 191 = true := by decide
theorem or_in (b : UInt8) : (inr b 128 || inr b 191) = true := by rcases some_in b with h | h <;> simp [h]

theorem rs2 (b : UInt8) (h : tsize b.toNat = 2) : ¬ b.toNat < 128 ∧ rsize b.toNat = 2 := by
  rcases tsize_cases b.toNat with e | ⟨e, hb⟩ | ⟨e, hb, hb'⟩ | ⟨e, hb, hb'⟩ | ⟨e, hb, hb'⟩ <;> first | omega | skip
  exact ⟨by omega, by unfold rsize; rw [if_neg (by omega), if_pos (by omega)]⟩
theorem rs3 (b : UInt8) (h : tsize b.toNat = 3) : ¬ b.toNat < 128 ∧ rsize b.toNat = 3 := by
  rcases tsize_cases b.toNat with e | ⟨e, hb⟩ | ⟨e, hb, hb'⟩ | ⟨e, hb, hb'⟩ | ⟨e, hb, hb'⟩ <;> first | omega | skip
  exact ⟨by omega, by unfold rsize; rw [if_neg (by omega), if_neg (by omega), if_pos (by omega)]⟩
theorem rs4 (b : UInt8) (h : tsize b.toNat = 4) : ¬ b.toNat < 128 ∧ rsize b.toNat = 4 := by
  rcases tsize_cases b.toNat with e | ⟨e, hb⟩ | ⟨e, hb, hb'⟩ | ⟨e, hb, hb'⟩ | ⟨e, hb, hb'⟩ <;> first | omega | skip
  exact ⟨by omega, by unfold rsize; rw [if_neg (by omega), if_neg (by omega), if_neg (by omega), if_pos (by omega)]⟩

theorem beg_long (b : UInt8) (r : List UInt8) (h : ¬ b.toNat < 128) (hr : rsize b.toNat ≤ r.length + 1) : begR (b :: r) = false := by
  rw [begR_eq, if_neg h]; simp [hr]
theorem beg_short (b : UInt8) (r : List UInt8) (h : ¬ b.toNat < 128) (hr : ¬ rsize b.toNat ≤ r.length + 1) : begR (b :: r) =
    ((dec (b :: r ++ List.replicate (rsize b.toNat - (r.length + 1)) 128)).2.2 || (dec (b :: r ++ List.replicate (rsize b.toNat - (r.length + 1)) 191)).2.2) := by
  rw [begR_eq, if_neg h]; simp [hr]

theorem beg0 (b : UInt8) (r : List UInt8) (h : tsize b.toNat = 0) : begR (b :: r) = false := by
  rw [begR_eq, List.cons_append, List.cons_append, dec0 b _ h, dec0 b _ h]; simp
theorem beg2_1 (b : UInt8) (h : tsize b.toNat = 2) : begR [b] = true := by
  obtain ⟨h1, h2⟩ := rs2 b h
  rw [beg_short b [] h1 (by simp [h2]), h2]
  show ((dec (b :: 128 :: [])).2.2 || (dec (b :: 191 :: [])).2.2) = true
  rw [ok2 _ _ _ h, ok2 _ _ _ h, or_in]
theorem beg3_1 (b : UInt8) (h : tsize b.toNat = 3) : begR [b] = true := by
  obtain ⟨h1, h2⟩ := rs3 b h
  rw [beg_short b [] h1 (by simp [h2]), h2]
  show ((dec (b :: 128 :: 128 :: [])).2.2 || (dec (b :: 191 :: 191 :: [])).2.2) = true
  rw [ok3 _ _ _ _ h, ok3 _ _ _ _ h, cnt_128, cnt_191, Bool.and_true, Bool.and_true, or_in]
theorem beg3_2 (b c : UInt8) (h : tsize b.toNat = 3) : begR [b, c] = inr b c := by
  obtain ⟨h1, h2⟩ := rs3 b h
  rw [beg_short b [c] h1 (by simp [h2]), h2]
  show ((dec (b :: c :: 128 :: [])).2.2 || (dec (b :: c :: 191 :: [])).2.2) = _
  rw [ok3 _ _ _ _ h, ok3 _ _ _ _ h, cnt_128, cnt_191, Bool.and_true, Bool.or_self]
theorem beg4_1 (b : UInt8) (h : tsize b.toNat = 4) : begR [b] = true := by
  obtain ⟨h1, h2⟩ := rs4 b h
  rw [beg_short b [] h1 (by simp [h2]), h2]
  show ((dec (b :: 128 :: 128 :: 128 :: [])).2.2 || (dec (b :: 191 :: 191 :: 191 :: [])).2.2) = true
  rw [ok4 _ _ _ _ _ h, ok4 _ _ _ _ _ h, cnt_128, cnt_191, Bool.and_true, Bool.and_true, Bool.and_true, Bool.and_true, or_in]
theorem beg4_2 (b c : UInt8) (h : tsize b.toNat = 4) : begR [b, c] = inr b c := by
  obtain ⟨h1, h2⟩ := rs4 b h
  rw [beg_short b [c] h1 (by simp [h2]), h2]
  show ((dec (b :: c :: 128 :: 128 :: [])).2.2 || (dec (b :: c :: 191 :: 191 :: [])).2.2) = _
  rw [ok4 _ _ _ _ _ h, ok4 _ _ _ _ _ h, cnt_128, cnt_191, Bool.and_true, Bool.and_true, Bool.or_self]
theorem beg4_3 (b c d : UInt8) (h : tsize b.toNat = 4) : begR [b, c, d] = (inr b c && cnt d) := by
  obtain ⟨h1, h2⟩ := rs4 b h
  rw [beg_short b [c, d] h1 (by simp [h2]), h2]
  show ((dec (b :: c :: d :: 128 :: [])).2.2 || (dec (b :: c :: d :: 191 :: [])).2.2) = _
  rw [ok4 _ _ _ _ _ h, ok4 _ _ _ _ _ h, cnt_128, cnt_191, Bool.and_true, Bool.or_self]

theorem begin_eq (l : List UInt8) (hl : l ≠ []) (h : (dec l).2.2 = false) : beginning l = (dec l).2.1 ∧ (dec l).2.1 ≤ l.length := by
  match l, hl with
  | b :: r, _ =>
  unfold beginning
  rcases tsize_cases b.toNat with e | ⟨e, _⟩ | ⟨e, _, _⟩ | ⟨e, _, _⟩ | ⟨e, _, _⟩
  · rw [dec0 b r e]
    refine ⟨begN_eq _ _ _ (Nat.zero_le _) fun m h1 h2 => ?_, Nat.zero_le _⟩
    match m, h1 with
    | m + 1, _ => rw [List.take_succ_cons, beg0 b _ e]; simp
  · rw [dec1 b r e] at h; simp at h
  · have hs : (dec (b :: r)).2.1 = 1 := by
      match r, h with
      | [], _ => rw [decN b _ (by omega) (by omega), e]; rfl
      | c :: r, h =>
        rw [ok2 b c r e] at h
        rw [decN b _ (by omega) (by omega), e, go_out _ _ _ _ _ _ _ (inr_no h)]
    rw [hs]
    refine ⟨begN_eq _ _ _ (by simp [List.length_cons]; omega) fun m h1 h2 => ?_, by simp⟩
    obtain ⟨k1, k2⟩ := rs2 b e
    match m, h1 with
    | 1, _ => rw [List.take_succ_cons, List.take_zero, beg2_1 b e]; rfl
    | m + 2, _ =>
      rw [List.take_succ_cons, beg_long b _ k1 (by rw [k2, List.length_take]; simp only [List.length_cons] at h2; omega)]
      simp
  · obtain ⟨k1, k2⟩ := rs3 b e
    match r, h with
    | [], _ =>
      have hs : (dec [b]).2.1 = 1 := by rw [decN b _ (by omega) (by omega), e]; rfl
      rw [hs]
      refine ⟨begN_eq _ _ _ (by simp) fun m h1 h2 => ?_, by simp⟩
      have : m = 1 := by simp at h2; omega
      subst this
      rw [List.take_succ_cons, List.take_zero, beg3_1 b e]; rfl
    | [c], _ =>
      have hs : (dec [b, c]).2.1 = if inr b c then 2 else 1 := by
        rw [decN b _ (by omega) (by omega), e]
        by_cases hc : c.toNat < tlow b.toNat ∨ thigh b.toNat < c.toNat
        · rw [go_out _ _ _ _ _ _ _ hc]; simp [inr, hc]
        · rw [go_in _ _ _ _ _ _ _ hc, go_nil]; simp [inr, hc]
      rw [hs]
      refine ⟨begN_eq _ _ _ (by simp; split <;> omega) fun m h1 h2 => ?_, by simp; split <;> omega⟩
      match m, h1 with
      | 1, _ => rw [List.take_succ_cons, List.take_zero, beg3_1 b e]; split <;> rfl
      | 2, _ => rw [List.take_succ_cons, List.take_succ_cons, List.take_zero, beg3_2 b c e]; cases inr b c <;> rfl
      | m + 3, _ => (simp at h2 <;> omega)
    | c :: d :: r, h =>
      have hs : (dec (b :: c :: d :: r)).2.1 = if inr b c then 2 else 1 := by
        rw [ok3 b c d r e] at h
        rw [decN b _ (by omega) (by omega), e]
        by_cases hc : c.toNat < tlow b.toNat ∨ thigh b.toNat < c.toNat
        · rw [go_out _ _ _ _ _ _ _ hc]; simp [inr, hc]
        · have hi : inr b c = true := by simp [inr, hc]
          rw [hi, Bool.true_and] at h
          rw [go_in _ _ _ _ _ _ _ hc, go_out _ _ _ _ _ _ _ (cnt_no h)]; simp [inr, hc]
      rw [hs]
      refine ⟨begN_eq _ _ _ (by simp; split <;> omega) fun m h1 h2 => ?_, by simp; split <;> omega⟩
      match m, h1 with
      | 1, _ => rw [List.take_succ_cons, List.take_zero, beg3_1 b e]; split <;> rfl
      | 2, _ => rw [List.take_succ_cons, List.take_succ_cons, List.take_zero, beg3_2 b c e]; cases inr b c <;> rfl
      | m + 3, _ =>
        rw [List.take_succ_cons, beg_long b _ k1 (by rw [k2, List.length_take]; simp only [List.length_cons] at h2 ⊢; omega)]
        symm; simp; split <;> omega
  · obtain ⟨k1, k2⟩ := rs4 b e
    match r, h with
    | [], _ =>
      have hs : (dec [b]).2.1 = 1 := by rw [decN b _ (by omega) (by omega), e]; rfl
      rw [hs]
      refine ⟨begN_eq _ _ _ (by simp) fun m h1 h2 => ?_, by simp⟩
      have : m = 1 := by simp at h2; omega
      subst this
      rw [List.take_succ_cons, List.take_zero, beg4_1 b e]; rfl
    | [c], _ =>
      have hs : (dec [b, c]).2.1 = if inr b c then 2 else 1 := by
        rw [decN b _ (by omega) (by omega), e]
        by_cases hc : c.toNat < tlow b.toNat ∨ thigh b.toNat < c.toNat
        · rw [go_out _ _ _ _ _ _ _ hc]; simp [inr, hc]
        · rw [go_in _ _ _ _ _ _ _ hc, go_nil]; simp [inr, hc]
      rw [hs]
      refine ⟨begN_eq _ _ _ (by simp; split <;> omega) fun m h1 h2 => ?_, by simp; split <;> omega⟩
      match m, h1 with
      | 1, _ => rw [List.take_succ_cons, List.take_zero, beg4_1 b e]; split <;> rfl
      | 2, _ => rw [List.take_succ_cons, List.take_succ_cons, List.take_zero, beg4_2 b c e]; cases inr b c <;> rfl
      | m + 3, _ => (simp at h2 <;> omega)
    | [c, d], _ =>
      have hs : (dec [b, c, d]).2.1 = if inr b c then (if cnt d then 3 else 2) else 1 := by
        rw [decN b _ (by omega) (by omega), e]
        by_cases hc : c.toNat < tlow b.toNat ∨ thigh b.toNat < c.toNat
        · rw [go_out _ _ _ _ _ _ _ hc]; simp [inr, hc]
        · rw [go_in _ _ _ _ _ _ _ hc]
          by_cases hd : d.toNat < 128 ∨ 191 < d.toNat
          · rw [go_out _ _ _ _ _ _ _ hd]; simp [inr, hc, cnt, hd]
          · rw [go_in _ _ _ _ _ _ _ hd, go_nil]; simp [inr, hc, cnt, hd]
      rw [hs]
      refine ⟨begN_eq _ _ _ (by simp; (repeat' split) <;> omega) fun m h1 h2 => ?_, by simp; (repeat' split) <;> omega⟩
      match m, h1 with
      | 1, _ => rw [List.take_succ_cons, List.take_zero, beg4_1 b e]; cases inr b c <;> cases cnt d <;> rfl
      | 2, _ => rw [List.take_succ_cons, List.take_succ_cons, List.take_zero, beg4_2 b c e]; cases inr b c <;> cases cnt d <;> rfl
      | 3, _ => rw [List.take_succ_cons, List.take_succ_cons, List.take_succ_cons, List.take_zero, beg4_3 b c d e]; cases inr b c <;> cases cnt d <;> rfl
      | m + 4, _ => (simp at h2 <;> omega)
    | c :: d :: f :: r, h =>
      have hs : (dec (b :: c :: d :: f :: r)).2.1 = if inr b c then (if cnt d then 3 else 2) else 1 := by
        rw [ok4 b c d f r e] at h
        rw [decN b _ (by omega) (by omega), e]
        by_cases hc : c.toNat < tlow b.toNat ∨ thigh b.toNat < c.toNat
        · rw [go_out _ _ _ _ _ _ _ hc]; simp [inr, hc]
        · have hi : inr b c = true := by simp [inr, hc]
          rw [hi, Bool.true_and] at h
          rw [go_in _ _ _ _ _ _ _ hc]
          by_cases hd : d.toNat < 128 ∨ 191 < d.toNat
          · rw [go_out _ _ _ _ _ _ _ hd]; simp [inr, hc, cnt, hd]
          · have hi' : cnt d = true := by simp [cnt, hd]
            rw [hi', Bool.true_and] at h
            rw [go_in _ _ _ _ _ _ _ hd, go_out _ _ _ _ _ _ _ (cnt_no h)]; simp [inr, hc, cnt, hd]
      rw [hs]
      refine ⟨begN_eq _ _ _ (by simp; (repeat' split) <;> omega) fun m h1 h2 => ?_, by simp; (repeat' split) <;> omega⟩
      match m, h1 with
      | 1, _ => rw [List.take_succ_cons, List.take_zero, beg4_1 b e]; cases inr b c <;> cases cnt d <;> rfl
      | 2, _ => rw [List.take_succ_cons, List.take_succ_cons, List.take_zero, beg4_2 b c e]; cases inr b c <;> cases cnt d <;> rfl
      | 3, _ => rw [List.take_succ_cons, List.take_succ_cons, List.take_succ_cons, List.take_zero, beg4_3 b c d e]; cases inr b c <;> cases cnt d <;> rfl
      | m + 4, _ => omega
end Go.Proofs.YtdcdlmigagjbiaaDoor.U
/- Bit operations on small numbers as arithmetic. Nothing of the program stands here. -/
namespace Go.Proofs.YtdcdlmigagjbiaaDoor
theorem wraps_i64 (n : Int) (h₀ : 0 ≤ n) (h₁ : n < 2 ^ 63) : IntKind.i64.wrap n = n := by rw [IntKind.wrap_i64]; omega
theorem i64_and63 (x : Int) (h₀ : 0 ≤ x) (h₁ : x < 256) : bits .and .i64 x 63 = x % 64 := bits_mask .i64 63 (by decide) wraps_i64 6 (by decide) x h₀ (by omega)
theorem i64_and63u (n : Int) : bits .and .i64 n 63 = n % 64 := by
  have h63 : (BitVec.ofInt 64 63).toNat = 2 ^ 6 - 1 := by decide
  have key : (BitVec.ofInt 64 n &&& BitVec.ofInt 64 63).toNat = (n % ((2 ^ 64 : Nat) : Int)).toNat % 2 ^ 6 := by
    rw [BitVec.toNat_and, BitVec.toNat_ofInt, h63, Nat.and_two_pow_sub_one_eq_mod]
  show IntKind.i64.wrap ((BitVec.ofInt 64 n &&& BitVec.ofInt 64 63).toNat : Nat) = n % 64
  rw [key, IntKind.wrap_i64]
  omega
theorem i64_and31 (x : Int) (h₀ : 0 ≤ x) (h₁ : x < 256) : bits .and .i64 x 31 = x % 32 := bits_mask .i64 63 (by decide) wraps_i64 5 (by decide) x h₀ (by omega)
theorem i64_and15 (x : Int) (h₀ : 0 ≤ x) (h₁ : x < 256) : bits .and .i64 x 15 = x % 16 := bits_mask .i64 63 (by decide) wraps_i64 4 (by decide) x h₀ (by omega)
theorem i64_and7 (x : Int) (h₀ : 0 ≤ x) (h₁ : x < 256) : bits .and .i64 x 7 = x % 8 := bits_mask .i64 63 (by decide) wraps_i64 3 (by decide) x h₀ (by omega)
theorem i64_or6 (x y : Int) (hx₀ : 0 ≤ x) (hx : x % 64 = 0) (hx₁ : x < 1099511627776) (h₀ : 0 ≤ y) (h₁ : y < 64) : bits .or .i64 x y = x + y :=
  bits_join .i64 63 (by decide) wraps_i64 6 x y hx₀ hx (by omega) h₀ h₁ (by omega)
theorem i64_step (p c : Nat) (hp : p < 16777216) (hc : c < 256) : bits .or .i64 ((p : Int) * 64) (bits .and .i64 (c : Int) 63) = ((p * 64 + c % 64 : Nat) : Int) := by
  rw [i64_and63 _ (by omega) (by omega), i64_or6 _ _ (by omega) (by omega) (by omega) (by omega) (by omega)]
  omega
theorem u8_cont (c : UInt8) : (bits .and .u8 (c.toNat : Int) 192 == 128) = decide (128 ≤ c.toNat ∧ c.toNat < 192) := by
  have h : ∀ n : Fin 256, (bits .and .u8 (n.val : Int) 192 == 128) = decide (128 ≤ n.val ∧ n.val < 192) := by decide +kernel
  exact h ⟨c.toNat, UInt8.toNat_lt c⟩
end Go.Proofs.YtdcdlmigagjbiaaDoor
/- Slices of ints in memory that are read; what stays behind a call that only makes memory. Nothing of the program stands here. -/
namespace Go.Proofs.YtdcdlmigagjbiaaDoor
open Go.RowKit

/-- the value is a slice that reads as the list -/
def Ints (w : World) (v : Value) (l : List Int) : Prop :=
  ∃ ao cap, v = .slice ao l.length cap ∧ l.length ≤ cap ∧ cap ≤ maxLen ∧ (0 < l.length → ∃ b off, ao = some ⟨b, off, none⟩ ∧ b < w.heap.size ∧ ∀ j, j < l.length → w.cell? ⟨b, off + j, none⟩ = some (.int .i64 (l.getD j 0)))

theorem Ints.below {w w' : World} {v : Value} {l : List Int} (h : Ints w v l) (hb : Below w.heap.size w w') : Ints w' v l := by
  obtain ⟨ao, cap, h1, h2, h3, h4⟩ := h
  refine ⟨ao, cap, h1, h2, h3, fun hl => ?_⟩
  obtain ⟨b, off, e, hlt, hc⟩ := h4 hl
  exact ⟨b, off, e, Nat.lt_of_lt_of_le hlt hb.size, fun j hj => by rw [hb.cell (p := ⟨b, off + j, none⟩) hlt]; exact hc j hj⟩

theorem Ints.of_owns {w : World} {base e : Nat} {v : Value} {n : Nat} {l : List Int} (h : w.ownsRow base e 1 v n (l.map (Value.int .i64))) : Ints w v l := by
  obtain ⟨hl, h⟩ := h
  rw [List.length_map, Nat.mul_one] at hl
  subst hl
  rcases h with ⟨rfl, h0⟩ | ⟨g, cap, cur, rfl, hg, hh, hn, hc, hs, ht⟩
  · exact ⟨none, 0, by rw [h0], by omega, by unfold maxLen; omega, fun h => by omega⟩
  · refine ⟨some ⟨g, 0, none⟩, cap, rfl, hn, hc, fun _ => ⟨g, 0, rfl, ?_, fun j hj => ?_⟩⟩
    · exact (Array.getElem?_eq_some_iff.1 hh).1
    · have hown : w.ownsRow base e 1 (.slice (some ⟨g, 0, none⟩) l.length cap) l.length (l.map (Value.int .i64)) := ⟨by simp, Or.inr ⟨g, cap, cur, rfl, hg, hh, hn, hc, hs, ht⟩⟩
      rw [Nat.zero_add, hown.cellAt j (by omega)]
      simp [List.getElem?_eq_getElem hj]

theorem Ints.shape {w : World} {v : Value} {l : List Int} (h : Ints w v l) : ∃ ao cap, v = .slice ao l.length cap := by
  obtain ⟨ao, cap, h1, _⟩ := h; exact ⟨ao, cap, h1⟩

/-- what an append of one element to a row of the call's own leaves -/
theorem rel_append {W w w1 : World} {e B : Nat} {v v' : Value} {n : Nat} {xs : List Value} {x : Value} {o : Obj} (hB : B ≤ w.heap.size) (hown : w.ownsRow B e 1 v n xs) (hb : Below B W w)
    (hown' : w1.ownsRow B e 1 v' (n + 1) (xs ++ [x])) (hg : (w.alloc o).grownBy w1 v.ownBlock) : w1.ownsRow B e 1 v' (n + 1) (xs ++ [x]) ∧ Below B W w1 := by
  refine ⟨hown', (hb.alloc hB o).grown hg (by simp; omega) fun k hk => ?_⟩
  rcases hown.2 with ⟨h1, _⟩ | ⟨g, cap, cur, h1, hle, _⟩
  · rw [h1] at hk; simp [Value.ownBlock] at hk
  · rw [h1] at hk; simp [Value.ownBlock] at hk; omega

/-- what an append of some elements to a row of the call's own leaves -/
theorem rel_appendN {W w w1 : World} {e B : Nat} {v : Value} {n : Nat} {xs : List Value} {o : Obj} (hB : B ≤ w.heap.size) (hown : w.ownsRow B e 1 v n xs) (hb : Below B W w) (hg : (w.alloc o).grownBy w1 v.ownBlock) : Below B W w1 := by
  refine (hb.alloc hB o).grown hg (by simp; omega) fun k hk => ?_
  rcases hown.2 with ⟨h1, _⟩ | ⟨g, cap, cur, h1, hle, _⟩
  · rw [h1] at hk; simp [Value.ownBlock] at hk
  · rw [h1] at hk; simp [Value.ownBlock] at hk; omega

/-- 'string(b)' of a row of the call's own -/
theorem conv_owned {P : Program} {w : World} {src dst e base : Nat} {v : Value} {n : Nat} {l : List UInt8} (hs : P.underlying src = some (.slice e)) (he : P.underlying e = some (.int .u8)) (hd : P.underlying dst = some .string)
    (h : w.ownsRow base e 1 v n (Lib.byteCells l)) : (convert src dst v).run P w = .ok (.string ⟨l.toArray⟩) w := by
  obtain ⟨hl, h⟩ := h
  rw [Lib.byteCells_length, Nat.mul_one] at hl
  subst hl
  rcases h with ⟨rfl, h0⟩ | ⟨g, cap, cur, rfl, hg, hh, hn, hc, hs', ht⟩
  · have : l = [] := List.length_eq_zero_iff.1 h0
    subst this
    exact Lib.run_convert_nil_bytes w src dst e 0 hs he hd
  · rw [Nat.mul_one] at ht
    exact run_convert_bytes_back w src dst e ⟨g, 0, none⟩ cap l hs he hd (Lib.bytes_of_row hh ht)

/-- a read of an argument's or an earlier result's element, in a later world -/
theorem Ints.open {w : World} {v : Value} {l : List Int} (h : Ints w v l) : (l = [] ∧ ∃ ao cap, v = .slice ao 0 cap) ∨
    (0 < l.length ∧ ∃ b off cap, v = .slice (some ⟨b, off, none⟩) l.length cap ∧ l.length ≤ cap ∧ cap ≤ maxLen ∧ b < w.heap.size ∧ ∀ j, j < l.length → w.cell? ⟨b, off + j, none⟩ = some (.int .i64 (l.getD j 0))) := by
  obtain ⟨ao, cap, h1, h2, h3, h4⟩ := h
  cases l with
  | nil => exact Or.inl ⟨rfl, ao, cap, h1⟩
  | cons x r =>
    obtain ⟨b, off, e, hlt, hc⟩ := h4 (by simp)
    exact Or.inr ⟨by simp, b, off, cap, by rw [h1, e], h2, h3, hlt, hc⟩
end Go.Proofs.YtdcdlmigagjbiaaDoor
/- Worlds in which only some blocks have turned; blocks that are known whole; a map of strings that reads as a list; rows of pending writes. Nothing of the program stands here but type numbers. -/
namespace Go.Proofs.YtdcdlmigagjbiaaDoor
open Go.RowKit Go.Maps

/-- w' is w with new blocks; of the old ones only those of F may have turned -/
structure Turn (F : List Nat) (w w' : World) : Prop where
  os : w'.os = w.os
  tape : w'.tape = w.tape
  output : w'.output = w.output
  size : w.heap.size ≤ w'.heap.size
  block : ∀ k, k < w.heap.size → k ∉ F → w'.heap[k]? = w.heap[k]?

section
variable {F G : List Nat} {a b c : World}
theorem Turn.refl (F : List Nat) (w : World) : Turn F w w := ⟨rfl, rfl, rfl, Nat.le_refl _, fun _ _ _ => rfl⟩
theorem Turn.trans (h : Turn F a b) (k : Turn G b c) (hG : ∀ i, i ∈ G → i ∈ F ∨ a.heap.size ≤ i) : Turn F a c :=
  ⟨k.os.trans h.os, k.tape.trans h.tape, k.output.trans h.output, Nat.le_trans h.size k.size, fun i hi hn =>
    (k.block i (Nat.lt_of_lt_of_le hi h.size) (fun hg => by rcases hG i hg with h1 | h1; exact hn h1; omega)).trans (h.block i hi hn)⟩
theorem Turn.mono (h : Turn F a b) (hF : ∀ i, i ∈ F → i ∈ G) : Turn G a b := ⟨h.os, h.tape, h.output, h.size, fun i hi hn => h.block i hi (fun hg => hn (hF i hg))⟩
theorem Turn.grown (h : Turn F a b) {row : Option Nat} (hg : b.grownBy c row) (hr : ∀ g, row = some g → g ∈ F ∨ a.heap.size ≤ g) : Turn F a c :=
  ⟨hg.os.trans h.os, hg.tape.trans h.tape, hg.output.trans h.output, Nat.le_trans h.size hg.size, fun i hi hn =>
    (hg.block i (Nat.lt_of_lt_of_le hi h.size) (fun e => by rcases hr i e.symm with h1 | h1; exact hn h1; omega)).trans (h.block i hi hn)⟩
theorem Turn.below (h : Turn F a b) {B : Nat} (hb : Below B b c) (hB : a.heap.size ≤ B) : Turn F a c :=
  ⟨hb.os.trans h.os, hb.tape.trans h.tape, hb.output.trans h.output, Nat.le_trans h.size hb.size, fun i hi hn => (hb.block i (by omega)).trans (h.block i hi hn)⟩
theorem Turn.alloc (h : Turn F a b) (o : Obj) : Turn F a (b.alloc o) := h.grown (World.grownBy_alloc b o none) (fun _ e => by cases e)
theorem Turn.drew (h : Turn F a b) : Turn F a b.drew := ⟨h.os, h.tape, h.output, h.size, h.block⟩
theorem Turn.drewN (h : Turn F a b) (n : Nat) : Turn F a (b.drewN n) := ⟨h.os, h.tape, h.output, h.size, h.block⟩
theorem Turn.setCell (h : Turn F a b) {p : Addr} (hp : p.block ∈ F ∨ a.heap.size ≤ p.block) (u : Value) : Turn F a (b.setCell p u) :=
  ⟨h.os, h.tape, h.output, by simpa [World.setCell] using h.size, fun i hi hn => (Below.heap_setCell b p u i (by
    rintro rfl
    rcases hp with hp | hp
    · exact hn hp
    · omega)).trans (h.block i hi hn)⟩
theorem Turn.toBelow (h : Turn F a b) {B : Nat} (hF : ∀ i, i ∈ F → B ≤ i) (hB : B ≤ a.heap.size) : Below B a b :=
  ⟨h.os, h.tape, h.output, h.size, fun i hi => h.block i (by omega) (fun hm => by have := hF i hm; omega)⟩
theorem Turn.ofBelow {B : Nat} (h : Below B a b) (hB : a.heap.size ≤ B) : Turn F a b := (Turn.refl F a).below h hB
theorem Turn.cell (h : Turn F a b) {p : Addr} (hp : p.block < a.heap.size) (hn : p.block ∉ F) : b.cell? p = a.cell? p := World.cell?_of_block (h.block _ hp hn)
theorem Turn.frozen (h : Turn F a b) {p : Addr} (hp : p.block < a.heap.size) (hn : p.block ∉ F) : b.frozen? p = a.frozen? p := World.frozen?_of_block (h.block _ hp hn)
end

/-- block g is just the cells cs of element type t, none frozen -/
def Blk (w : World) (g : Nat) (t : TypeId) (cs : Array Value) : Prop := w.heap[g]? = some (.cells cs t (0, 0))

section
variable {w w' : World} {g : Nat} {t : TypeId} {cs : Array Value}
theorem Blk.lt (h : Blk w g t cs) : g < w.heap.size := by
  rcases Nat.lt_or_ge g w.heap.size with hlt | hge
  · exact hlt
  · unfold Blk at h; rw [Array.getElem?_eq_none hge] at h; cases h
theorem Blk.cell (h : Blk w g t cs) (i : Nat) : w.cell? ⟨g, i, none⟩ = cs[i]? := cell_of_row w g i cs t (0, 0) h
theorem Blk.frozen (h : Blk w g t cs) (i : Nat) : w.frozen? ⟨g, i, none⟩ = false := by
  unfold Blk at h
  simp [World.frozen?, h]
theorem Blk.new (w : World) (t : TypeId) (cs : Array Value) : Blk (w.alloc (.cells cs t)) w.heap.size t cs := heap_alloc_new w _
theorem Blk.drew (h : Blk w g t cs) : Blk w.drew g t cs := h
theorem Blk.drewN (h : Blk w g t cs) (n : Nat) : Blk (w.drewN n) g t cs := h
theorem Blk.alloc (h : Blk w g t cs) (o : Obj) : Blk (w.alloc o) g t cs := (Below.heap_alloc w o g h.lt).trans h
theorem Blk.set_ (h : Blk w g t cs) (i : Nat) (u : Value) : Blk (w.setCell ⟨g, i, none⟩ u) g t (cs.setIfInBounds i u) := by
  unfold Blk at h ⊢
  simp [World.setCell, Array.getElem?_modify, h]
theorem Blk.far (h : Blk w g t cs) {p : Addr} (hp : g ≠ p.block) (u : Value) : Blk (w.setCell p u) g t cs := (Below.heap_setCell w p u g hp).trans h
theorem Blk.below {B : Nat} (h : Blk w g t cs) (hb : Below B w w') (hg : g < B) : Blk w' g t cs := (hb.block g hg).trans h
theorem Blk.grown {row : Option Nat} (h : Blk w g t cs) (hb : w.grownBy w' row) (hg : some g ≠ row) : Blk w' g t cs := (hb.block g h.lt hg).trans h
theorem Blk.turn {F : List Nat} (h : Blk w g t cs) (hb : Turn F w w') (hg : g ∉ F) : Blk w' g t cs := (hb.block g h.lt hg).trans h
theorem Blk.ne_ {g' : Nat} {t' : TypeId} {cs' : Array Value} (h : Blk w g t cs) (h' : Blk w g' t' cs') (hne : t ≠ t') : g ≠ g' := by
  rintro rfl
  unfold Blk at h h'
  rw [h] at h'
  injection h' with h'
  injection h' with _ ht
  exact hne ht
theorem own_blk_ne {base : Nat} {e : TypeId} {size n : Nat} {v : Value} {xs : List Value} (h : w.ownsRow base e size v n xs) (hg : Blk w g t cs) (hne : e ≠ t) : v.ownBlock ≠ some g := by
  rcases h.2 with ⟨rfl, _⟩ | ⟨g', cap, cur, rfl, _, hh, _⟩
  · simp [Value.ownBlock]
  · intro he
    have : g' = g := by simpa [Value.ownBlock] using he
    subst this
    exact Blk.ne_ (t := e) hh hg hne rfl
theorem map_blk_ne {H : Type} {P : Program} {k : TypeId} {R : Value → Option (DataW H × List MemPlace)} {b n : Nat} {D : DataW H} (h : w.ownsMap P k R b n D) (hg : Blk w g t cs) : b ≠ g := by
  rintro rfl
  obtain ⟨es, clock, hb, _⟩ := h
  unfold Blk at hg
  rw [hb] at hg
  cases hg
theorem map_row_ne {H : Type} {P : Program} {k : TypeId} {R : Value → Option (DataW H × List MemPlace)} {b n : Nat} {D : DataW H} (h : w.ownsMap P k R b n D) {base : Nat} {e : TypeId} {size m : Nat} {v : Value} {xs : List Value} (hr : w.ownsRow base e size v m xs) : v.ownBlock ≠ some b := by
  rcases hr.2 with ⟨rfl, _⟩ | ⟨g', cap, cur, rfl, _, hh, _⟩
  · simp [Value.ownBlock]
  · intro he
    have : g' = b := by simpa [Value.ownBlock] using he
    subst this
    exact map_blk_ne h (show Blk w g' e cur from hh) rfl
end

/-! ### kept while other blocks turn -/
theorem map_turn {H : Type} {P : Program} {k : TypeId} {R : Value → Option (DataW H × List MemPlace)} {b n : Nat} {D : DataW H} {w w' : World} {F : List Nat} (h : w.ownsMap P k R b n D) (ht : Turn F w w') (hn : b ∉ F) : w'.ownsMap P k R b n D := by
  have hlt := h.lt
  obtain ⟨es, clock, hb, r⟩ := h
  exact ⟨es, clock, (ht.block b hlt hn).trans hb, r⟩
theorem row_turn {base : Nat} {e : TypeId} {size m : Nat} {v : Value} {xs : List Value} {w w' : World} {F : List Nat} (h : w.ownsRow base e size v m xs) (ht : Turn F w w') (hn : ∀ g, v.ownBlock = some g → g ∉ F) : w'.ownsRow base e size v m xs := by
  obtain ⟨h1, h2⟩ := h
  refine ⟨h1, ?_⟩
  rcases h2 with h2 | ⟨g, cap, cur, rfl, hg, hh, r⟩
  · exact .inl h2
  · exact .inr ⟨g, cap, cur, rfl, hg, (ht.block g (Array.getElem?_eq_some_iff.1 hh).1 (hn g rfl)).trans hh, r⟩

/-! ### the content of new sectors, and the map that reads as the list of the contents -/
/-- 256 bytes zero -/
def zb : ByteArray := ⟨(List.replicate 256 0).toArray⟩
theorem zb_size : zb.size = 256 := by
  show (List.replicate 256 (0 : UInt8)).toArray.size = 256
  rw [List.size_toArray, List.length_replicate]
def litOf (s : ByteArray) : DataW Unit := .lit (.string s.data.toList)
def key (i : Nat) : Lit := .int .i64 (i : Int)
open Classical in
def mdL : List ByteArray → Nat → List (Lit × DataW Unit)
  | [], _ => []
  | d :: r, k => if d = zb then mdL r (k + 1) else (key k, litOf d) :: mdL r (k + 1)
def MD (ds : List ByteArray) : DataW Unit := .map (mdL ds 0)

theorem bytes_ext {a b : ByteArray} (h : a.data.toList = b.data.toList) : a = b := by
  cases a; cases b; simp at h; subst h; rfl
theorem mdL_len (ds : List ByteArray) (k : Nat) : (mdL ds k).length ≤ ds.length := by
  induction ds generalizing k with
  | nil => simp [mdL]
  | cons d r ih => unfold mdL; split <;> (have := ih (k + 1); simp; omega)
theorem mdL_mem {ds : List ByteArray} {k : Nat} {p : Lit × DataW Unit} (h : p ∈ mdL ds k) : ∃ i d, k ≤ i ∧ ds[i - k]? = some d ∧ d ≠ zb ∧ p = (key i, litOf d) := by
  induction ds generalizing k with
  | nil => simp [mdL] at h
  | cons d r ih =>
    unfold mdL at h
    have tail : p ∈ mdL r (k + 1) → ∃ i d', k ≤ i ∧ (d :: r)[i - k]? = some d' ∧ d' ≠ zb ∧ p = (key i, litOf d') := by
      intro hp
      obtain ⟨i, d', h1, h2, h3, h4⟩ := ih hp
      refine ⟨i, d', by omega, ?_, h3, h4⟩
      rw [show i - k = (i - (k + 1)) + 1 from by omega]
      simpa using h2
    split at h
    · exact tail h
    · rename_i hd
      rcases List.mem_cons.1 h with rfl | h
      · exact ⟨k, d, Nat.le_refl _, by simp, hd, rfl⟩
      · exact tail h
theorem mdL_of {ds : List ByteArray} {k i : Nat} {d : ByteArray} (hi : k ≤ i) (h : ds[i - k]? = some d) (hd : d ≠ zb) : (key i, litOf d) ∈ mdL ds k := by
  induction ds generalizing k with
  | nil => simp at h
  | cons x r ih =>
    unfold mdL
    by_cases e : i = k
    · subst e
      simp at h
      subst h
      rw [if_neg hd]
      exact List.mem_cons_self
    · have : (key i, litOf d) ∈ mdL r (k + 1) := ih (by omega) (by rw [show i - k = (i - (k + 1)) + 1 from by omega] at h; simpa using h)
      split
      · exact this
      · exact List.mem_cons_of_mem _ this
theorem mdL_rise (ds : List ByteArray) (k : Nat) : (mdL ds k).Pairwise (fun p q => p.1.before q.1 = true) := by
  induction ds generalizing k with
  | nil => simp [mdL]
  | cons d r ih =>
    unfold mdL
    split
    · exact ih (k + 1)
    · refine List.pairwise_cons.2 ⟨fun q hq => ?_, ih (k + 1)⟩
      obtain ⟨i, d', h1, _, _, rfl⟩ := mdL_mem hq
      simp [key, Lit.before]
      omega
theorem key_is (i : Nat) : WideAt.IsKeyLit (key i) := by trivial
theorem key_inj {i j : Nat} (h : key i = key j) : i = j := by
  unfold key at h
  injection h with _ h
  omega
theorem canon_MD (ds : List ByteArray) : Canon (MD ds) := ⟨_, rfl, mdL_rise ds 0, fun p hp => by
  obtain ⟨i, d, _, _, _, rfl⟩ := mdL_mem hp
  exact key_is i⟩
theorem size_MD (ds : List ByteArray) : Maps.size (MD ds) ≤ ds.length := mdL_len ds 0
theorem isMap_MD (ds : List ByteArray) : IsMap (MD ds) := ⟨_, rfl⟩
theorem has_MD_iff (ds : List ByteArray) (k : Lit) : Maps.has (MD ds) k = true ↔ ∃ i d, ds[i]? = some d ∧ d ≠ zb ∧ k = key i := by
  unfold MD Maps.has
  rw [List.any_eq_true]
  constructor
  · rintro ⟨p, hp, hs⟩
    obtain ⟨i, d, _, h2, h3, rfl⟩ := mdL_mem hp
    exact ⟨i, d, by simpa using h2, h3, (WideAt.sameKey_eq hs).symm⟩
  · rintro ⟨i, d, h1, h2, rfl⟩
    exact ⟨_, mdL_of (Nat.zero_le _) (by simpa using h1) h2, WideAt.sameKey_self (key_is i)⟩
theorem at_MD {ds : List ByteArray} {i : Nat} {d : ByteArray} (h : ds[i]? = some d) (hd : d ≠ zb) (z : DataW Unit) : (MD ds).atKey (key i) z = litOf d :=
  WideAt.atKey_mem z (key_is i) (apart_of_rising (mdL_rise ds 0)) (mdL_of (Nat.zero_le _) (by simpa using h) hd)
theorem has_MD_no {ds : List ByteArray} {i : Nat} (h : ∀ d, ds[i]? = some d → d = zb) : Maps.has (MD ds) (key i) = false := by
  cases hh : Maps.has (MD ds) (key i)
  · rfl
  · obtain ⟨j, d, h1, h2, h3⟩ := (has_MD_iff ds _).1 hh
    obtain rfl := key_inj h3
    exact absurd (h d h1) h2

open Go.WideShapes in
theorem canon_put {D : DataW Unit} (h : Canon D) {k : Lit} (hk : ∃ i, k = key i) (hD : ∀ p, Maps.has D p = true → ∃ i, p = key i) (d : DataW Unit) : Canon (D.put k d) := by
  obtain ⟨es, rfl, h1, h2⟩ := h
  have hall : ∀ p ∈ es, ∃ i, p.1 = key i := fun p hp => hD p.1 (List.any_eq_true.2 ⟨p, hp, WideAt.sameKey_self (h2 p hp)⟩)
  obtain ⟨i, rfl⟩ := hk
  let Kd : Lit → Prop := fun l => ∃ j, l = key j
  have O : OneKind Kd := ⟨fun ⟨j, e⟩ => e ▸ key_is j, fun ⟨j, e⟩ ⟨m, e'⟩ hne => by
    subst e; subst e'
    have : j ≠ m := fun h => hne (by rw [h])
    simp [key, Lit.before]
    omega⟩
  refine ⟨_, rfl, insert_sorted O ⟨i, rfl⟩ _ (h1.filter _) (fun p hp => hall p (List.mem_filter.1 hp).1) (fun p hp e => ?_), fun p hp => ?_⟩
  · have := (List.mem_filter.1 hp).2
    rw [e, WideAt.sameKey_self (key_is i)] at this
    cases this
  · rcases ChangeMaps.mem_insert_iff.1 hp with rfl | hp
    · exact key_is i
    · exact h2 p (List.mem_filter.1 hp).1
theorem canon_del {D : DataW Unit} (h : Canon D) (k : Lit) : Canon (D.del k) := by
  obtain ⟨es, rfl, h1, h2⟩ := h
  exact ⟨_, rfl, h1.filter _, fun p hp => h2 p (List.mem_filter.1 hp).1⟩
theorem put_MD {ds : List ByteArray} {i : Nat} {d : ByteArray} (hi : i < ds.length) (hd : d ≠ zb) : (MD ds).put (key i) (litOf d) = MD (ds.set i d) := by
  have hat : (ds.set i d)[i]? = some d := by simp [hi]
  refine Maps.ext (canon_put (canon_MD ds) ⟨i, rfl⟩ (fun p hp => by obtain ⟨j, _, _, _, e⟩ := (has_MD_iff ds p).1 hp; exact ⟨j, e⟩) _) (canon_MD _) (fun k => ?_) (fun k z hk => ?_)
  · by_cases e : k = key i
    · subst e
      rw [has_put_same (isMap_MD ds) (key_is i)]
      exact ((has_MD_iff _ _).2 ⟨i, d, hat, hd, rfl⟩).symm
    · rw [has_put_other e, Bool.eq_iff_iff, has_MD_iff, has_MD_iff]
      constructor
      · rintro ⟨j, d', h1, h2, rfl⟩
        exact ⟨j, d', by rw [List.getElem?_set_ne (fun h => e (by rw [h]))]; exact h1, h2, rfl⟩
      · rintro ⟨j, d', h1, h2, rfl⟩
        exact ⟨j, d', by rw [List.getElem?_set_ne (fun h => e (by rw [h]))] at h1; exact h1, h2, rfl⟩
  · by_cases e : k = key i
    · subst e
      rw [atKey_put_same (isMap_MD ds) (key_is i), at_MD hat hd]
    · rw [has_put_other e] at hk
      obtain ⟨j, d', h1, h2, rfl⟩ := (has_MD_iff _ _).1 hk
      rw [atKey_put_other e, at_MD h1 h2, at_MD (by rw [List.getElem?_set_ne (fun h => e (by rw [h]))]; exact h1) h2]
theorem del_MD (ds : List ByteArray) (i : Nat) : (MD ds).del (key i) = MD (ds.set i zb) := by
  refine Maps.ext (canon_del (canon_MD ds) _) (canon_MD _) (fun k => ?_) (fun k z hk => ?_)
  · by_cases e : k = key i
    · subst e
      rw [has_del_same, has_MD_no]
      intro d hd
      rw [List.getElem?_set] at hd
      simp at hd
      exact hd.2.symm
    · rw [has_del_other e, Bool.eq_iff_iff, has_MD_iff, has_MD_iff]
      constructor
      · rintro ⟨j, d', h1, h2, rfl⟩
        exact ⟨j, d', by rw [List.getElem?_set_ne (fun h => e (by rw [h]))]; exact h1, h2, rfl⟩
      · rintro ⟨j, d', h1, h2, rfl⟩
        exact ⟨j, d', by rw [List.getElem?_set_ne (fun h => e (by rw [h]))] at h1; exact h1, h2, rfl⟩
  · by_cases e : k = key i
    · subst e; rw [has_del_same] at hk; cases hk
    · rw [has_del_other e] at hk
      obtain ⟨j, d', h1, h2, rfl⟩ := (has_MD_iff _ _).1 hk
      rw [atKey_del_other e, at_MD h1 h2, at_MD (by rw [List.getElem?_set_ne (fun h => e (by rw [h]))]; exact h1) h2]
/-- two lists of contents that are of one length and read as one map are one list -/
theorem MD_inj {ds es : List ByteArray} (hl : ds.length = es.length) (h : MD ds = MD es) : ds = es := by
  apply List.ext_getElem? 
  intro i
  by_cases hi : i < ds.length
  · have h1 : ds[i]? = some ds[i] := List.getElem?_eq_getElem hi
    have h2 : es[i]? = some (es[i]'(by omega)) := List.getElem?_eq_getElem (by omega)
    rw [h1, h2]
    congr 1
    by_cases e1 : ds[i] = zb
    · by_cases e2 : es[i]'(by omega) = zb
      · rw [e1, e2]
      · have := (has_MD_iff es (key i)).2 ⟨i, _, h2, e2, rfl⟩
        rw [← h] at this
        obtain ⟨j, d, h3, h4, h5⟩ := (has_MD_iff ds _).1 this
        obtain rfl := key_inj h5
        rw [h1] at h3
        cases h3
        exact absurd e1 h4
    · have h3 := at_MD h1 e1 .nil
      have h4 := (has_MD_iff ds (key i)).2 ⟨i, _, h1, e1, rfl⟩
      rw [h] at h4
      obtain ⟨j, d, h5, h6, h7⟩ := (has_MD_iff es _).1 h4
      obtain rfl := key_inj h7
      have h8 := at_MD h5 h6 .nil
      rw [← h, h3] at h8
      rw [h2] at h5
      cases h5
      exact bytes_ext (by unfold litOf at h8; injection h8 with h8; injection h8)
  · rw [List.getElem?_eq_none (by omega), List.getElem?_eq_none (by omega)]

/-- a map of at most so many entries as its reading has -/
theorem ownsMap_fits {P : Program} {k : TypeId} {R : Value → Option (DataW Unit × List MemPlace)} {w : World} {b n m : Nat} {D : DataW Unit} (h : w.ownsMap P k R b n D) (hm : Maps.size D ≤ m) : w.ownsMap P k R b m D := by
  obtain ⟨es, clock, h1, h2, h3, rfl⟩ := h
  refine ⟨es, clock, h1, h2, ?_, rfl⟩
  simpa [Maps.size, length_sorted] using hm

theorem seq_t {a b : ByteArray} (h : a = b) : (a.toList == b.toList) = true := by rw [h]; simp
theorem seq_f {a b : ByteArray} (h : a ≠ b) : (a.toList == b.toList) = false := by
  rw [beq_eq_false_iff_ne]
  intro e
  rw [ByteArray.toList_eq, ByteArray.toList_eq] at e
  exact h (bytes_ext e)
theorem sne_t {a b : ByteArray} (h : a ≠ b) : (a.toList != b.toList) = true := by rw [bne, seq_f h]; rfl
theorem sne_f {a b : ByteArray} (h : a = b) : (a.toList != b.toList) = false := by rw [bne, seq_t h]; rfl

/-! ### rows of pending writes -/
def pcells (ps : List (Nat × ByteArray)) : List Value := ps.flatMap fun p => [.int .i64 (p.1 : Int), .string p.2]
theorem pcells_len (ps : List (Nat × ByteArray)) : (pcells ps).length = ps.length * 2 := by
  induction ps with
  | nil => rfl
  | cons p r ih => simp [pcells] at ih ⊢; omega
theorem pcells_append (ps qs : List (Nat × ByteArray)) : pcells (ps ++ qs) = pcells ps ++ pcells qs := by simp [pcells]
theorem pcells_at {ps : List (Nat × ByteArray)} {i : Nat} {p : Nat × ByteArray} (h : ps[i]? = some p) : (pcells ps)[2 * i]? = some (.int .i64 (p.1 : Int)) ∧ (pcells ps)[2 * i + 1]? = some (.string p.2) := by
  induction ps generalizing i with
  | nil => simp at h
  | cons q r ih =>
    cases i with
    | zero => simp at h; subst h; simp [pcells]
    | succ j =>
      have := ih (i := j) (by simpa using h)
      rw [show 2 * (j + 1) = 2 * j + 1 + 1 from by omega]
      simpa [pcells] using this
end Go.Proofs.YtdcdlmigagjbiaaDoor
