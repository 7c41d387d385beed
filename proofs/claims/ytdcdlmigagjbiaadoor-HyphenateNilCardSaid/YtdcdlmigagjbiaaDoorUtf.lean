/- UTF-8 in plain Lean: what decoding one code point gives, what encoding gives, and that a byte list is the encodings of its points and a rest that does not decode. Nothing of the program stands here. -/
namespace Go.Proofs.YtdcdlmigagjbiaaDoor.U

def tsize (b : Nat) : Nat := if b < 128 then 1 else if b < 194 ∨ 244 < b then 0 else if b < 224 then 2 else if b < 240 then 3 else 4
def tlow (b : Nat) : Nat := if b = 224 then 160 else if b = 240 then 144 else 128
def thigh (b : Nat) : Nat := if b = 237 then 159 else if b = 244 then 143 else 191
def tlead (b : Nat) : Nat := if b < 128 then b else if b < 224 then b - 192 else if b < 240 then b - 224 else b - 240

/-- the bytes behind the first: how many are still wanted, the bounds of the next one, the number so far, how many bytes were taken -/
def decGo : Nat → Nat → Nat → Nat → Nat → List UInt8 → Nat × Nat × Bool
  | 0, _, _, p, size, _ => (p, size, true)
  | _ + 1, _, _, _, size, [] => (0, size, false)
  | k + 1, lo, hi, p, size, c :: r => if c.toNat < lo ∨ hi < c.toNat then (0, size, false) else decGo k 128 191 (p * 64 + c.toNat % 64) (size + 1) r

/-- the code point at the head of a list, how many bytes belong to its beginning, and whether it is whole -/
def dec : List UInt8 → Nat × Nat × Bool
  | [] => (0, 0, false)
  | b :: r => if tsize b.toNat = 0 then (0, 0, false) else if tsize b.toNat = 1 then (b.toNat, 1, true) else decGo (tsize b.toNat - 1) (tlow b.toNat) (thigh b.toNat) (tlead b.toNat) 1 r

def isPt (p : Nat) : Bool := decide (p ≤ 1114111) && !(decide (55296 ≤ p) && decide (p ≤ 57343))

def enc (p : Nat) : List UInt8 :=
  if p < 128 then [UInt8.ofNat p]
  else if p < 2048 then [UInt8.ofNat (192 + p / 64), UInt8.ofNat (128 + p % 64)]
  else if p < 65536 then [UInt8.ofNat (224 + p / 4096), UInt8.ofNat (128 + p / 64 % 64), UInt8.ofNat (128 + p % 64)]
  else [UInt8.ofNat (240 + p / 262144), UInt8.ofNat (128 + p / 4096 % 64), UInt8.ofNat (128 + p / 64 % 64), UInt8.ofNat (128 + p % 64)]

def esize (p : Nat) : Nat := if p < 128 then 1 else if p < 2048 then 2 else if p < 65536 then 3 else 4

theorem enc_length (p : Nat) : (enc p).length = esize p := by
  unfold enc esize; (repeat' split) <;> rfl

theorem esize_pos (p : Nat) : 1 ≤ esize p ∧ esize p ≤ 4 := by
  unfold esize; (repeat' split) <;> omega

theorem isPt_iff (p : Nat) : isPt p = true ↔ p ≤ 1114111 ∧ ¬ (55296 ≤ p ∧ p ≤ 57343) := by
  unfold isPt; simp only [Bool.and_eq_true, decide_eq_true_eq, Bool.not_eq_true', Bool.and_eq_false_iff, decide_eq_false_iff_not]; omega

theorem ofNat_toNat (c : UInt8) (n : Nat) (h : n = c.toNat) : UInt8.ofNat n = c := by
  subst h; simp

theorem toNat_ofNat_lt (n : Nat) (h : n < 256) : (UInt8.ofNat n).toNat = n := by
  simp; omega

/-- what is encoded is decoded again, whatever stands behind it -/
theorem dec_enc (p : Nat) (hp : isPt p = true) (r : List UInt8) : dec (enc p ++ r) = (p, esize p, true) := by
  rw [isPt_iff] at hp
  unfold enc esize
  by_cases h1 : p < 128
  · rw [if_pos h1, if_pos h1]
    simp only [List.cons_append, List.nil_append, dec]
    rw [toNat_ofNat_lt p (by omega)]
    have : tsize p = 1 := by unfold tsize; rw [if_pos h1]
    rw [this]; simp
  rw [if_neg h1, if_neg h1]
  by_cases h2 : p < 2048
  · rw [if_pos h2, if_pos h2]
    simp only [List.cons_append, List.nil_append, dec]
    rw [toNat_ofNat_lt (192 + p / 64) (by omega)]
    have : tsize (192 + p / 64) = 2 := by unfold tsize; rw [if_neg (by omega), if_neg (by omega), if_pos (by omega)]
    rw [this, if_neg (by omega), if_neg (by omega)]
    have l1 : tlow (192 + p / 64) = 128 := by unfold tlow; rw [if_neg (by omega), if_neg (by omega)]
    have l2 : thigh (192 + p / 64) = 191 := by unfold thigh; rw [if_neg (by omega), if_neg (by omega)]
    have l3 : tlead (192 + p / 64) = p / 64 := by unfold tlead; rw [if_neg (by omega), if_pos (by omega)]; omega
    rw [l1, l2, l3]
    show decGo 1 128 191 (p / 64) 1 _ = _
    simp only [decGo]
    rw [toNat_ofNat_lt (128 + p % 64) (by omega), if_neg (by omega)]
    exact Prod.ext (by show p / 64 * 64 + (128 + p % 64) % 64 = p; omega) rfl
  rw [if_neg h2, if_neg h2]
  by_cases h3 : p < 65536
  · rw [if_pos h3, if_pos h3]
    simp only [List.cons_append, List.nil_append, dec]
    rw [toNat_ofNat_lt (224 + p / 4096) (by omega)]
    have : tsize (224 + p / 4096) = 3 := by unfold tsize; rw [if_neg (by omega), if_neg (by omega), if_neg (by omega), if_pos (by omega)]
    rw [this, if_neg (by omega), if_neg (by omega)]
    have l3 : tlead (224 + p / 4096) = p / 4096 := by unfold tlead; rw [if_neg (by omega), if_neg (by omega), if_pos (by omega)]; omega
    rw [l3]
    show decGo 2 _ _ (p / 4096) 1 _ = _
    simp only [decGo]
    rw [toNat_ofNat_lt (128 + p / 64 % 64) (by omega), toNat_ofNat_lt (128 + p % 64) (by omega)]
    rw [if_neg (by unfold tlow thigh; (repeat' split) <;> omega), if_neg (by omega)]
    exact Prod.ext (by show (p / 4096 * 64 + (128 + p / 64 % 64) % 64) * 64 + (128 + p % 64) % 64 = p; omega) rfl
  rw [if_neg h3, if_neg h3]
  simp only [List.cons_append, List.nil_append, dec]
  rw [toNat_ofNat_lt (240 + p / 262144) (by omega)]
  have : tsize (240 + p / 262144) = 4 := by unfold tsize; rw [if_neg (by omega), if_neg (by omega), if_neg (by omega), if_neg (by omega)]
  rw [this, if_neg (by omega), if_neg (by omega)]
  have l3 : tlead (240 + p / 262144) = p / 262144 := by unfold tlead; rw [if_neg (by omega), if_neg (by omega), if_neg (by omega)]; omega
  rw [l3]
  show decGo 3 _ _ (p / 262144) 1 _ = _
  simp only [decGo]
  rw [toNat_ofNat_lt (128 + p / 4096 % 64) (by omega), toNat_ofNat_lt (128 + p / 64 % 64) (by omega), toNat_ofNat_lt (128 + p % 64) (by omega)]
  rw [if_neg (by unfold tlow thigh; (repeat' split) <;> omega), if_neg (by omega), if_neg (by omega)]
  exact Prod.ext (by show ((p / 262144 * 64 + (128 + p / 4096 % 64) % 64) * 64 + (128 + p / 64 % 64) % 64) * 64 + (128 + p % 64) % 64 = p; omega) rfl

theorem tsize_cases (b : Nat) : tsize b = 0 ∨ (tsize b = 1 ∧ b < 128) ∨ (tsize b = 2 ∧ 194 ≤ b ∧ b < 224) ∨ (tsize b = 3 ∧ 224 ≤ b ∧ b < 240) ∨ (tsize b = 4 ∧ 240 ≤ b ∧ b ≤ 244) := by
  unfold tsize
  by_cases h1 : b < 128
  · rw [if_pos h1]; omega
  · rw [if_neg h1]
    by_cases h2 : b < 194 ∨ 244 < b
    · rw [if_pos h2]; omega
    · rw [if_neg h2]
      by_cases h3 : b < 224
      · rw [if_pos h3]; omega
      · rw [if_neg h3]
        by_cases h4 : b < 240
        · rw [if_pos h4]; omega
        · rw [if_neg h4]; omega

/-- what decodes is the encoding of its point -/
theorem enc_dec (l : List UInt8) (p n : Nat) (h : dec l = (p, n, true)) : isPt p = true ∧ n = esize p ∧ ∃ r, l = enc p ++ r := by
  rw [isPt_iff]
  match l with
  | [] => simp [dec] at h
  | b :: r =>
    simp only [dec] at h
    rcases tsize_cases b.toNat with e | ⟨e, hb⟩ | ⟨e, hb, hb'⟩ | ⟨e, hb, hb'⟩ | ⟨e, hb, hb'⟩
    · rw [e, if_pos rfl] at h; simp at h
    · rw [e, if_neg (by omega), if_pos rfl] at h
      simp only [Prod.mk.injEq, and_true] at h
      obtain ⟨rfl, rfl⟩ := h
      refine ⟨by omega, by unfold esize; rw [if_pos hb], r, ?_⟩
      unfold enc; rw [if_pos hb]; simp
    · rw [e, if_neg (by omega), if_neg (by omega)] at h
      have l1 : tlow b.toNat = 128 := by unfold tlow; rw [if_neg (by omega), if_neg (by omega)]
      have l2 : thigh b.toNat = 191 := by unfold thigh; rw [if_neg (by omega), if_neg (by omega)]
      have l3 : tlead b.toNat = b.toNat - 192 := by unfold tlead; rw [if_neg (by omega), if_pos (by omega)]
      rw [l1, l2, l3] at h
      match r with
      | [] => simp [decGo] at h
      | c :: r =>
        simp only [decGo] at h
        by_cases hc : c.toNat < 128 ∨ 191 < c.toNat
        · rw [if_pos hc] at h; simp at h
        · rw [if_neg hc] at h
          simp only [Prod.mk.injEq, and_true] at h
          obtain ⟨hp, rfl⟩ := h
          have k1 : ¬ p < 128 := by omega
          have k2 : p < 2048 := by omega
          refine ⟨by omega, by unfold esize; rw [if_neg k1, if_pos k2], r, ?_⟩
          unfold enc; rw [if_neg k1, if_pos k2]
          rw [ofNat_toNat b _ (by omega), ofNat_toNat c _ (by omega)]; rfl
    · rw [e, if_neg (by omega), if_neg (by omega)] at h
      have l3 : tlead b.toNat = b.toNat - 224 := by unfold tlead; rw [if_neg (by omega), if_neg (by omega), if_pos (by omega)]
      rw [l3] at h
      match r with
      | [] => simp [decGo] at h
      | [c] =>
        simp only [decGo] at h
        split at h <;> simp at h
      | c :: c2 :: r =>
        simp only [decGo] at h
        by_cases hc : c.toNat < tlow b.toNat ∨ thigh b.toNat < c.toNat
        · rw [if_pos hc] at h; simp at h
        · rw [if_neg hc] at h
          by_cases hc2 : c2.toNat < 128 ∨ 191 < c2.toNat
          · rw [if_pos hc2] at h; simp at h
          · rw [if_neg hc2] at h
            simp only [Prod.mk.injEq, and_true] at h
            obtain ⟨hp, rfl⟩ := h
            have lo : 128 ≤ c.toNat ∧ (b.toNat = 224 → 160 ≤ c.toNat) := by
              unfold tlow at hc; (repeat' split at hc) <;> omega
            have hi : c.toNat ≤ 191 ∧ (b.toNat = 237 → c.toNat ≤ 159) := by
              unfold thigh at hc; (repeat' split at hc) <;> omega
            have k2 : ¬ p < 2048 := by omega
            have k3 : p < 65536 := by omega
            refine ⟨by omega, by unfold esize; rw [if_neg (by omega), if_neg k2, if_pos k3], r, ?_⟩
            unfold enc; rw [if_neg (by omega), if_neg k2, if_pos k3]
            rw [ofNat_toNat b _ (by omega), ofNat_toNat c _ (by omega), ofNat_toNat c2 _ (by omega)]; rfl
    · rw [e, if_neg (by omega), if_neg (by omega)] at h
      have l3 : tlead b.toNat = b.toNat - 240 := by unfold tlead; rw [if_neg (by omega), if_neg (by omega), if_neg (by omega)]
      rw [l3] at h
      match r with
      | [] => simp [decGo] at h
      | [c] =>
        simp only [decGo] at h
        split at h <;> simp at h
      | [c, c2] =>
        simp only [decGo] at h
        (repeat' split at h) <;> simp at h
      | c :: c2 :: c3 :: r =>
        simp only [decGo] at h
        by_cases hc : c.toNat < tlow b.toNat ∨ thigh b.toNat < c.toNat
        · rw [if_pos hc] at h; simp at h
        · rw [if_neg hc] at h
          by_cases hc2 : c2.toNat < 128 ∨ 191 < c2.toNat
          · rw [if_pos hc2] at h; simp at h
          · rw [if_neg hc2] at h
            by_cases hc3 : c3.toNat < 128 ∨ 191 < c3.toNat
            · rw [if_pos hc3] at h; simp at h
            · rw [if_neg hc3] at h
              simp only [Prod.mk.injEq, and_true] at h
              obtain ⟨hp, rfl⟩ := h
              have lo : 128 ≤ c.toNat ∧ (b.toNat = 240 → 144 ≤ c.toNat) := by
                unfold tlow at hc; (repeat' split at hc) <;> omega
              have hi : c.toNat ≤ 191 ∧ (b.toNat = 244 → c.toNat ≤ 143) := by
                unfold thigh at hc; (repeat' split at hc) <;> omega
              have k3 : ¬ p < 65536 := by omega
              refine ⟨by omega, by unfold esize; rw [if_neg (by omega), if_neg (by omega), if_neg k3], r, ?_⟩
              unfold enc; rw [if_neg (by omega), if_neg (by omega), if_neg k3]
              rw [ofNat_toNat b _ (by omega), ofNat_toNat c _ (by omega), ofNat_toNat c2 _ (by omega), ofNat_toNat c3 _ (by omega)]; rfl

def encs (ps : List Nat) : List UInt8 := (ps.map enc).flatten
theorem encs_nil : encs [] = [] := rfl
theorem encs_cons (p : Nat) (ps : List Nat) : encs (p :: ps) = enc p ++ encs ps := rfl
theorem encs_append (a b : List Nat) : encs (a ++ b) = encs a ++ encs b := by simp [encs]

/-- the points of a list up to the first error, and what is left there -/
def scanN : Nat → List UInt8 → List Nat × List UInt8
  | 0, l => ([], l)
  | n + 1, l => if (dec l).2.2 then ((dec l).1 :: (scanN n (l.drop (dec l).2.1)).1, (scanN n (l.drop (dec l).2.1)).2) else ([], l)
def pts (l : List UInt8) : List Nat := (scanN l.length l).1
def bad (l : List UInt8) : List UInt8 := (scanN l.length l).2

theorem dec_ok (l : List UInt8) (h : (dec l).2.2 = true) : isPt (dec l).1 = true ∧ (dec l).2.1 = esize (dec l).1 ∧ l = enc (dec l).1 ++ l.drop (dec l).2.1 := by
  obtain ⟨h1, h2, r, h3⟩ := enc_dec l (dec l).1 (dec l).2.1 (by rw [← h])
  refine ⟨h1, h2, ?_⟩
  conv => lhs; rw [h3]
  congr 1
  rw [h2, ← enc_length]
  generalize enc (dec l).1 = a at h3
  rw [h3]; simp

theorem scanN_stable (n : Nat) : ∀ l : List UInt8, l.length ≤ n → scanN n l = scanN l.length l := by
  have key : ∀ n m : Nat, ∀ l : List UInt8, l.length ≤ n → l.length ≤ m → scanN n l = scanN m l := by
    intro n
    induction n with
    | zero =>
      intro m l h1 _
      have : l = [] := List.length_eq_zero_iff.1 (by omega)
      subst this
      match m with
      | 0 => rfl
      | m + 1 => simp [scanN, dec]
    | succ n ih =>
      intro m l h1 h2
      match m with
      | 0 =>
        have : l = [] := List.length_eq_zero_iff.1 (by omega)
        subst this
        simp [scanN, dec]
      | m + 1 =>
        simp only [scanN]
        by_cases h : (dec l).2.2 = true
        · rw [if_pos h, if_pos h]
          obtain ⟨_, hs, hl⟩ := dec_ok l h
          have hp := esize_pos (dec l).1
          have hne : l ≠ [] := by intro e; rw [e] at h; simp [dec] at h
          have hlen : 1 ≤ l.length := by
            cases l with
            | nil => exact absurd rfl hne
            | cons => simp
          have : (l.drop (dec l).2.1).length = l.length - (dec l).2.1 := List.length_drop ..
          rw [ih m (l.drop (dec l).2.1) (by omega) (by omega)]
        · rw [if_neg h, if_neg h]
  exact fun l h => key n l.length l h (Nat.le_refl _)

theorem scan_ok (l : List UInt8) (h : (dec l).2.2 = true) : pts l = (dec l).1 :: pts (l.drop (dec l).2.1) ∧ bad l = bad (l.drop (dec l).2.1) := by
  obtain ⟨_, hs, hl⟩ := dec_ok l h
  have hp := esize_pos (dec l).1
  have hne : l ≠ [] := by intro e; rw [e] at h; simp [dec] at h
  match l, hne with
  | b :: r, _ =>
    have hd : ((b :: r).drop (dec (b :: r)).2.1).length ≤ r.length := by rw [List.length_drop, List.length_cons]; omega
    have := scanN_stable r.length _ hd
    unfold pts bad
    rw [List.length_cons]
    simp only [scanN, if_pos h]
    rw [this]
    exact ⟨rfl, rfl⟩

theorem scan_no (l : List UInt8) (h : (dec l).2.2 = false) : pts l = [] ∧ bad l = l := by
  match l with
  | [] => exact ⟨rfl, rfl⟩
  | b :: r =>
    unfold pts bad
    rw [List.length_cons]
    simp only [scanN, h]
    exact ⟨rfl, rfl⟩

theorem scan_nil : pts [] = [] ∧ bad [] = [] := ⟨rfl, rfl⟩

theorem scan_enc (p : Nat) (hp : isPt p = true) (r : List UInt8) : pts (enc p ++ r) = p :: pts r ∧ bad (enc p ++ r) = bad r := by
  have hd := dec_enc p hp r
  have hk : (dec (enc p ++ r)).2.2 = true := by rw [hd]
  have hdrop : (enc p ++ r).drop (dec (enc p ++ r)).2.1 = r := by rw [hd]; show (enc p ++ r).drop (esize p) = r; rw [← enc_length]; simp
  obtain ⟨h1, h2⟩ := scan_ok _ hk
  rw [hdrop] at h1 h2
  rw [hd] at h1
  exact ⟨h1, h2⟩

theorem scan_encs (ps : List Nat) (h : ∀ p ∈ ps, isPt p = true) (r : List UInt8) : pts (encs ps ++ r) = ps ++ pts r ∧ bad (encs ps ++ r) = bad r := by
  induction ps with
  | nil => exact ⟨rfl, rfl⟩
  | cons p ps ih =>
    rw [encs_cons, List.append_assoc]
    obtain ⟨h1, h2⟩ := scan_enc p (h p (List.mem_cons_self ..)) (encs ps ++ r)
    obtain ⟨h3, h4⟩ := ih (fun q hq => h q (List.mem_cons_of_mem _ hq))
    rw [h1, h2, h3, h4]
    exact ⟨rfl, rfl⟩

/-- every list is the encodings of its points and a rest that does not decode -/
theorem decomp (n : Nat) : ∀ l : List UInt8, l.length ≤ n → l = encs (pts l) ++ bad l ∧ (∀ p ∈ pts l, isPt p = true) ∧ (dec (bad l)).2.2 = false := by
  induction n with
  | zero =>
    intro l h
    have : l = [] := List.length_eq_zero_iff.1 (by omega)
    subst this
    exact ⟨rfl, by intro p hp; simp [scan_nil.1] at hp, rfl⟩
  | succ n ih =>
    intro l hl
    by_cases h : (dec l).2.2 = true
    · obtain ⟨h1, h2⟩ := scan_ok l h
      obtain ⟨h3, h4, h5⟩ := dec_ok l h
      have hp := esize_pos (dec l).1
      have hlen : (l.drop (dec l).2.1).length ≤ n := by rw [List.length_drop]; omega
      obtain ⟨i1, i2, i3⟩ := ih _ hlen
      rw [h1, h2, encs_cons]
      refine ⟨?_, ?_, i3⟩
      · rw [List.append_assoc, ← i1]; exact h5
      · intro p hpm
        rcases List.mem_cons.1 hpm with e | e
        · rw [e]; exact h3
        · exact i2 p e
    · have h' : (dec l).2.2 = false := by simpa using h
      obtain ⟨h1, h2⟩ := scan_no l h'
      rw [h1, h2]
      exact ⟨rfl, by intro p hp; simp at hp, h'⟩

theorem split_all (l : List UInt8) : l = encs (pts l) ++ bad l := (decomp _ l (Nat.le_refl _)).1
theorem pts_ok (l : List UInt8) : ∀ p ∈ pts l, isPt p = true := (decomp _ l (Nat.le_refl _)).2.1
theorem bad_no (l : List UInt8) : (dec (bad l)).2.2 = false := (decomp _ l (Nat.le_refl _)).2.2
theorem of_valid (l : List UInt8) (h : bad l = []) : l = encs (pts l) := by have := split_all l; rw [h, List.append_nil] at this; exact this
theorem scan_of (ps : List Nat) (h : ∀ p ∈ ps, isPt p = true) : pts (encs ps) = ps ∧ bad (encs ps) = [] := by
  have := scan_encs ps h []
  rw [List.append_nil, scan_nil.1, scan_nil.2, List.append_nil] at this
  exact this

end Go.Proofs.YtdcdlmigagjbiaaDoor.U
