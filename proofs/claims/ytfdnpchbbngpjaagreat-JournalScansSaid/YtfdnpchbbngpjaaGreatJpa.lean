/- Plain lists: the checksum, the ring of bytes, headers and frames. -/
import Derived.WalkKit
namespace Go.Proofs.YtfdnpchbbngpjaaGreat

/-- one bit of the checksum -/
def crc1 (c : Nat) : Nat := if c % 2 = 1 then c / 2 ^^^ 3988292384 else c / 2
def crcN : Nat → Nat → Nat
  | 0, c => c
  | k + 1, c => crcN k (crc1 c)
def crc8 (c : Nat) : Nat := crcN 8 c
/-- the state behind some bytes -/
def crcS (c : Nat) (l : List UInt8) : Nat := l.foldl (fun c b => crc8 (c ^^^ b.toNat)) c
def crc (l : List UInt8) : Nat := crcS 4294967295 l ^^^ 4294967295

theorem crc1_lt {c : Nat} (h : c < 4294967296) : crc1 c < 4294967296 := by
  unfold crc1
  split
  · exact Nat.xor_lt_two_pow (n := 32) (by omega) (by omega)
  · omega
theorem crcN_lt {c : Nat} (k : Nat) (h : c < 4294967296) : crcN k c < 4294967296 := by
  induction k generalizing c with
  | zero => exact h
  | succ k ih => exact ih (crc1_lt h)
theorem crc8_lt {c : Nat} (h : c < 4294967296) : crc8 c < 4294967296 := crcN_lt 8 h
theorem xor_lt32 {a b : Nat} (ha : a < 4294967296) (hb : b < 4294967296) : a ^^^ b < 4294967296 := Nat.xor_lt_two_pow (n := 32) (by omega) (by omega)
theorem crcS_lt {c : Nat} (h : c < 4294967296) (l : List UInt8) : crcS c l < 4294967296 := by
  induction l generalizing c with
  | nil => exact h
  | cons b r ih => exact ih (crc8_lt (xor_lt32 h (Nat.lt_trans (UInt8.toNat_lt b) (by decide))))
theorem crc_lt (l : List UInt8) : crc l < 4294967296 := xor_lt32 (crcS_lt (by decide) l) (by decide)
theorem crcS_append (c : Nat) (l m : List UInt8) : crcS c (l ++ m) = crcS (crcS c l) m := by
  unfold crcS
  rw [List.foldl_append]

theorem xor_half (a b : Nat) : (a ^^^ b) / 2 = a / 2 ^^^ b / 2 := by
  have := Nat.shiftRight_xor_distrib (a := a) (b := b) (i := 1)
  simpa [Nat.shiftRight_eq_div_pow] using this
theorem xor_par (a b : Nat) : (a ^^^ b) % 2 = (a + b) % 2 := by
  have h := Nat.xor_mod_two_pow (a := a) (b := b) (n := 1)
  rw [Nat.pow_one] at h
  rw [h]
  rcases Nat.mod_two_eq_zero_or_one a with ha | ha <;> rcases Nat.mod_two_eq_zero_or_one b with hb | hb <;> rw [ha, hb, Nat.add_mod, ha, hb] <;> rfl
theorem crc1_xor (a b : Nat) : crc1 (a ^^^ b) = crc1 a ^^^ crc1 b := by
  unfold crc1
  rw [xor_half, xor_par]
  by_cases ha : a % 2 = 1
  · by_cases hb : b % 2 = 1
    · rw [if_pos ha, if_pos hb, if_neg (by omega)]
      rw [Nat.xor_assoc, ← Nat.xor_assoc 3988292384, Nat.xor_comm 3988292384 (b / 2), Nat.xor_assoc (b / 2), Nat.xor_self, Nat.xor_zero]
    · rw [if_pos ha, if_neg hb, if_pos (by omega)]
      rw [Nat.xor_assoc, Nat.xor_comm (b / 2), Nat.xor_assoc]
  · by_cases hb : b % 2 = 1
    · rw [if_neg ha, if_pos hb, if_pos (by omega), Nat.xor_assoc]
    · rw [if_neg ha, if_neg hb, if_neg (by omega)]
theorem crcN_xor (k a b : Nat) : crcN k (a ^^^ b) = crcN k a ^^^ crcN k b := by
  induction k generalizing a b with
  | zero => rfl
  | succ k ih => show crcN k (crc1 (a ^^^ b)) = _; rw [crc1_xor, ih]; rfl
theorem crcN_high (k h : Nat) : crcN k (2 ^ k * h) = h := by
  induction k generalizing h with
  | zero => simp [crcN]
  | succ k ih =>
    show crcN k (crc1 (2 ^ (k + 1) * h)) = h
    have : crc1 (2 ^ (k + 1) * h) = 2 ^ k * h := by
      have e : 2 ^ (k + 1) * h = 2 * (2 ^ k * h) := by rw [Nat.pow_succ]; rw [Nat.mul_comm (2 ^ k) 2, Nat.mul_assoc]
      unfold crc1
      rw [e, if_neg (by omega)]
      omega
    rw [this, ih]
theorem low_high (c : Nat) : c = c % 256 ^^^ 256 * (c / 256) := by
  have h := Nat.two_pow_add_eq_or_of_lt (i := 8) (b := c % 256) (by omega) (c / 256)
  have h2 : (256 * (c / 256)) ||| (c % 256) = c := by
    rw [show (256 : Nat) = 2 ^ 8 from rfl] at *
    rw [← h]; omega
  have h3 : c % 256 ^^^ 256 * (c / 256) = (256 * (c / 256)) ||| (c % 256) := by
    apply Nat.eq_of_testBit_eq
    intro i
    rw [Nat.testBit_xor, Nat.testBit_or]
    by_cases hi : i < 8
    · have : (256 * (c / 256)).testBit i = false := by
        rw [show 256 * (c / 256) = 2 ^ 8 * (c / 256) from rfl, Nat.testBit_two_pow_mul]; simp; omega
      rw [this]; simp
    · have : (c % 256).testBit i = false := Nat.testBit_lt_two_pow (Nat.lt_of_lt_of_le (Nat.mod_lt _ (by decide)) (Nat.pow_le_pow_right (n := 2) (by decide) (show 8 ≤ i by omega)))
      rw [this]; simp
  rw [h3, h2]
/-- a step by the table -/
theorem crc8_table (c b : Nat) : crc8 (c ^^^ b) = crc8 (c % 256 ^^^ b) ^^^ c / 256 := by
  have e : c ^^^ b = (c % 256 ^^^ b) ^^^ 2 ^ 8 * (c / 256) := by
    rw [Nat.xor_assoc, Nat.xor_comm b, ← Nat.xor_assoc]
    exact congrArg (· ^^^ b) (low_high c)
  unfold crc8
  rw [e, crcN_xor, crcN_high]

theorem crc1_zero {x : Nat} (h : x < 4294967296) (e : crc1 x = 0) : x = 0 := by
  unfold crc1 at e
  split at e
  · have := congrArg (fun y => Nat.testBit y 31) e
    simp only [Nat.testBit_xor] at this
    rw [Nat.testBit_lt_two_pow (show x / 2 < 2 ^ 31 by omega)] at this
    simp at this
    exact absurd this (by decide)
  · omega
theorem xor_zero_eq {a b : Nat} (h : a ^^^ b = 0) : a = b := by
  have := congrArg (· ^^^ b) h
  simpa [Nat.xor_assoc] using this
theorem crcN_inj {a b : Nat} (k : Nat) (ha : a < 4294967296) (hb : b < 4294967296) (h : crcN k a = crcN k b) : a = b := by
  have e : crcN k (a ^^^ b) = 0 := by rw [crcN_xor, h, Nat.xor_self]
  have hlt := xor_lt32 ha hb
  refine xor_zero_eq ?_
  revert e hlt
  generalize a ^^^ b = x
  intro e hlt
  clear h ha hb
  induction k generalizing x with
  | zero => exact e
  | succ k ih => exact crc1_zero hlt (ih (crc1 x) e (crc1_lt hlt))
theorem crcS_inj {a b : Nat} (l : List UInt8) (ha : a < 4294967296) (hb : b < 4294967296) (h : crcS a l = crcS b l) : a = b := by
  induction l generalizing a b with
  | nil => exact h
  | cons x r ih =>
    have hx : x.toNat < 4294967296 := Nat.lt_trans (UInt8.toNat_lt x) (by decide)
    have := crcN_inj 8 (xor_lt32 ha hx) (xor_lt32 hb hx) (ih (crc8_lt (xor_lt32 ha hx)) (crc8_lt (xor_lt32 hb hx)) h)
    have := congrArg (· ^^^ x.toNat) this
    simpa [Nat.xor_assoc] using this
/-- one byte changed changes the checksum -/
theorem crc_byte (l m : List UInt8) {x y : UInt8} (h : x ≠ y) : crc (l ++ x :: m) ≠ crc (l ++ y :: m) := by
  intro e
  unfold crc at e
  have e := congrArg (· ^^^ 4294967295) e
  simp only [Nat.xor_assoc, Nat.xor_self, Nat.xor_zero] at e
  rw [crcS_append, crcS_append] at e
  have hS := crcS_lt (show 4294967295 < 4294967296 by decide) l
  have hx : x.toNat < 4294967296 := Nat.lt_trans (UInt8.toNat_lt x) (by decide)
  have hy : y.toNat < 4294967296 := Nat.lt_trans (UInt8.toNat_lt y) (by decide)
  have e := crcS_inj m (crc8_lt (xor_lt32 hS hx)) (crc8_lt (xor_lt32 hS hy)) e
  have e := crcN_inj 8 (xor_lt32 hS hx) (xor_lt32 hS hy) e
  have e := congrArg (crcS 4294967295 l ^^^ ·) e
  simp only [← Nat.xor_assoc, Nat.xor_self, Nat.zero_xor] at e
  exact h (UInt8.toNat_inj.1 e)

/-! ### numbers as bytes, the greatest first -/
def beN : Nat → Nat → List UInt8
  | 0, _ => []
  | k + 1, n => UInt8.ofNat (n / 256 ^ k) :: beN k n
def beV (l : List UInt8) : Nat := l.foldl (fun a b => 256 * a + b.toNat) 0
theorem beN_length (k n : Nat) : (beN k n).length = k := by
  induction k with
  | zero => rfl
  | succ k ih => simp [beN, ih]
theorem foldl_be (l : List UInt8) (a : Nat) : l.foldl (fun a b => 256 * a + b.toNat) a = 256 ^ l.length * a + beV l := by
  unfold beV
  induction l generalizing a with
  | nil => simp
  | cons b r ih =>
    rw [List.foldl_cons, ih, List.foldl_cons, ih (256 * 0 + b.toNat), List.length_cons, Nat.pow_succ]
    rw [Nat.mul_add, Nat.mul_zero, Nat.zero_add, Nat.mul_assoc]
    omega
theorem beV_cons (b : UInt8) (l : List UInt8) : beV (b :: l) = 256 ^ l.length * b.toNat + beV l := by
  have := foldl_be l (256 * 0 + b.toNat)
  unfold beV at this ⊢
  rw [List.foldl_cons, this, Nat.mul_zero, Nat.zero_add]
theorem beV_lt (l : List UInt8) : beV l < 256 ^ l.length := by
  induction l with
  | nil => simp [beV]
  | cons b r ih =>
    rw [beV_cons, List.length_cons, Nat.pow_succ]
    have hb := UInt8.toNat_lt b
    have : 256 ^ r.length * b.toNat ≤ 256 ^ r.length * 255 := Nat.mul_le_mul_left _ (by omega)
    omega
theorem beV_beN (k n : Nat) : beV (beN k n) = n % 256 ^ k := by
  induction k with
  | zero => simp [beV, beN, Nat.mod_one]
  | succ k ih =>
    rw [beN, beV_cons, ih, beN_length]
    have e : (UInt8.ofNat (n / 256 ^ k)).toNat = n / 256 ^ k % 256 := by simp
    rw [e, Nat.pow_succ]
    have := Nat.mod_mul (x := n) (a := 256 ^ k) (b := 256)
    rw [this]; omega
theorem beV_beN_lt {k n : Nat} (h : n < 256 ^ k) : beV (beN k n) = n := by rw [beV_beN, Nat.mod_eq_of_lt h]
theorem beV_append (l m : List UInt8) : beV (l ++ m) = 256 ^ m.length * beV l + beV m := by
  have := foldl_be m (beV l)
  unfold beV at this ⊢
  rw [List.foldl_append]; exact this
theorem beV_inj {l m : List UInt8} (hl : l.length = m.length) (h : beV l = beV m) : l = m := by
  induction l generalizing m with
  | nil => cases m with
    | nil => rfl
    | cons _ _ => simp at hl
  | cons a r ih =>
    cases m with
    | nil => simp at hl
    | cons b s =>
      have hl' : r.length = s.length := by simpa using hl
      rw [beV_cons, beV_cons, hl'] at h
      have h1 := beV_lt r
      have h2 := beV_lt s
      rw [hl'] at h1
      have e : a.toNat = b.toNat := by
        rcases Nat.lt_trichotomy a.toNat b.toNat with h3 | h3 | h3
        · have : 256 ^ s.length * (a.toNat + 1) ≤ 256 ^ s.length * b.toNat := Nat.mul_le_mul_left _ h3
          rw [Nat.mul_add] at this; omega
        · exact h3
        · have : 256 ^ s.length * (b.toNat + 1) ≤ 256 ^ s.length * a.toNat := Nat.mul_le_mul_left _ h3
          rw [Nat.mul_add] at this; omega
      have e' : a = b := UInt8.toNat_inj.1 e
      subst e'
      rw [ih hl' (by omega)]
end Go.Proofs.YtfdnpchbbngpjaaGreat
namespace Go.Proofs.YtfdnpchbbngpjaaGreat

def rd (A : List UInt8) (p k : Nat) : List UInt8 := (List.range k).map fun i => A.getD ((p + i) % A.length) 0
def wr (A : List UInt8) (p : Nat) : List UInt8 → List UInt8
  | [] => A
  | x :: r => wr (A.set (p % A.length) x) (p + 1) r
def sec (A : List UInt8) (k : Nat) : List UInt8 := (A.drop (256 * k)).take 256

theorem rd_length (A : List UInt8) (p k : Nat) : (rd A p k).length = k := by simp [rd]
theorem rd_zero (A : List UInt8) (p : Nat) : rd A p 0 = [] := rfl
theorem rd_at {A : List UInt8} {p k i : Nat} (h : i < k) : (rd A p k).getD i 0 = A.getD ((p + i) % A.length) 0 := by
  unfold rd
  rw [List.getD_eq_getElem?_getD, List.getElem?_map, List.getElem?_range h]
  rfl
theorem getD_ext {l m : List UInt8} (hl : l.length = m.length) (h : ∀ i, i < l.length → l.getD i 0 = m.getD i 0) : l = m := by
  apply List.ext_getElem hl
  intro i h1 h2
  have := h i h1
  rwa [List.getD_eq_getElem?_getD, List.getD_eq_getElem?_getD, List.getElem?_eq_getElem h1, List.getElem?_eq_getElem h2] at this
theorem rd_add (A : List UInt8) (p a b : Nat) : rd A p (a + b) = rd A p a ++ rd A (p + a) b := by
  unfold rd
  rw [List.range_add, List.map_append, List.map_map]
  congr 1
  apply List.map_congr_left
  intro i _
  show A.getD ((p + (a + i)) % A.length) 0 = _
  rw [Nat.add_assoc]
theorem rd_take (A : List UInt8) (p : Nat) {a k : Nat} (h : a ≤ k) : (rd A p k).take a = rd A p a := by
  obtain ⟨b, rfl⟩ := Nat.exists_eq_add_of_le h
  rw [rd_add, List.take_append_of_le_length (by rw [rd_length]; exact Nat.le_refl _), List.take_of_length_le (by rw [rd_length]; exact Nat.le_refl _)]
theorem rd_drop (A : List UInt8) (p : Nat) {a k : Nat} (h : a ≤ k) : (rd A p k).drop a = rd A (p + a) (k - a) := by
  obtain ⟨b, rfl⟩ := Nat.exists_eq_add_of_le h
  rw [rd_add, List.drop_append_of_le_length (by rw [rd_length]; exact Nat.le_refl _), List.drop_of_length_le (by rw [rd_length]; exact Nat.le_refl _), List.nil_append]
  congr 1
  omega
theorem rd_snoc (A : List UInt8) (p k : Nat) : rd A p (k + 1) = rd A p k ++ [A.getD ((p + k) % A.length) 0] := rd_add A p k 1

theorem wr_length (A : List UInt8) (p : Nat) (l : List UInt8) : (wr A p l).length = A.length := by
  induction l generalizing A p with
  | nil => rfl
  | cons x r ih => unfold wr; rw [ih, List.length_set]
theorem wr_append (A : List UInt8) (p : Nat) (l m : List UInt8) : wr A p (l ++ m) = wr (wr A p l) (p + l.length) m := by
  induction l generalizing A p with
  | nil => rfl
  | cons x r ih =>
    show wr (A.set (p % A.length) x) (p + 1) (r ++ m) = wr (wr (A.set (p % A.length) x) (p + 1) r) (p + (r.length + 1)) m
    rw [ih]
    congr 1
    omega
theorem getD_set_self {A : List UInt8} {i : Nat} (h : i < A.length) (x : UInt8) : (A.set i x).getD i 0 = x := by
  rw [List.getD_eq_getElem?_getD, List.getElem?_set_self h]; rfl
theorem getD_set_ne {A : List UInt8} {i j : Nat} (h : i ≠ j) (x : UInt8) : (A.set i x).getD j 0 = A.getD j 0 := by
  rw [List.getD_eq_getElem?_getD, List.getElem?_set_ne h, List.getD_eq_getElem?_getD]
theorem mod_ne {n a b : Nat} (h1 : a < b) (h2 : b < a + n) : a % n ≠ b % n := by
  intro e
  have h3 := Nat.div_add_mod a n
  have h4 := Nat.div_add_mod b n
  rw [e] at h3
  have h5 : n * (a / n) < n * (b / n) := by omega
  have h6 : a / n + 1 ≤ b / n := Nat.lt_of_mul_lt_mul_left h5
  have h7 : n * (a / n + 1) ≤ n * (b / n) := Nat.mul_le_mul_left _ h6
  rw [Nat.mul_add] at h7
  omega
/-- a position outside what is written -/
theorem wr_far (A : List UInt8) (p : Nat) (l : List UInt8) (q : Nat) (h : ∀ j, j < l.length → (p + j) % A.length ≠ q) : (wr A p l).getD q 0 = A.getD q 0 := by
  induction l generalizing A p with
  | nil => rfl
  | cons x r ih =>
    unfold wr
    rw [ih _ _ (fun j hj => by
      have := h (j + 1) (by simp; omega)
      rw [List.length_set]
      rwa [show p + 1 + j = p + (j + 1) from by omega])]
    exact getD_set_ne (h 0 (by simp)) x
theorem wr_at (A : List UInt8) (p : Nat) (l : List UInt8) (hl : l.length ≤ A.length) (j : Nat) (hj : j < l.length) : (wr A p l).getD ((p + j) % A.length) 0 = l.getD j 0 := by
  induction l generalizing A p j with
  | nil => simp at hj
  | cons x r ih =>
    have hl' : r.length + 1 ≤ A.length := hl
    unfold wr
    cases j with
    | zero =>
      rw [wr_far _ _ _ _ (fun j hj => by
        rw [List.length_set]
        exact (mod_ne (n := A.length) (a := p + 0) (b := p + 1 + j) (by omega) (by omega)).symm)]
      exact getD_set_self (Nat.mod_lt _ (by omega)) x
    | succ j =>
      have := ih (A.set (p % A.length) x) (p + 1) (by rw [List.length_set]; omega) j (by simpa using hj)
      rw [List.length_set] at this
      rw [show p + (j + 1) = p + 1 + j from by omega]
      exact this
theorem rd_wr_same (A : List UInt8) (p : Nat) (l : List UInt8) (hl : l.length ≤ A.length) : rd (wr A p l) p l.length = l := by
  apply getD_ext (rd_length _ _ _)
  intro i hi
  rw [rd_length] at hi
  rw [rd_at hi, wr_length, wr_at A p l hl i hi]
/-- what lies ahead of the written bytes, or behind them, on the ring -/
theorem rd_wr_far (A : List UInt8) (p : Nat) (l : List UInt8) (q k : Nat) (h1 : q + k ≤ p) (h2 : p + l.length ≤ q + A.length) : rd (wr A p l) q k = rd A q k := by
  apply getD_ext (by rw [rd_length, rd_length])
  intro i hi
  rw [rd_length] at hi
  rw [rd_at hi, rd_at hi, wr_length, wr_far]
  intro j hj
  exact (mod_ne (n := A.length) (a := q + i) (b := p + j) (by omega) (by omega)).symm
/-- two rings that agree but at the positions of a stretch read alike ahead of it -/
theorem rd_alike {A B : List UInt8} (hl : B.length = A.length) {p m q k : Nat} (h1 : q + k ≤ p) (h2 : p + m ≤ q + A.length) (h : ∀ i, i < A.length → (∀ j, j < m → (p + j) % A.length ≠ i) → B.getD i 0 = A.getD i 0) : rd B q k = rd A q k := by
  apply getD_ext (by rw [rd_length, rd_length])
  intro i hi
  rw [rd_length] at hi
  rw [rd_at hi, rd_at hi, hl]
  by_cases h0 : A.length = 0
  · have e1 : A = [] := List.length_eq_zero_iff.1 h0
    have e2 : B = [] := List.length_eq_zero_iff.1 (hl.trans h0)
    rw [e1, e2]
  · exact h _ (Nat.mod_lt _ (by omega)) (fun j hj => (mod_ne (n := A.length) (a := q + i) (b := p + j) (by omega) (by omega)).symm)

/-! ### sectors -/
theorem sec_length {A : List UInt8} {m k : Nat} (hA : A.length = 256 * m) (hk : k < m) : (sec A k).length = 256 := by
  unfold sec
  rw [List.length_take, List.length_drop, hA]
  omega
theorem sec_at (A : List UInt8) (k i : Nat) (hi : i < 256) : (sec A k).getD i 0 = A.getD (256 * k + i) 0 := by
  unfold sec
  rw [List.getD_eq_getElem?_getD, List.getElem?_take_of_lt hi, List.getElem?_drop, ← List.getD_eq_getElem?_getD]
theorem split_off (A : List UInt8) {m : Nat} (hA : A.length = 256 * m) (p : Nat) (hm : 0 < m) : p % A.length = 256 * (p % A.length / 256) + p % A.length % 256 ∧ p % A.length / 256 < m := by
  have h := Nat.mod_lt p (show 0 < A.length by omega)
  rw [hA] at h ⊢
  exact ⟨(Nat.div_add_mod _ _).symm, Nat.div_lt_of_lt_mul h⟩
theorem step_off {A : List UInt8} {m : Nat} (hA : A.length = 256 * m) (hm : 0 < m) {p i : Nat} (hi : p % A.length % 256 + i < 256) : (p + i) % A.length = 256 * (p % A.length / 256) + (p % A.length % 256 + i) := by
  obtain ⟨h1, h2⟩ := split_off A hA p hm
  have h3 : 256 * (p % A.length / 256) + 256 ≤ 256 * m := by
    have : 256 * (p % A.length / 256 + 1) ≤ 256 * m := Nat.mul_le_mul_left _ h2
    omega
  rw [Nat.add_mod]
  by_cases hi' : i < A.length
  · rw [Nat.mod_eq_of_lt hi', Nat.mod_eq_of_lt (by omega)]
    omega
  · omega
/-- a part of one sector -/
theorem rd_part {A : List UInt8} {m : Nat} (hA : A.length = 256 * m) (hm : 0 < m) {p k : Nat} (hk : p % A.length % 256 + k ≤ 256) : ((sec A (p % A.length / 256)).drop (p % A.length % 256)).take k = rd A p k := by
  obtain ⟨h1, h2⟩ := split_off A hA p hm
  apply getD_ext
  · rw [rd_length, List.length_take, List.length_drop, sec_length hA h2]
    omega
  · intro i hi
    rw [List.length_take, List.length_drop, sec_length hA h2] at hi
    rw [List.getD_eq_getElem?_getD, List.getElem?_take_of_lt (by omega), List.getElem?_drop, ← List.getD_eq_getElem?_getD, sec_at _ _ _ (by omega), rd_at (by omega), step_off hA hm (by omega)]
/-- bytes written into one sector -/
theorem wr_sec_same {A : List UInt8} {m : Nat} (hA : A.length = 256 * m) (hm : 0 < m) {p : Nat} {l : List UInt8} (hk : p % A.length % 256 + l.length ≤ 256) :
    sec (wr A p l) (p % A.length / 256) = (sec A (p % A.length / 256)).take (p % A.length % 256) ++ l ++ (sec A (p % A.length / 256)).drop (p % A.length % 256 + l.length) := by
  obtain ⟨h1, h2⟩ := split_off A hA p hm
  have hW : (wr A p l).length = 256 * m := by rw [wr_length, hA]
  have hs := sec_length hA h2
  apply getD_ext
  · rw [sec_length hW h2, List.length_append, List.length_append, List.length_take, List.length_drop, hs]
    omega
  · intro i hi
    rw [sec_length hW h2] at hi
    rw [sec_at _ _ _ hi]
    by_cases c1 : i < p % A.length % 256
    · rw [wr_far _ _ _ _ (fun j hj => by rw [step_off hA hm (by omega)]; omega), List.append_assoc, List.getD_eq_getElem?_getD (l := _ ++ _), List.getElem?_append_left (by rw [List.length_take, hs]; omega), List.getElem?_take_of_lt c1, ← List.getD_eq_getElem?_getD, sec_at _ _ _ hi]
    · by_cases c2 : i < p % A.length % 256 + l.length
      · have e : 256 * (p % A.length / 256) + i = (p + (i - p % A.length % 256)) % A.length := by rw [step_off hA hm (by omega)]; omega
        rw [e, wr_at A p l (by omega) _ (by omega), List.append_assoc, List.getD_eq_getElem?_getD (l := _ ++ _), List.getElem?_append_right (by rw [List.length_take, hs]; omega), List.length_take, hs, List.getElem?_append_left (by omega), ← List.getD_eq_getElem?_getD]
        congr 1
        omega
      · rw [wr_far _ _ _ _ (fun j hj => by rw [step_off hA hm (by omega)]; omega), List.getD_eq_getElem?_getD (l := _ ++ _), List.getElem?_append_right (by rw [List.length_append, List.length_take, hs]; omega), List.getElem?_drop, List.length_append, List.length_take, hs, ← List.getD_eq_getElem?_getD, sec_at _ _ _ (by omega)]
        congr 1
        omega
theorem wr_sec_far {A : List UInt8} {m : Nat} (hA : A.length = 256 * m) (hm : 0 < m) {p : Nat} {l : List UInt8} (hk : p % A.length % 256 + l.length ≤ 256) {k : Nat} (hkm : k < m) (hne : k ≠ p % A.length / 256) : sec (wr A p l) k = sec A k := by
  have hW : (wr A p l).length = 256 * m := by rw [wr_length, hA]
  apply getD_ext
  · rw [sec_length hW hkm, sec_length hA hkm]
  · intro i hi
    rw [sec_length hW hkm] at hi
    rw [sec_at _ _ _ hi, sec_at _ _ _ hi, wr_far]
    intro j hj
    rw [step_off hA hm (by omega)]
    omega
/-- an area is its sectors -/
theorem area_ext {A B : List UInt8} {m : Nat} (hA : A.length = 256 * m) (hB : B.length = 256 * m) (h : ∀ k, k < m → sec A k = sec B k) : A = B := by
  apply getD_ext (by rw [hA, hB])
  intro i hi
  have h1 := h (i / 256) (by omega)
  have h2 := sec_at A (i / 256) (i % 256) (by omega)
  have h3 := sec_at B (i / 256) (i % 256) (by omega)
  rw [h1, h3] at h2
  rw [show 256 * (i / 256) + i % 256 = i from by omega] at h2
  exact h2.symm
end Go.Proofs.YtfdnpchbbngpjaaGreat
namespace Go.Proofs.YtfdnpchbbngpjaaGreat

/-! ### headers -/
structure Hd where
  num : Nat
  first : Nat
  beg : Nat
  en : Nat
def Hd.nil : Hd := ⟨0, 0, 0, 0⟩
def Hd.small (h : Hd) : Prop := h.num < 281474976710656 ∧ h.first < 281474976710656 ∧ h.beg < 281474976710656 ∧ h.en < 281474976710656
instance (h : Hd) : Decidable h.small := by unfold Hd.small; infer_instance
def magicL : List UInt8 := [74, 82, 78, 49]
def headL (h : Hd) : List UInt8 := magicL ++ beN 8 h.num ++ beN 8 h.first ++ beN 8 h.beg ++ beN 8 h.en
def headT (h : Hd) : List UInt8 := headL h ++ beN 4 (crc (headL h)) ++ List.replicate 216 0
def field (s : List UInt8) (a n : Nat) : Nat := beV ((s.drop a).take n)
def hdOf (s : List UInt8) : Hd := ⟨field s 4 8, field s 12 8, field s 20 8, field s 28 8⟩
def hdGood (s : List UInt8) : Bool := s.take 4 == magicL && field s 36 4 == crc (s.take 36)
def hdFits (h : Hd) (k n : Nat) : Bool := h.num % 2 == k && decide (h.beg ≤ h.en) && decide (h.en ≤ h.beg + n)
def readHd (s : List UInt8) (k n : Nat) : Hd × Bool :=
  if hdGood s = false then (Hd.nil, false) else if ¬ (hdOf s).small then (Hd.nil, false) else (hdOf s, hdFits (hdOf s) k n)
def findHd (s0 s1 : List UInt8) (n : Nat) : Hd × Bool :=
  if (readHd s1 1 n).2 && (!(readHd s0 0 n).2 || decide ((readHd s0 0 n).1.num < (readHd s1 1 n).1.num)) then ((readHd s1 1 n).1, true) else readHd s0 0 n

theorem headL_length (h : Hd) : (headL h).length = 36 := by simp [headL, magicL, beN_length]
theorem headT_length (h : Hd) : (headT h).length = 256 := by
  unfold headT
  rw [List.length_append, List.length_append, headL_length, beN_length, List.length_replicate]
theorem field_mid {l m r : List UInt8} {a n : Nat} (hl : l.length = a) (hm : m.length = n) : field (l ++ (m ++ r)) a n = beV m := by
  subst hl hm
  unfold field
  rw [List.drop_left, List.take_left]
theorem readHd_headT {h : Hd} (hs : h.small) (k n : Nat) : readHd (headT h) k n = (h, hdFits h k n) := by
  obtain ⟨s1, s2, s3, s4⟩ := hs
  have e : headT h = magicL ++ (beN 8 h.num ++ (beN 8 h.first ++ (beN 8 h.beg ++ (beN 8 h.en ++ (beN 4 (crc (headL h)) ++ List.replicate 216 0))))) := by
    unfold headT headL; simp only [List.append_assoc]
  have f1 : field (headT h) 4 8 = h.num := by rw [e, field_mid (l := magicL) (a := 4) rfl (beN_length _ _)]; exact beV_beN_lt (by omega)
  have f2 : field (headT h) 12 8 = h.first := by
    rw [e, ← List.append_assoc, field_mid (by simp [magicL, beN_length]) (beN_length _ _)]; exact beV_beN_lt (by omega)
  have f3 : field (headT h) 20 8 = h.beg := by
    rw [e, ← List.append_assoc, ← List.append_assoc, field_mid (by simp [magicL, beN_length]) (beN_length _ _)]; exact beV_beN_lt (by omega)
  have f4 : field (headT h) 28 8 = h.en := by
    rw [e, ← List.append_assoc, ← List.append_assoc, ← List.append_assoc, field_mid (by simp [magicL, beN_length]) (beN_length _ _)]; exact beV_beN_lt (by omega)
  have f5 : field (headT h) 36 4 = crc (headL h) := by
    unfold headT
    rw [List.append_assoc, field_mid (headL_length h) (beN_length _ _)]
    exact beV_beN_lt (by have := crc_lt (headL h); omega)
  have t4 : (headT h).take 4 = magicL := by rw [e]; exact List.take_left' rfl
  have t36 : (headT h).take 36 = headL h := by unfold headT; rw [List.append_assoc]; exact List.take_left' (headL_length h)
  have hd : hdOf (headT h) = h := by unfold hdOf; rw [f1, f2, f3, f4]
  unfold readHd
  rw [if_neg (by unfold hdGood; rw [t4, t36, f5]; simp), hd, if_neg (by simp only [Classical.not_not]; exact ⟨s1, s2, s3, s4⟩)]
theorem readHd_zero (k n : Nat) : readHd (List.replicate 256 0) k n = (Hd.nil, false) := by
  unfold readHd
  rw [if_pos (by unfold hdGood; have : ((List.replicate 256 (0 : UInt8)).take 4 == magicL) = false := by decide
                 rw [this]; rfl)]
theorem readHd_bool {s : List UInt8} {k n : Nat} (h : (readHd s k n).2 = true) : (readHd s k n).1.small ∧ hdFits (readHd s k n).1 k n = true := by
  unfold readHd at h ⊢
  split
  · rename_i h1; rw [if_pos h1] at h; cases h
  · rename_i h1
    rw [if_neg h1] at h
    split
    · rename_i h2; rw [if_pos h2] at h; cases h
    · rename_i h2
      rw [if_neg h2] at h
      exact ⟨Classical.not_not.1 h2, h⟩

/-! ### frames -/
abbrev Rc := Nat × ByteArray
def frameH (k : Nat) (d : List UInt8) : List UInt8 := beN 4 d.length ++ beN 8 k
def frameL (k : Nat) (d : List UInt8) : List UInt8 := frameH k d ++ beN 4 (crc (frameH k d ++ d)) ++ d
def fsize (A : List UInt8) (p : Nat) : Nat := field (rd A p 16) 0 4
def fdata (A : List UInt8) (p : Nat) : List UInt8 := rd A (p + 16) (fsize A p)
def frFits (A : List UInt8) (en p k : Nat) : Bool := decide (fsize A p ≤ 65536) && decide (p + 16 + fsize A p ≤ en) && field (rd A p 16) 4 8 == k
def frSum (A : List UInt8) (p : Nat) : Bool := field (rd A p 16) 12 4 == crc ((rd A p 16).take 12 ++ fdata A p)
def fr (A : List UInt8) (en p k : Nat) : List Rc :=
  if en < p + 16 then [] else if frFits A en p k && frSum A p then (p, ⟨(fdata A p).toArray⟩) :: fr A en (p + 16 + fsize A p) (k + 1) else []
termination_by en - p
decreasing_by omega
theorem frameH_length (k : Nat) (d : List UInt8) : (frameH k d).length = 12 := by unfold frameH; rw [List.length_append, beN_length, beN_length]
theorem frameL_length (k : Nat) (d : List UInt8) : (frameL k d).length = 16 + d.length := by unfold frameL; rw [List.length_append, List.length_append, frameH_length, beN_length]
theorem fr_end {A : List UInt8} {en p k : Nat} (h : en < p + 16) : fr A en p k = [] := by rw [fr, if_pos h]
theorem fr_stop {A : List UInt8} {en p k : Nat} (h : (frFits A en p k && frSum A p) = false) : fr A en p k = [] := by
  rw [fr]
  split
  · rfl
  · rw [h]; rfl
theorem fr_go {A : List UInt8} {en p k : Nat} (h : p + 16 ≤ en) (hf : (frFits A en p k && frSum A p) = true) : fr A en p k = (p, ⟨(fdata A p).toArray⟩) :: fr A en (p + 16 + fsize A p) (k + 1) := by
  rw [fr, if_neg (by omega), if_pos hf]

/-- a record lies at its position, as the k-th -/
def LieAt (A : List UInt8) (k : Nat) (r : Rc) : Prop := rd A r.1 (16 + r.2.size) = frameL k r.2.data.toList
structure HeadOf (A : List UInt8) (p k : Nat) (d : List UInt8) : Prop where
  size : fsize A p = d.length
  num : field (rd A p 16) 4 8 = k
  data : fdata A p = d
  h12 : (rd A p 16).take 12 = frameH k d
  sum : field (rd A p 16) 12 4 = crc (frameH k d ++ d)
theorem headOf {A : List UInt8} {p k : Nat} {d : List UInt8} (h : rd A p (16 + d.length) = frameL k d) (hk : k < 18446744073709551616) (hd : d.length ≤ 65536) : HeadOf A p k d := by
  have h16 : rd A p 16 = frameH k d ++ beN 4 (crc (frameH k d ++ d)) := by
    rw [← rd_take A p (show 16 ≤ 16 + d.length by omega), h]
    unfold frameL
    exact List.take_left' (by rw [List.length_append, frameH_length, beN_length])
  have hdat : rd A (p + 16) d.length = d := by
    have := rd_drop A p (show 16 ≤ 16 + d.length by omega)
    rw [h, show 16 + d.length - 16 = d.length from by omega] at this
    rw [← this]
    unfold frameL
    exact List.drop_left' (by rw [List.length_append, frameH_length, beN_length])
  have hsz : fsize A p = d.length := by
    unfold fsize
    rw [h16]
    unfold frameH field
    rw [List.drop_zero, List.append_assoc, List.append_assoc, List.take_left' (beN_length _ _)]
    exact beV_beN_lt (by omega)
  refine ⟨hsz, ?_, by unfold fdata; rw [hsz, hdat], ?_, ?_⟩
  · rw [h16]
    unfold frameH
    rw [List.append_assoc, field_mid (beN_length _ _) (beN_length _ _)]
    exact beV_beN_lt (by omega)
  · rw [h16]; exact List.take_left' (frameH_length _ _)
  · rw [h16]
    have := field_mid (r := []) (frameH_length k d) (beN_length 4 (crc (frameH k d ++ d)))
    rw [List.append_nil] at this
    rw [this]
    exact beV_beN_lt (by have := crc_lt (frameH k d ++ d); omega)
theorem bytes_toList (d : ByteArray) : (⟨d.data.toList.toArray⟩ : ByteArray) = d := by cases d; simp
theorem fr_lie {A : List UInt8} {en k : Nat} {r : Rc} (h : LieAt A k r) (hk : k < 18446744073709551616) (hd : r.2.size ≤ 65536) (hen : r.1 + 16 + r.2.size ≤ en) : fr A en r.1 k = r :: fr A en (r.1 + 16 + r.2.size) (k + 1) := by
  have hl : r.2.data.toList.length = r.2.size := Array.length_toList
  have H := headOf (A := A) (p := r.1) (k := k) (d := r.2.data.toList) (by rw [hl]; exact h) hk (by rw [hl]; exact hd)
  have hs := H.size
  rw [hl] at hs
  rw [fr_go (by omega), H.data, hs, bytes_toList]
  unfold frFits frSum
  rw [hs, H.num, H.data, H.h12, H.sum]
  simp
  exact ⟨hd, hen⟩

/-! ### a list of records, one behind the other -/
def rend (p : Nat) : List Rc → Nat
  | [] => p
  | r :: t => rend (r.1 + 16 + r.2.size) t
def Chain (p : Nat) : List Rc → Prop
  | [] => True
  | r :: t => r.1 = p ∧ r.2.size ≤ 65536 ∧ Chain (p + 16 + r.2.size) t
def Lies (A : List UInt8) (k : Nat) : List Rc → Prop
  | [] => True
  | r :: t => LieAt A k r ∧ Lies A (k + 1) t
theorem rend_append (p : Nat) (l m : List Rc) : rend p (l ++ m) = rend (rend p l) m := by
  induction l generalizing p with
  | nil => rfl
  | cons r t ih => exact ih _
theorem rend_snoc (p : Nat) (l : List Rc) (r : Rc) : rend p (l ++ [r]) = r.1 + 16 + r.2.size := by rw [rend_append]; rfl
theorem chain_append {p : Nat} {l m : List Rc} : Chain p (l ++ m) ↔ Chain p l ∧ Chain (rend p l) m := by
  induction l generalizing p with
  | nil => simp [Chain, rend]
  | cons r t ih =>
    show (r.1 = p ∧ r.2.size ≤ 65536 ∧ Chain (p + 16 + r.2.size) (t ++ m)) ↔ (r.1 = p ∧ r.2.size ≤ 65536 ∧ Chain (p + 16 + r.2.size) t) ∧ Chain (rend (r.1 + 16 + r.2.size) t) m
    rw [ih]
    constructor
    · rintro ⟨rfl, h2, h3, h4⟩; exact ⟨⟨rfl, h2, h3⟩, h4⟩
    · rintro ⟨⟨rfl, h2, h3⟩, h4⟩; exact ⟨rfl, h2, h3, h4⟩
theorem lies_append {A : List UInt8} {k : Nat} {l m : List Rc} : Lies A k (l ++ m) ↔ Lies A k l ∧ Lies A (k + l.length) m := by
  induction l generalizing k with
  | nil => simp [Lies]
  | cons r t ih =>
    show (LieAt A k r ∧ Lies A (k + 1) (t ++ m)) ↔ (LieAt A k r ∧ Lies A (k + 1) t) ∧ Lies A (k + (t.length + 1)) m
    rw [ih, show k + 1 + t.length = k + (t.length + 1) from by omega, and_assoc]
theorem rend_ge {p : Nat} {l : List Rc} (h : Chain p l) : p + 16 * l.length ≤ rend p l := by
  induction l generalizing p with
  | nil => simp [rend]
  | cons r t ih =>
    obtain ⟨h1, h2, h3⟩ := h
    subst h1
    have := ih h3
    simp only [rend, List.length_cons] at this ⊢
    omega
theorem fr_lies {A : List UInt8} {en p k : Nat} {l m : List Rc} (hc : Chain p l) (hl : Lies A k l) (hk : k + l.length < 18446744073709551616) (hen : rend p l ≤ en) (hm : fr A en (rend p l) (k + l.length) = m) : fr A en p k = l ++ m := by
  induction l generalizing p k with
  | nil => simpa [rend] using hm
  | cons r t ih =>
    obtain ⟨h1, h2, h3⟩ := hc
    subst h1
    obtain ⟨l1, l2⟩ := hl
    simp only [List.length_cons] at hk hm
    have hge := rend_ge h3
    rw [fr_lie l1 (by omega) h2 (by simp only [rend] at hen; omega), ih h3 l2 (by omega) hen (by rw [← hm]; show _ = fr A en (rend (r.1 + 16 + r.2.size) t) _; rw [show k + 1 + t.length = k + (t.length + 1) from by omega])]
    rfl
theorem fr_all {A : List UInt8} {p k : Nat} {l : List Rc} (hc : Chain p l) (hl : Lies A k l) (hk : k + l.length < 18446744073709551616) : fr A (rend p l) p k = l := by
  have := fr_lies hc hl hk (Nat.le_refl _) rfl
  rwa [fr_end (p := rend p l) (by omega), List.append_nil] at this
theorem fr_chain (A : List UInt8) (en p k : Nat) : Chain p (fr A en p k) := by
  fun_induction fr A en p k with
  | case1 => trivial
  | case2 p k h1 h2 ih =>
    have hl : (⟨(fdata A p).toArray⟩ : ByteArray).size = fsize A p := by
      show (fdata A p).toArray.size = _
      rw [List.size_toArray]; exact rd_length _ _ _
    refine ⟨rfl, ?_, ?_⟩
    · rw [hl]
      unfold frFits at h2
      simp at h2
      exact h2.1.1.1
    · rw [hl]; exact ih
  | case3 => trivial
theorem lies_alike {A B : List UInt8} {k p : Nat} {l : List Rc} (hc : Chain p l) (h : ∀ q m, p ≤ q → q + m ≤ rend p l → rd B q m = rd A q m) (hl : Lies A k l) : Lies B k l := by
  induction l generalizing k p with
  | nil => trivial
  | cons r t ih =>
    obtain ⟨h1, h2, h3⟩ := hc
    subst h1
    have hge := rend_ge h3
    refine ⟨?_, ih h3 (fun q m hq hm => h q m (by omega) hm) hl.2⟩
    unfold LieAt
    rw [h r.1 _ (Nat.le_refl _) (by simp only [rend]; omega)]
    exact hl.1
end Go.Proofs.YtfdnpchbbngpjaaGreat
