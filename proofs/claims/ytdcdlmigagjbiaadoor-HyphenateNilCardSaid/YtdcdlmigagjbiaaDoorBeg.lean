/- How many bytes of a broken encoding belong together: the program's count is the reference's 'beginning'. Nothing of the program stands here. -/
import Derived.Test.YtdcdlmigagjbiaaDoorRef
namespace Go.Proofs.YtdcdlmigagjbiaaDoor.U

/-- is the second byte within its bounds? -/
def inr (b c : UInt8) : Bool := !decide (c.toNat < tlow b.toNat ∨ thigh b.toNat < c.toNat)
def cnt (c : UInt8) : Bool := !decide (c.toNat < 128 ∨ 191 < c.toNat)

theorem dec0 (b : UInt8) (r : List UInt8) (h : tsize b.toNat = 0) : dec (b :: r) = (0, 0, false) := by simp [dec, h]
theorem dec1 (b : UInt8) (r : List UInt8) (h : tsize b.toNat = 1) : (dec (b :: r)).2.2 = true := by simp [dec, h]
theorem decN (b : UInt8) (r : List UInt8) (h0 : tsize b.toNat ≠ 0) (h1 : tsize b.toNat ≠ 1) : dec (b :: r) = decGo (tsize b.toNat - 1) (tlow b.toNat) (thigh b.toNat) (tlead b.toNat) 1 r := by simp [dec, h0, h1]

theorem go_nil (k lo hi p s : Nat) : decGo (k + 1) lo hi p s [] = (0, s, false) := rfl
theorem go_in (k lo hi p s : Nat) (c : UInt8) (r : List UInt8) (h : ¬ (c.toNat < lo ∨ hi < c.toNat)) : decGo (k + 1) lo hi p s (c :: r) = decGo k 128 191 (p * 64 + c.toNat % 64) (s + 1) r := by
  simp only [decGo]; rw [if_neg h]
theorem go_out (k lo hi p s : Nat) (c : UInt8) (r : List UInt8) (h : c.toNat < lo ∨ hi < c.toNat) : decGo (k + 1) lo hi p s (c :: r) = (0, s, false) := by
  simp only [decGo]; rw [if_pos h]

theorem inr_iff (b c : UInt8) : inr b c = true ↔ ¬ (c.toNat < tlow b.toNat ∨ thigh b.toNat < c.toNat) := by unfold inr; simp
theorem cnt_iff (c : UInt8) : cnt c = true ↔ ¬ (c.toNat < 128 ∨ 191 < c.toNat) := by unfold cnt; simp

theorem inr_no {b c : UInt8} (h : inr b c = false) : c.toNat < tlow b.toNat ∨ thigh b.toNat < c.toNat := by
  unfold inr at h; rw [Bool.not_eq_false'] at h; exact of_decide_eq_true h
theorem cnt_no {c : UInt8} (h : cnt c = false) : c.toNat < 128 ∨ 191 < c.toNat := by
  unfold cnt at h; rw [Bool.not_eq_false'] at h; exact of_decide_eq_true h

theorem some_in (b : UInt8) : inr b 128 = true ∨ inr b 191 = true := by
  rw [inr_iff, inr_iff]
  have e1 : (128 : UInt8).toNat = 128 := rfl
  have e2 : (191 : UInt8).toNat = 191 := rfl
  rw [e1, e2]
  unfold tlow thigh
  (repeat' split) <;> omega

theorem ok2 (b c : UInt8) (r : List UInt8) (h : tsize b.toNat = 2) : (dec (b :: c :: r)).2.2 = inr b c := by
  rw [decN b _ (by omega) (by omega), h]
  by_cases hc : c.toNat < tlow b.toNat ∨ thigh b.toNat < c.toNat
  · rw [go_out _ _ _ _ _ _ _ hc]; simp [inr, hc]
  · rw [go_in _ _ _ _ _ _ _ hc]; simp [decGo, inr, hc]
theorem ok3 (b c d : UInt8) (r : List UInt8) (h : tsize b.toNat = 3) : (dec (b :: c :: d :: r)).2.2 = (inr b c && cnt d) := by
  rw [decN b _ (by omega) (by omega), h]
  by_cases hc : c.toNat < tlow b.toNat ∨ thigh b.toNat < c.toNat
  · rw [go_out _ _ _ _ _ _ _ hc]; simp [inr, hc]
  · rw [go_in _ _ _ _ _ _ _ hc]
    by_cases hd : d.toNat < 128 ∨ 191 < d.toNat
    · rw [go_out _ _ _ _ _ _ _ hd]; simp [cnt, hd]
    · rw [go_in _ _ _ _ _ _ _ hd]; simp [decGo, inr, hc, cnt, hd]
theorem ok4 (b c d e : UInt8) (r : List UInt8) (h : tsize b.toNat = 4) : (dec (b :: c :: d :: e :: r)).2.2 = (inr b c && cnt d && cnt e) := by
  rw [decN b _ (by omega) (by omega), h]
  by_cases hc : c.toNat < tlow b.toNat ∨ thigh b.toNat < c.toNat
  · rw [go_out _ _ _ _ _ _ _ hc]; simp [inr, hc]
  · rw [go_in _ _ _ _ _ _ _ hc]
    by_cases hd : d.toNat < 128 ∨ 191 < d.toNat
    · rw [go_out _ _ _ _ _ _ _ hd]; simp [cnt, hd]
    · rw [go_in _ _ _ _ _ _ _ hd]
      by_cases he : e.toNat < 128 ∨ 191 < e.toNat
      · rw [go_out _ _ _ _ _ _ _ he]; simp [cnt, he]
      · rw [go_in _ _ _ _ _ _ _ he]; simp [decGo, inr, hc, cnt, hd, he]

theorem cnt_128 : cnt 128 = true := by decide
theorem cnt_191 : cnt 191 = true := by decide
theorem or_in (b : UInt8) : (inr b 128 || inr b 191) = true := by rcases some_in b with h | h <;> simp [h]

theorem rs2 (b : UInt8) (h : tsize b.toNat = 2) : ¬ b.toNat < 128 ∧ rsize b.toNat = 2 := by
  rcases tsize_cases b.toNat with e | ⟨e, hb⟩ | ⟨e, hb, hb'⟩ | ⟨e, hb, hb'⟩ | ⟨e, hb, hb'⟩ <;> first | omega | skip
  exact ⟨by omega, by unfold rsize; rw [if_neg (by omega), if_pos (by omega)]⟩
theorem rs3 (b : UInt8) (h : tsize b.toNat = 3) : ¬ b.toNat < 128 ∧ rsize b.toNat = 3 := by
  rcases tsize_cases b.toNat with e | ⟨e, hb⟩ | ⟨e, hb, hb'⟩ | ⟨e, hb, hb'⟩ | ⟨e, hb, hb'⟩ <;> first | omega | skip
  exact ⟨by omega, by unfold rsize; rw [if_neg (by omega), if_neg (by omega), if_pos (by omega)]⟩
theorem rs4 (b : UInt8) (h : tsize b.toNat = 4) : ¬ b.toNat < 128 ∧ rsize b.toNat = 4 := by
  rcases tsize_cases b.toNat with e | ⟨e, hb⟩ | ⟨e, hb, hb'⟩ | ⟨e, hb, hb'⟩ | ⟨e, hb, hb'⟩ <;> first | omega | skip
  exact ⟨by omega, by unfold rsize; rw [if_neg (by omega), if_neg (by omega), if_neg (by omega), if_pos (by omega)]⟩

theorem beg_long (b : UInt8) (r : List UInt8) (h : ¬ b.toNat < 128) (hr : rsize b.toNat ≤ r.length + 1) : begR (b :: r) = false := by
  rw [begR_eq, if_neg h]; simp [hr]
theorem beg_short (b : UInt8) (r : List UInt8) (h : ¬ b.toNat < 128) (hr : ¬ rsize b.toNat ≤ r.length + 1) : begR (b :: r) =
    ((dec (b :: r ++ List.replicate (rsize b.toNat - (r.length + 1)) 128)).2.2 || (dec (b :: r ++ List.replicate (rsize b.toNat - (r.length + 1)) 191)).2.2) := by
  rw [begR_eq, if_neg h]; simp [hr]

theorem beg0 (b : UInt8) (r : List UInt8) (h : tsize b.toNat = 0) : begR (b :: r) = false := by
  rw [begR_eq, List.cons_append, List.cons_append, dec0 b _ h, dec0 b _ h]; simp
theorem beg2_1 (b : UInt8) (h : tsize b.toNat = 2) : begR [b] = true := by
  obtain ⟨h1, h2⟩ := rs2 b h
  rw [beg_short b [] h1 (by simp [h2]), h2]
  show ((dec (b :: 128 :: [])).2.2 || (dec (b :: 191 :: [])).2.2) = true
  rw [ok2 _ _ _ h, ok2 _ _ _ h, or_in]
theorem beg3_1 (b : UInt8) (h : tsize b.toNat = 3) : begR [b] = true := by
  obtain ⟨h1, h2⟩ := rs3 b h
  rw [beg_short b [] h1 (by simp [h2]), h2]
  show ((dec (b :: 128 :: 128 :: [])).2.2 || (dec (b :: 191 :: 191 :: [])).2.2) = true
  rw [ok3 _ _ _ _ h, ok3 _ _ _ _ h, cnt_128, cnt_191, Bool.and_true, Bool.and_true, or_in]
theorem beg3_2 (b c : UInt8) (h : tsize b.toNat = 3) : begR [b, c] = inr b c := by
  obtain ⟨h1, h2⟩ := rs3 b h
  rw [beg_short b [c] h1 (by simp [h2]), h2]
  show ((dec (b :: c :: 128 :: [])).2.2 || (dec (b :: c :: 191 :: [])).2.2) = _
  rw [ok3 _ _ _ _ h, ok3 _ _ _ _ h, cnt_128, cnt_191, Bool.and_true, Bool.or_self]
theorem beg4_1 (b : UInt8) (h : tsize b.toNat = 4) : begR [b] = true := by
  obtain ⟨h1, h2⟩ := rs4 b h
  rw [beg_short b [] h1 (by simp [h2]), h2]
  show ((dec (b :: 128 :: 128 :: 128 :: [])).2.2 || (dec (b :: 191 :: 191 :: 191 :: [])).2.2) = true
  rw [ok4 _ _ _ _ _ h, ok4 _ _ _ _ _ h, cnt_128, cnt_191, Bool.and_true, Bool.and_true, Bool.and_true, Bool.and_true, or_in]
theorem beg4_2 (b c : UInt8) (h : tsize b.toNat = 4) : begR [b, c] = inr b c := by
  obtain ⟨h1, h2⟩ := rs4 b h
  rw [beg_short b [c] h1 (by simp [h2]), h2]
  show ((dec (b :: c :: 128 :: 128 :: [])).2.2 || (dec (b :: c :: 191 :: 191 :: [])).2.2) = _
  rw [ok4 _ _ _ _ _ h, ok4 _ _ _ _ _ h, cnt_128, cnt_191, Bool.and_true, Bool.and_true, Bool.or_self]
theorem beg4_3 (b c d : UInt8) (h : tsize b.toNat = 4) : begR [b, c, d] = (inr b c && cnt d) := by
  obtain ⟨h1, h2⟩ := rs4 b h
  rw [beg_short b [c, d] h1 (by simp [h2]), h2]
  show ((dec (b :: c :: d :: 128 :: [])).2.2 || (dec (b :: c :: d :: 191 :: [])).2.2) = _
  rw [ok4 _ _ _ _ _ h, ok4 _ _ _ _ _ h, cnt_128, cnt_191, Bool.and_true, Bool.or_self]

theorem begin_eq (l : List UInt8) (hl : l ≠ []) (h : (dec l).2.2 = false) : beginning l = (dec l).2.1 ∧ (dec l).2.1 ≤ l.length := by
  match l, hl with
  | b :: r, _ =>
  unfold beginning
  rcases tsize_cases b.toNat with e | ⟨e, _⟩ | ⟨e, _, _⟩ | ⟨e, _, _⟩ | ⟨e, _, _⟩
  · rw [dec0 b r e]
    refine ⟨begN_eq _ _ _ (Nat.zero_le _) fun m h1 h2 => ?_, Nat.zero_le _⟩
    match m, h1 with
    | m + 1, _ => rw [List.take_succ_cons, beg0 b _ e]; simp
  · rw [dec1 b r e] at h; simp at h
  · have hs : (dec (b :: r)).2.1 = 1 := by
      match r, h with
      | [], _ => rw [decN b _ (by omega) (by omega), e]; rfl
      | c :: r, h =>
        rw [ok2 b c r e] at h
        rw [decN b _ (by omega) (by omega), e, go_out _ _ _ _ _ _ _ (inr_no h)]
    rw [hs]
    refine ⟨begN_eq _ _ _ (by simp [List.length_cons]; omega) fun m h1 h2 => ?_, by simp⟩
    obtain ⟨k1, k2⟩ := rs2 b e
    match m, h1 with
    | 1, _ => rw [List.take_succ_cons, List.take_zero, beg2_1 b e]; rfl
    | m + 2, _ =>
      rw [List.take_succ_cons, beg_long b _ k1 (by rw [k2, List.length_take]; simp only [List.length_cons] at h2; omega)]
      simp
  · obtain ⟨k1, k2⟩ := rs3 b e
    match r, h with
    | [], _ =>
      have hs : (dec [b]).2.1 = 1 := by rw [decN b _ (by omega) (by omega), e]; rfl
      rw [hs]
      refine ⟨begN_eq _ _ _ (by simp) fun m h1 h2 => ?_, by simp⟩
      have : m = 1 := by simp at h2; omega
      subst this
      rw [List.take_succ_cons, List.take_zero, beg3_1 b e]; rfl
    | [c], _ =>
      have hs : (dec [b, c]).2.1 = if inr b c then 2 else 1 := by
        rw [decN b _ (by omega) (by omega), e]
        by_cases hc : c.toNat < tlow b.toNat ∨ thigh b.toNat < c.toNat
        · rw [go_out _ _ _ _ _ _ _ hc]; simp [inr, hc]
        · rw [go_in _ _ _ _ _ _ _ hc, go_nil]; simp [inr, hc]
      rw [hs]
      refine ⟨begN_eq _ _ _ (by simp; split <;> omega) fun m h1 h2 => ?_, by simp; split <;> omega⟩
      match m, h1 with
      | 1, _ => rw [List.take_succ_cons, List.take_zero, beg3_1 b e]; split <;> rfl
      | 2, _ => rw [List.take_succ_cons, List.take_succ_cons, List.take_zero, beg3_2 b c e]; cases inr b c <;> rfl
      | m + 3, _ => (simp at h2 <;> omega)
    | c :: d :: r, h =>
      have hs : (dec (b :: c :: d :: r)).2.1 = if inr b c then 2 else 1 := by
        rw [ok3 b c d r e] at h
        rw [decN b _ (by omega) (by omega), e]
        by_cases hc : c.toNat < tlow b.toNat ∨ thigh b.toNat < c.toNat
        · rw [go_out _ _ _ _ _ _ _ hc]; simp [inr, hc]
        · have hi : inr b c = true := by simp [inr, hc]
          rw [hi, Bool.true_and] at h
          rw [go_in _ _ _ _ _ _ _ hc, go_out _ _ _ _ _ _ _ (cnt_no h)]; simp [inr, hc]
      rw [hs]
      refine ⟨begN_eq _ _ _ (by simp; split <;> omega) fun m h1 h2 => ?_, by simp; split <;> omega⟩
      match m, h1 with
      | 1, _ => rw [List.take_succ_cons, List.take_zero, beg3_1 b e]; split <;> rfl
      | 2, _ => rw [List.take_succ_cons, List.take_succ_cons, List.take_zero, beg3_2 b c e]; cases inr b c <;> rfl
      | m + 3, _ =>
        rw [List.take_succ_cons, beg_long b _ k1 (by rw [k2, List.length_take]; simp only [List.length_cons] at h2 ⊢; omega)]
        symm; simp; split <;> omega
  · obtain ⟨k1, k2⟩ := rs4 b e
    match r, h with
    | [], _ =>
      have hs : (dec [b]).2.1 = 1 := by rw [decN b _ (by omega) (by omega), e]; rfl
      rw [hs]
      refine ⟨begN_eq _ _ _ (by simp) fun m h1 h2 => ?_, by simp⟩
      have : m = 1 := by simp at h2; omega
      subst this
      rw [List.take_succ_cons, List.take_zero, beg4_1 b e]; rfl
    | [c], _ =>
      have hs : (dec [b, c]).2.1 = if inr b c then 2 else 1 := by
        rw [decN b _ (by omega) (by omega), e]
        by_cases hc : c.toNat < tlow b.toNat ∨ thigh b.toNat < c.toNat
        · rw [go_out _ _ _ _ _ _ _ hc]; simp [inr, hc]
        · rw [go_in _ _ _ _ _ _ _ hc, go_nil]; simp [inr, hc]
      rw [hs]
      refine ⟨begN_eq _ _ _ (by simp; split <;> omega) fun m h1 h2 => ?_, by simp; split <;> omega⟩
      match m, h1 with
      | 1, _ => rw [List.take_succ_cons, List.take_zero, beg4_1 b e]; split <;> rfl
      | 2, _ => rw [List.take_succ_cons, List.take_succ_cons, List.take_zero, beg4_2 b c e]; cases inr b c <;> rfl
      | m + 3, _ => (simp at h2 <;> omega)
    | [c, d], _ =>
      have hs : (dec [b, c, d]).2.1 = if inr b c then (if cnt d then 3 else 2) else 1 := by
        rw [decN b _ (by omega) (by omega), e]
        by_cases hc : c.toNat < tlow b.toNat ∨ thigh b.toNat < c.toNat
        · rw [go_out _ _ _ _ _ _ _ hc]; simp [inr, hc]
        · rw [go_in _ _ _ _ _ _ _ hc]
          by_cases hd : d.toNat < 128 ∨ 191 < d.toNat
          · rw [go_out _ _ _ _ _ _ _ hd]; simp [inr, hc, cnt, hd]
          · rw [go_in _ _ _ _ _ _ _ hd, go_nil]; simp [inr, hc, cnt, hd]
      rw [hs]
      refine ⟨begN_eq _ _ _ (by simp; (repeat' split) <;> omega) fun m h1 h2 => ?_, by simp; (repeat' split) <;> omega⟩
      match m, h1 with
      | 1, _ => rw [List.take_succ_cons, List.take_zero, beg4_1 b e]; cases inr b c <;> cases cnt d <;> rfl
      | 2, _ => rw [List.take_succ_cons, List.take_succ_cons, List.take_zero, beg4_2 b c e]; cases inr b c <;> cases cnt d <;> rfl
      | 3, _ => rw [List.take_succ_cons, List.take_succ_cons, List.take_succ_cons, List.take_zero, beg4_3 b c d e]; cases inr b c <;> cases cnt d <;> rfl
      | m + 4, _ => (simp at h2 <;> omega)
    | c :: d :: f :: r, h =>
      have hs : (dec (b :: c :: d :: f :: r)).2.1 = if inr b c then (if cnt d then 3 else 2) else 1 := by
        rw [ok4 b c d f r e] at h
        rw [decN b _ (by omega) (by omega), e]
        by_cases hc : c.toNat < tlow b.toNat ∨ thigh b.toNat < c.toNat
        · rw [go_out _ _ _ _ _ _ _ hc]; simp [inr, hc]
        · have hi : inr b c = true := by simp [inr, hc]
          rw [hi, Bool.true_and] at h
          rw [go_in _ _ _ _ _ _ _ hc]
          by_cases hd : d.toNat < 128 ∨ 191 < d.toNat
          · rw [go_out _ _ _ _ _ _ _ hd]; simp [inr, hc, cnt, hd]
          · have hi' : cnt d = true := by simp [cnt, hd]
            rw [hi', Bool.true_and] at h
            rw [go_in _ _ _ _ _ _ _ hd, go_out _ _ _ _ _ _ _ (cnt_no h)]; simp [inr, hc, cnt, hd]
      rw [hs]
      refine ⟨begN_eq _ _ _ (by simp; (repeat' split) <;> omega) fun m h1 h2 => ?_, by simp; (repeat' split) <;> omega⟩
      match m, h1 with
      | 1, _ => rw [List.take_succ_cons, List.take_zero, beg4_1 b e]; cases inr b c <;> cases cnt d <;> rfl
      | 2, _ => rw [List.take_succ_cons, List.take_succ_cons, List.take_zero, beg4_2 b c e]; cases inr b c <;> cases cnt d <;> rfl
      | 3, _ => rw [List.take_succ_cons, List.take_succ_cons, List.take_succ_cons, List.take_zero, beg4_3 b c d e]; cases inr b c <;> cases cnt d <;> rfl
      | m + 4, _ => omega
end Go.Proofs.YtdcdlmigagjbiaaDoor.U
