/- Exceptions, plain: split at the hyphens, words and points. -/
import Derived.Test.YtdcdlmigagjbiaaDoorHct
import Derived.Lib.SplitLaws
import Derived.Lib.IndexLaws
import Derived.Lib.IndexBytes
namespace Go.Proofs.YtdcdlmigagjbiaaDoor

section
variable {α : Type} [DecidableEq α]
/-- cut at each c -/
def sp (c : α) : List α → List (List α)
  | [] => [[]]
  | x :: r => if x = c then [] :: sp c r else (x :: (sp c r).head!) :: (sp c r).tail
def jn (c : α) : List (List α) → List α
  | [] => []
  | x :: r => x ++ (r.map (fun y => c :: y)).flatten
theorem sp_ne (c : α) (l : List α) : sp c l ≠ [] := by
  cases l with
  | nil => simp [sp]
  | cons x r => unfold sp; split <;> simp
theorem sp_cons (c : α) (l : List α) : ∃ h t, sp c l = h :: t := by
  cases e : sp c l with
  | nil => exact absurd e (sp_ne c l)
  | cons h t => exact ⟨h, t, rfl⟩
theorem sp_hit (c : α) (r : List α) : sp c (c :: r) = [] :: sp c r := if_pos rfl
theorem sp_go {c x : α} (r : List α) (h : x ≠ c) : sp c (x :: r) = (x :: (sp c r).head!) :: (sp c r).tail := if_neg h
theorem sp_app (c : α) : ∀ (a b : List α), c ∉ a → sp c (a ++ c :: b) = a :: sp c b
  | [], b, _ => sp_hit c b
  | x :: a, b, h => by
    have hx : x ≠ c := fun e => h (by rw [e]; exact List.mem_cons_self)
    have ih := sp_app c a b (fun hh => h (List.mem_cons_of_mem _ hh))
    show sp c (x :: (a ++ c :: b)) = _
    rw [sp_go _ hx, ih]
    rfl
theorem sp_none (c : α) : ∀ (a : List α), c ∉ a → sp c a = [a]
  | [], _ => rfl
  | x :: a, h => by
    have hx : x ≠ c := fun e => h (by rw [e]; exact List.mem_cons_self)
    have ih := sp_none c a (fun hh => h (List.mem_cons_of_mem _ hh))
    rw [sp_go _ hx, ih]
    rfl
omit [DecidableEq α] in
theorem jn_cons2 (c : α) (x y : List α) (r : List (List α)) : jn c (x :: y :: r) = x ++ c :: jn c (y :: r) := by simp [jn]
theorem sp_jn (c : α) : ∀ (L : List (List α)), L ≠ [] → (∀ p, p ∈ L → c ∉ p) → sp c (jn c L) = L
  | [], h, _ => absurd rfl h
  | [x], _, h => by
    have : jn c [x] = x := by simp [jn]
    rw [this]; exact sp_none c x (h x List.mem_cons_self)
  | x :: y :: r, _, h => by
    rw [jn_cons2, sp_app c _ _ (h x List.mem_cons_self), sp_jn c (y :: r) (by simp) (fun p hp => h p (List.mem_cons_of_mem _ hp))]
theorem jn_sp (c : α) : ∀ l : List α, jn c (sp c l) = l
  | [] => rfl
  | x :: r => by
    have ih := jn_sp c r
    obtain ⟨h, t, e⟩ := sp_cons c r
    rw [e] at ih
    by_cases hx : x = c
    · subst hx
      rw [sp_hit, e, jn_cons2, ih]; rfl
    · rw [sp_go _ hx, e]
      show (x :: h) ++ _ = _
      rw [List.cons_append]
      exact congrArg (x :: ·) ih
theorem sp_free (c : α) : ∀ (l : List α) (p : List α), p ∈ sp c l → c ∉ p
  | [], p, h => by
    obtain rfl : p = [] := by simpa [sp] using h
    simp
  | x :: r, p, h => by
    obtain ⟨y, t, e⟩ := sp_cons c r
    have ih := sp_free c r
    by_cases hx : x = c
    · subst hx
      rw [sp_hit] at h
      rcases List.mem_cons.1 h with rfl | h
      · simp
      · exact ih p h
    · rw [sp_go _ hx, e] at h
      rw [e] at ih
      rcases List.mem_cons.1 h with rfl | h
      · intro hc
        rcases List.mem_cons.1 hc with hc | hc
        · exact hx hc.symm
        · exact ih y List.mem_cons_self hc
      · exact ih p (List.mem_cons_of_mem _ h)
theorem sp_mem (c : α) : ∀ (l : List α) (p : List α), p ∈ sp c l → ∀ x, x ∈ p → x ∈ l
  | [], p, h, x, hx => by
    obtain rfl : p = [] := by simpa [sp] using h
    cases hx
  | y :: r, p, h, x, hx => by
    obtain ⟨z, t, e⟩ := sp_cons c r
    have ih := sp_mem c r
    by_cases hy : y = c
    · subst hy
      rw [sp_hit] at h
      rcases List.mem_cons.1 h with rfl | h
      · cases hx
      · exact List.mem_cons_of_mem _ (ih p h x hx)
    · rw [sp_go _ hy, e] at h
      rw [e] at ih
      rcases List.mem_cons.1 h with rfl | h
      · rcases List.mem_cons.1 hx with rfl | hx
        · exact List.mem_cons_self
        · exact List.mem_cons_of_mem _ (ih z List.mem_cons_self x hx)
      · exact List.mem_cons_of_mem _ (ih p (List.mem_cons_of_mem _ h) x hx)
end
open Go.Lib in
theorem splitK_sp (c : UInt8) : ∀ (k : Nat) (s : List UInt8), s.count c = k → splitK [c] 0 k s = sp c s
  | 0, s, h => (sp_none c s (List.count_eq_zero.1 h)).symm
  | k + 1, s, h => by
    have hm : c ∈ s := List.count_pos_iff.1 (by omega)
    unfold splitK
    rw [index_one]
    have hne : ¬ (indexByte s c == -1) = true := by
      intro e
      obtain ⟨j, hj, e2⟩ := List.mem_iff_getElem.1 hm
      exact indexByte_none (beq_iff_eq.1 e) j (by rw [List.getElem?_eq_getElem hj, e2])
    rw [if_neg hne]
    have hge := indexByte_ge s c
    obtain ⟨o, ho⟩ : ∃ o : Nat, indexByte s c = o := ⟨(indexByte s c).toNat, by have : indexByte s c ≠ -1 := fun e => hne (beq_iff_eq.2 e); omega⟩
    obtain ⟨h1, h2⟩ := indexByte_some ho
    rw [ho, show (o : Int).toNat = o from rfl, Nat.add_zero, List.length_singleton]
    obtain ⟨hlt, hg⟩ := List.getElem?_eq_some_iff.1 h1
    have hs : s = s.take o ++ c :: s.drop (o + 1) := by
      conv => lhs; rw [← List.take_append_drop o s, List.drop_eq_getElem_cons hlt, hg]
    have hf : c ∉ s.take o := by
      intro hc
      obtain ⟨j, hj, e2⟩ := List.mem_iff_getElem.1 hc
      rw [List.length_take] at hj
      rw [List.getElem_take] at e2
      exact h2 j (by omega) (by rw [List.getElem?_eq_getElem (by omega), e2])
    have hcnt : (s.drop (o + 1)).count c = k := by
      rw [hs, List.count_append, List.count_cons_self, List.count_eq_zero.2 hf] at h
      omega
    rw [splitK_sp c k _ hcnt]
    conv => rhs; rw [hs]
    rw [sp_app c _ _ hf]

/-! ### exceptions -/
/-- where the parts begin -/
def cumP : Nat → List (List Int) → List Int
  | _, [] => []
  | n, x :: r => (n : Int) :: cumP (n + x.length) r
def exok (pp : List (List Int)) : Bool := pp.all (fun x => !x.isEmpty && x.all letC)
def exC (pp : List (List Int)) : List UInt8 × List Int × Bool := (encI pp.flatten, (cumP 0 pp).tail, decide (pp.flatten.length ≤ 64))
/-- what exception says of a folded string -/
def exP (t : List UInt8) : List UInt8 × List Int × Bool := if ((U.bad t).isEmpty && exok (sp 45 (ptsI t))) = true then exC (sp 45 (ptsI t)) else ([], [], false)
theorem cumP_snoc : ∀ (L : List (List Int)) (n : Nat) (x : List Int), cumP n (L ++ [x]) = cumP n L ++ [((n + L.flatten.length : Nat) : Int)]
  | [], n, x => by simp [cumP]
  | y :: r, n, x => by
    show (n : Int) :: cumP (n + y.length) (r ++ [x]) = _
    rw [cumP_snoc r]
    simp [cumP, Nat.add_assoc]
theorem cumP_tail (L : List (List Int)) (x : List Int) : (cumP 0 (L ++ [x])).tail = (cumP 0 L).tail ++ (if L = [] then [] else [((L.flatten.length : Nat) : Int)]) := by
  rw [cumP_snoc]
  cases L with
  | nil => rfl
  | cons y r => rw [if_neg (by simp)]; simp [cumP]
theorem enc_no45 {q : Nat} (h : q ≠ 45) (hq : U.isPt q = true) : (45 : UInt8) ∉ U.enc q := by
  have hq2 := (U.isPt_iff q).1 hq
  have key : ∀ n : Nat, n < 256 → n ≠ 45 → (45 : UInt8) ≠ UInt8.ofNat n := by
    intro n hn hne e
    have := congrArg UInt8.toNat e
    rw [UInt8.toNat_ofNat_of_lt' (by simpa using hn)] at this
    exact hne this.symm
  unfold U.enc
  intro hm
  split at hm
  · exact key q (by omega) h (by simpa using hm)
  split at hm
  · rcases List.mem_cons.1 hm with e | hm
    · exact key _ (by omega) (by omega) e
    · exact key (128 + q % 64) (by omega) (by omega) (by simpa using hm)
  split at hm
  · rcases List.mem_cons.1 hm with e | hm
    · exact key _ (by omega) (by omega) e
    rcases List.mem_cons.1 hm with e | hm
    · exact key _ (by omega) (by omega) e
    · exact key (128 + q % 64) (by omega) (by omega) (by simpa using hm)
  · rcases List.mem_cons.1 hm with e | hm
    · exact key _ (by omega) (by omega) e
    rcases List.mem_cons.1 hm with e | hm
    · exact key _ (by omega) (by omega) e
    rcases List.mem_cons.1 hm with e | hm
    · exact key _ (by omega) (by omega) e
    · exact key (128 + q % 64) (by omega) (by omega) (by simpa using hm)
theorem encI_no45 : ∀ (p : List Int), okI p = true → (45 : Int) ∉ p → (45 : UInt8) ∉ encI p
  | [], _, _ => by simp [encI, U.encs]
  | q :: r, hp, h => by
    have hp' : isPtI q = true ∧ okI r = true := by unfold okI at hp; rw [List.all_cons, Bool.and_eq_true] at hp; exact hp
    rw [encI_cons]
    intro hm
    rcases List.mem_append.1 hm with hm | hm
    · have h1 := (isPtI_iff q).1 hp'.1
      refine enc_no45 (q := q.toNat) ?_ ((U.isPt_iff _).2 (by omega)) hm
      intro e
      have : q = 45 := by omega
      exact h (by rw [this]; exact List.mem_cons_self)
    · exact encI_no45 r hp'.2 (fun hh => h (List.mem_cons_of_mem _ hh)) hm
theorem encI_jn : ∀ (L : List (List Int)), encI (jn 45 L) = jn 45 (L.map encI)
  | [] => rfl
  | [x] => by simp [jn]
  | x :: y :: r => by
    rw [List.map_cons, List.map_cons, jn_cons2, jn_cons2, encI_append, encI_cons, encI_jn (y :: r)]
    rfl
theorem encI_flat (L : List (List Int)) : encI L.flatten = (L.map encI).flatten := by
  induction L with
  | nil => rfl
  | cons x r ih => rw [List.flatten_cons, encI_append, ih]; rfl
theorem letsP_iff {l : List UInt8} : letsP l = true ↔ (U.bad l).isEmpty = true ∧ (ptsI l).all letC = true := by unfold letsP; rw [Bool.and_eq_true]
theorem encI_valid {l : List UInt8} (h : (U.bad l).isEmpty = true) : encI (ptsI l) = l := by rw [encI_pts, ← U.of_valid _ (by simpa using h)]
theorem let_no45 {p : List Int} (h : p.all letC = true) : (45 : Int) ∉ p := fun hm => (letC_num (List.all_eq_true.1 h _ hm)).2.2.1 rfl
theorem okI_jn : ∀ (L : List (List Int)), (∀ p, p ∈ L → okI p = true) → okI (jn 45 L) = true
  | [], _ => rfl
  | [x], h => by simpa [jn] using h x List.mem_cons_self
  | x :: y :: r, h => by
    rw [jn_cons2]
    unfold okI
    rw [List.all_append, List.all_cons, Bool.and_eq_true, Bool.and_eq_true]
    exact ⟨h x List.mem_cons_self, rfl, okI_jn (y :: r) (fun p hp => h p (List.mem_cons_of_mem _ hp))⟩
theorem ex_yes {t : List UInt8} (h : ∀ x, x ∈ sp 45 t → letsP x = true ∧ ptsI x ≠ []) : exP t = exC ((sp 45 t).map ptsI) ∧ (sp 45 t).flatten = encI ((sp 45 t).map ptsI).flatten := by
  have hv : ((sp 45 t).map ptsI).map encI = sp 45 t := by
    rw [List.map_map]
    conv => rhs; rw [← List.map_id (sp 45 t)]
    exact List.map_congr_left fun x hx => encI_valid (letsP_iff.1 (h x hx).1).1
  have ht : t = encI (jn 45 ((sp 45 t).map ptsI)) := by rw [encI_jn, hv, jn_sp]
  have hok : okI (jn 45 ((sp 45 t).map ptsI)) = true := okI_jn _ (fun p hp => by
    obtain ⟨x, _, rfl⟩ := List.mem_map.1 hp
    exact okI_pts x)
  obtain ⟨h1, h2⟩ := pts_make _ hok
  rw [← ht] at h1 h2
  have hs : sp 45 (ptsI t) = (sp 45 t).map ptsI := by
    rw [h1]
    exact sp_jn _ _ (by simpa using sp_ne 45 t) (fun p hp => by
      obtain ⟨x, hx, rfl⟩ := List.mem_map.1 hp
      exact let_no45 (letsP_iff.1 (h x hx).1).2)
  refine ⟨?_, by rw [encI_flat, hv]⟩
  unfold exP
  rw [h2, hs, Bool.true_and, if_pos]
  unfold exok
  rw [List.all_eq_true]
  intro p hp
  obtain ⟨x, hx, rfl⟩ := List.mem_map.1 hp
  rw [(letsP_iff.1 (h x hx).1).2, Bool.and_true]
  have := (h x hx).2
  cases hh : ptsI x with
  | nil => exact absurd hh this
  | cons => rfl
theorem ex_no {t : List UInt8} {x : List UInt8} (hx : x ∈ sp 45 t) (h : letsP x = false ∨ ptsI x = []) : exP t = ([], [], false) := by
  unfold exP
  rw [if_neg]
  intro hc
  rw [Bool.and_eq_true] at hc
  obtain ⟨hv, hok⟩ := hc
  have hmem : ∀ p, p ∈ sp 45 (ptsI t) → okI p = true := fun p hp => by
    unfold okI
    rw [List.all_eq_true]
    intro q hq
    have := okI_pts t
    unfold okI at this
    exact List.all_eq_true.1 this q (sp_mem 45 _ p hp q hq)
  have ht : t = jn 45 ((sp 45 (ptsI t)).map encI) := by
    rw [← encI_jn, jn_sp, encI_valid hv]
  have hs : sp 45 t = (sp 45 (ptsI t)).map encI := by
    conv => lhs; rw [ht]
    exact sp_jn _ _ (by simpa using sp_ne 45 (ptsI t)) (fun p hp => by
      obtain ⟨y, hy, rfl⟩ := List.mem_map.1 hp
      exact encI_no45 y (hmem y hy) (sp_free 45 _ y hy))
  rw [hs] at hx
  obtain ⟨y, hy, rfl⟩ := List.mem_map.1 hx
  have hy2 := List.all_eq_true.1 hok y hy
  rw [Bool.and_eq_true] at hy2
  obtain ⟨h1, h2⟩ := pts_make y (hmem y hy)
  rcases h with h | h
  · have : letsP (encI y) = true := letsP_iff.2 ⟨h2, by rw [h1]; exact hy2.2⟩
    rw [this] at h
    cases h
  · rw [h1] at h
    rw [h] at hy2
    cases hy2.1

/-! ### the same, read from left to right -/
def okD : Bool → List Int → Bool
  | pd, [] => !pd
  | pd, c :: r => if c = 45 then !pd && okD true r else letC c && okD false r
def dash : Nat → List Int → List Int
  | _, [] => []
  | n, c :: r => if c = 45 then (n : Int) :: dash n r else dash (n + 1) r
def noD (l : List Int) : List Int := l.filter (fun c => !decide (c = 45))
theorem hd_cons {α : Type} (x : List α) (l : List (List α)) : (x :: l).head! = x := rfl
theorem okD_go : ∀ (l : List Int), okD true l = exok (sp 45 l) ∧ okD false l = ((sp 45 l).head!.all letC && exok (sp 45 l).tail)
  | [] => ⟨rfl, rfl⟩
  | c :: r => by
    obtain ⟨i1, i2⟩ := okD_go r
    obtain ⟨h, t, e⟩ := sp_cons 45 r
    rw [e] at i1 i2
    by_cases hc : c = 45
    · subst hc
      rw [sp_hit, e]
      simp only [okD, if_true, i1]
      exact ⟨by simp [exok], by simp [hd_cons]⟩
    · rw [sp_go _ hc, e]
      simp only [okD, if_neg hc, i2]
      exact ⟨by simp [exok, Bool.and_assoc, hd_cons], by simp [Bool.and_assoc, hd_cons]⟩
theorem okD_ex (l : List Int) : okD true l = exok (sp 45 l) := (okD_go l).1
theorem okD_last : ∀ (pd : Bool) (l : List Int), okD pd (l ++ [45]) = false
  | pd, [] => by simp [okD]
  | pd, c :: r => by
    show okD pd (c :: (r ++ [45])) = false
    unfold okD
    split
    · rw [okD_last]; simp
    · rw [okD_last]; simp
theorem sp_flat : ∀ (l : List Int), (sp 45 l).flatten = noD l
  | [] => rfl
  | c :: r => by
    have ih := sp_flat r
    obtain ⟨h, t, e⟩ := sp_cons 45 r
    by_cases hc : c = 45
    · subst hc
      rw [sp_hit, List.flatten_cons, ih]; simp [noD]
    · rw [sp_go _ hc, e]
      rw [e] at ih
      show (c :: h) ++ t.flatten = _
      unfold noD
      rw [List.filter_cons_of_pos (by simpa using hc)]
      exact congrArg (c :: ·) ih
theorem dash_cum : ∀ (l : List Int) (n : Nat), (cumP n (sp 45 l)).tail = dash n l
  | [], n => rfl
  | c :: r, n => by
    obtain ⟨h, t, e⟩ := sp_cons 45 r
    by_cases hc : c = 45
    · subst hc
      have ih := dash_cum r n
      rw [sp_hit]
      rw [e] at ih ⊢
      simp only [dash, if_true]
      show cumP (n + 0) (h :: t) = _
      rw [Nat.add_zero, ← ih]
      rfl
    · rw [sp_go _ hc, e]
      have ih := dash_cum r (n + 1)
      rw [e] at ih
      simp only [dash, if_neg hc]
      rw [← ih]
      show cumP (n + (h.length + 1)) t = cumP (n + 1 + h.length) t
      rw [show n + (h.length + 1) = n + 1 + h.length from by omega]
theorem exP_eq (t : List UInt8) : exP t = if ((U.bad t).isEmpty && okD true (ptsI t)) = true then (encI (noD (ptsI t)), dash 0 (ptsI t), decide ((noD (ptsI t)).length ≤ 64)) else ([], [], false) := by
  unfold exP exC
  rw [okD_ex, sp_flat, dash_cum]
end Go.Proofs.YtdcdlmigagjbiaaDoor
