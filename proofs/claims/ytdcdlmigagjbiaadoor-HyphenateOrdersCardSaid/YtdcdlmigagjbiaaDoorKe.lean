/- Exceptions, plain: split at the hyphens, words and points. -/
import Derived.Test.YtdcdlmigagjbiaaDoorKd
import Derived.Lib.SplitLaws
import Derived.Lib.IndexLaws
import Derived.Lib.IndexBytes
import Derived.Test.YtdcdlmigagjbiaaDoorKb
import Derived.Test.YtdcdlmigagjbiaaDoorHshf
import Derived.Shelf.Strings.Split
namespace Go.Proofs.YtdcdlmigagjbiaaDoor

section
variable {α : Type} [DecidableEq α]
/-- cut at each c -/
def sp (c : α) : List α → List (List α)
  | [] => [[]]
  | x :: r => if x = c then [] :: sp c r else (x :: (sp c r).head!) :: (sp c r).tail
def jn (c : α) : List (List α) → List α
  | [] => []
  | x :: r => x ++ (r.map (fun y => c :: y)).flatten
theorem sp_ne (c : α) (l : List α) : sp c l ≠ [] := by
  cases l with
  | nil => simp [sp]
  | cons x r => unfold sp; split <;> simp
theorem sp_cons (c : α) (l : List α) : ∃ h t, sp c l = h :: t := by
  cases e : sp c l with
  | nil => exact absurd e (sp_ne c l)
  | cons h t => exact ⟨h, t, rfl⟩
theorem sp_hit (c : α) (r : List α) : sp c (c :: r) = [] :: sp c r := if_pos rfl
theorem sp_go {c x : α} (r : List α) (h : x ≠ c) : sp c (x :: r) = (x :: (sp c r).head!) :: (sp c r).tail := if_neg h
theorem sp_app (c : α) : ∀ (a b : List α), c ∉ a → sp c (a ++ c :: b) = a :: sp c b
  | [], b, _ => sp_hit c b
  | x :: a, b, h => by
    have hx : x ≠ c := fun e => h (by rw [e]; exact List.mem_cons_self)
    have ih := sp_app c a b (fun hh => h (List.mem_cons_of_mem _ hh))
    show sp c (x :: (a ++ c :: b)) = _
    rw [sp_go _ hx, ih]
    rfl
theorem sp_none (c : α) : ∀ (a : List α), c ∉ a → sp c a = [a]
  | [], _ => rfl
  | x :: a, h => by
    have hx : x ≠ c := fun e => h (by rw [e]; exact List.mem_cons_self)
    have ih := sp_none c a (fun hh => h (List.mem_cons_of_mem _ hh))
    rw [sp_go _ hx, ih]
    rfl
omit [DecidableEq α] in
theorem jn_cons2 (c : α) (x y : List α) (r : List (List α)) : jn c (x :: y :: r) = x ++ c :: jn c (y :: r) := by simp [jn]
theorem sp_jn (c : α) : ∀ (L : List (List α)), L ≠ [] → (∀ p, p ∈ L → c ∉ p) → sp c (jn c L) = L
  | [], h, _ => absurd rfl h
  | [x], _, h => by
    have : jn c [x] = x := by simp [jn]
    rw [this]; exact sp_none c x (h x List.mem_cons_self)
  | x :: y :: r, _, h => by
    rw [jn_cons2, sp_app c _ _ (h x List.mem_cons_self), sp_jn c (y :: r) (by simp) (fun p hp => h p (List.mem_cons_of_mem _ hp))]
theorem jn_sp (c : α) : ∀ l : List α, jn c (sp c l) = l
  | [] => rfl
  | x :: r => by
    have ih := jn_sp c r
    obtain ⟨h, t, e⟩ := sp_cons c r
    rw [e] at ih
    by_cases hx : x = c
    · subst hx
      rw [sp_hit, e, jn_cons2, ih]; rfl
    · rw [sp_go _ hx, e]
      show (x :: h) ++ _ = _
      rw [List.cons_append]
      exact congrArg (x :: ·) ih
theorem sp_free (c : α) : ∀ (l : List α) (p : List α), p ∈ sp c l → c ∉ p
  | [], p, h => by
    obtain rfl : p = [] := by simpa [sp] using h
    simp
  | x :: r, p, h => by
    obtain ⟨y, t, e⟩ := sp_cons c r
    have ih := sp_free c r
    by_cases hx : x = c
    · subst hx
      rw [sp_hit] at h
      rcases List.mem_cons.1 h with rfl | h
      · simp
      · exact ih p h
    · rw [sp_go _ hx, e] at h
      rw [e] at ih
      rcases List.mem_cons.1 h with rfl | h
      · intro hc
        rcases List.mem_cons.1 hc with hc | hc
        · exact hx hc.symm
        · exact ih y List.mem_cons_self hc
      · exact ih p (List.mem_cons_of_mem _ h)
theorem sp_mem (c : α) : ∀ (l : List α) (p : List α), p ∈ sp c l → ∀ x, x ∈ p → x ∈ l
  | [], p, h, x, hx => by
    obtain rfl : p = [] := by simpa [sp] using h
    cases hx
  | y :: r, p, h, x, hx => by
    obtain ⟨z, t, e⟩ := sp_cons c r
    have ih := sp_mem c r
    by_cases hy : y = c
    · subst hy
      rw [sp_hit] at h
      rcases List.mem_cons.1 h with rfl | h
      · cases hx
      · exact List.mem_cons_of_mem _ (ih p h x hx)
    · rw [sp_go _ hy, e] at h
      rw [e] at ih
      rcases List.mem_cons.1 h with rfl | h
      · rcases List.mem_cons.1 hx with rfl | hx
        · exact List.mem_cons_self
        · exact List.mem_cons_of_mem _ (ih z List.mem_cons_self x hx)
      · exact List.mem_cons_of_mem _ (ih p (List.mem_cons_of_mem _ h) x hx)
end
open Go.Lib in
theorem splitK_sp (c : UInt8) : ∀ (k : Nat) (s : List UInt8), s.count c = k → splitK [c] 0 k s = sp c s
  | 0, s, h => (sp_none c s (List.count_eq_zero.1 h)).symm
  | k + 1, s, h => by
    have hm : c ∈ s := List.count_pos_iff.1 (by omega)
    unfold splitK
    rw [index_one]
    have hne : ¬ (indexByte s c == -1) = true := by
      intro e
      obtain ⟨j, hj, e2⟩ := List.mem_iff_getElem.1 hm
      exact indexByte_none (beq_iff_eq.1 e) j (by rw [List.getElem?_eq_getElem hj, e2])
    rw [if_neg hne]
    have hge := indexByte_ge s c
    obtain ⟨o, ho⟩ : ∃ o : Nat, indexByte s c = o := ⟨(indexByte s c).toNat, by have : indexByte s c ≠ -1 := fun e => hne (beq_iff_eq.2 e); omega⟩
    obtain ⟨h1, h2⟩ := indexByte_some ho
    rw [ho, show (o : Int).toNat = o from rfl, Nat.add_zero, List.length_singleton]
    obtain ⟨hlt, hg⟩ := List.getElem?_eq_some_iff.1 h1
    have hs : s = s.take o ++ c :: s.drop (o + 1) := by
      conv => lhs; rw [← List.take_append_drop o s, List.drop_eq_getElem_cons hlt, hg]
    have hf : c ∉ s.take o := by
      intro hc
      obtain ⟨j, hj, e2⟩ := List.mem_iff_getElem.1 hc
      rw [List.length_take] at hj
      rw [List.getElem_take] at e2
      exact h2 j (by omega) (by rw [List.getElem?_eq_getElem (by omega), e2])
    have hcnt : (s.drop (o + 1)).count c = k := by
      rw [hs, List.count_append, List.count_cons_self, List.count_eq_zero.2 hf] at h
      omega
    rw [splitK_sp c k _ hcnt]
    conv => rhs; rw [hs]
    rw [sp_app c _ _ hf]

/-! ### exceptions -/
/-- where the parts begin -/
def cumP : Nat → List (List Int) → List Int
  | _, [] => []
  | n, x :: r => (n : Int) :: cumP (n + x.length) r
def exok (pp : List (List Int)) : Bool := pp.all (fun x => !x.isEmpty && x.all letC)
def exC (pp : List (List Int)) : List UInt8 × List Int × Bool := (encI pp.flatten, (cumP 0 pp).tail, decide (pp.flatten.length ≤ 64))
/-- what exception says of a folded string -/
def exP (t : List UInt8) : List UInt8 × List Int × Bool := if ((U.bad t).isEmpty && exok (sp 45 (ptsI t))) = true then exC (sp 45 (ptsI t)) else ([], [], false)
theorem cumP_snoc : ∀ (L : List (List Int)) (n : Nat) (x : List Int), cumP n (L ++ [x]) = cumP n L ++ [((n + L.flatten.length : Nat) : Int)]
  | [], n, x => by simp [cumP]
  | y :: r, n, x => by
    show (n : Int) :: cumP (n + y.length) (r ++ [x]) = _
    rw [cumP_snoc r]
    simp [cumP, Nat.add_assoc]
theorem cumP_tail (L : List (List Int)) (x : List Int) : (cumP 0 (L ++ [x])).tail = (cumP 0 L).tail ++ (if L = [] then [] else [((L.flatten.length : Nat) : Int)]) := by
  rw [cumP_snoc]
  cases L with
  | nil => rfl
  | cons y r => rw [if_neg (by simp)]; simp [cumP]
theorem enc_no45 {q : Nat} (h : q ≠ 45) (hq : U.isPt q = true) : (45 : UInt8) ∉ U.enc q := by
  have hq2 := (U.isPt_iff q).1 hq
  have key : ∀ n : Nat, n < 256 → n ≠ 45 → (45 : UInt8) ≠ UInt8.ofNat n := by
    intro n hn hne e
    have := congrArg UInt8.toNat e
    rw [UInt8.toNat_ofNat_of_lt' (by simpa using hn)] at this
    exact hne this.symm
  unfold U.enc
  intro hm
  split at hm
  · exact key q (by omega) h (by simpa using hm)
  split at hm
  · rcases List.mem_cons.1 hm with e | hm
    · exact key _ (by omega) (by omega) e
    · exact key (128 + q % 64) (by omega) (by omega) (by simpa using hm)
  split at hm
  · rcases List.mem_cons.1 hm with e | hm
    · exact key _ (by omega) (by omega) e
    rcases List.mem_cons.1 hm with e | hm
    · exact key _ (by omega) (by omega) e
    · exact key (128 + q % 64) (by omega) (by omega) (by simpa using hm)
  · rcases List.mem_cons.1 hm with e | hm
    · exact key _ (by omega) (by omega) e
    rcases List.mem_cons.1 hm with e | hm
    · exact key _ (by omega) (by omega) e
    rcases List.mem_cons.1 hm with e | hm
    · exact key _ (by omega) (by omega) e
    · exact key (128 + q % 64) (by omega) (by omega) (by simpa using hm)
theorem encI_no45 : ∀ (p : List Int), okI p = true → (45 : Int) ∉ p → (45 : UInt8) ∉ encI p
  | [], _, _ => by simp [encI, U.encs]
  | q :: r, hp, h => by
    have hp' : isPtI q = true ∧ okI r = true := by unfold okI at hp; rw [List.all_cons, Bool.and_eq_true] at hp; exact hp
    rw [encI_cons]
    intro hm
    rcases List.mem_append.1 hm with hm | hm
    · have h1 := (isPtI_iff q).1 hp'.1
      refine enc_no45 (q := q.toNat) ?_ ((U.isPt_iff _).2 (by omega)) hm
      intro e
      have : q = 45 := by omega
      exact h (by rw [this]; exact List.mem_cons_self)
    · exact encI_no45 r hp'.2 (fun hh => h (List.mem_cons_of_mem _ hh)) hm
theorem encI_jn : ∀ (L : List (List Int)), encI (jn 45 L) = jn 45 (L.map encI)
  | [] => rfl
  | [x] => by simp [jn]
  | x :: y :: r => by
    rw [List.map_cons, List.map_cons, jn_cons2, jn_cons2, encI_append, encI_cons, encI_jn (y :: r)]
    rfl
theorem encI_flat (L : List (List Int)) : encI L.flatten = (L.map encI).flatten := by
  induction L with
  | nil => rfl
  | cons x r ih => rw [List.flatten_cons, encI_append, ih]; rfl
theorem letsP_iff {l : List UInt8} : letsP l = true ↔ (U.bad l).isEmpty = true ∧ (ptsI l).all letC = true := by unfold letsP; rw [Bool.and_eq_true]
theorem encI_valid {l : List UInt8} (h : (U.bad l).isEmpty = true) : encI (ptsI l) = l := by rw [encI_pts, ← U.of_valid _ (by simpa using h)]
theorem let_no45 {p : List Int} (h : p.all letC = true) : (45 : Int) ∉ p := fun hm => (letC_num (List.all_eq_true.1 h _ hm)).2.2.1 rfl
theorem okI_jn : ∀ (L : List (List Int)), (∀ p, p ∈ L → okI p = true) → okI (jn 45 L) = true
  | [], _ => rfl
  | [x], h => by simpa [jn] using h x List.mem_cons_self
  | x :: y :: r, h => by
    rw [jn_cons2]
    unfold okI
    rw [List.all_append, List.all_cons, Bool.and_eq_true, Bool.and_eq_true]
    exact ⟨h x List.mem_cons_self, rfl, okI_jn (y :: r) (fun p hp => h p (List.mem_cons_of_mem _ hp))⟩
theorem ex_yes {t : List UInt8} (h : ∀ x, x ∈ sp 45 t → letsP x = true ∧ ptsI x ≠ []) : exP t = exC ((sp 45 t).map ptsI) ∧ (sp 45 t).flatten = encI ((sp 45 t).map ptsI).flatten := by
  have hv : ((sp 45 t).map ptsI).map encI = sp 45 t := by
    rw [List.map_map]
    conv => rhs; rw [← List.map_id (sp 45 t)]
    exact List.map_congr_left fun x hx => encI_valid (letsP_iff.1 (h x hx).1).1
  have ht : t = encI (jn 45 ((sp 45 t).map ptsI)) := by rw [encI_jn, hv, jn_sp]
  have hok : okI (jn 45 ((sp 45 t).map ptsI)) = true := okI_jn _ (fun p hp => by
    obtain ⟨x, _, rfl⟩ := List.mem_map.1 hp
    exact okI_pts x)
  obtain ⟨h1, h2⟩ := pts_make _ hok
  rw [← ht] at h1 h2
  have hs : sp 45 (ptsI t) = (sp 45 t).map ptsI := by
    rw [h1]
    exact sp_jn _ _ (by simpa using sp_ne 45 t) (fun p hp => by
      obtain ⟨x, hx, rfl⟩ := List.mem_map.1 hp
      exact let_no45 (letsP_iff.1 (h x hx).1).2)
  refine ⟨?_, by rw [encI_flat, hv]⟩
  unfold exP
  rw [h2, hs, Bool.true_and, if_pos]
  unfold exok
  rw [List.all_eq_true]
  intro p hp
  obtain ⟨x, hx, rfl⟩ := List.mem_map.1 hp
  rw [(letsP_iff.1 (h x hx).1).2, Bool.and_true]
  have := (h x hx).2
  cases hh : ptsI x with
  | nil => exact absurd hh this
  | cons => rfl
theorem ex_no {t : List UInt8} {x : List UInt8} (hx : x ∈ sp 45 t) (h : letsP x = false ∨ ptsI x = []) : exP t = ([], [], false) := by
  unfold exP
  rw [if_neg]
  intro hc
  rw [Bool.and_eq_true] at hc
  obtain ⟨hv, hok⟩ := hc
  have hmem : ∀ p, p ∈ sp 45 (ptsI t) → okI p = true := fun p hp => by
    unfold okI
    rw [List.all_eq_true]
    intro q hq
    have := okI_pts t
    unfold okI at this
    exact List.all_eq_true.1 this q (sp_mem 45 _ p hp q hq)
  have ht : t = jn 45 ((sp 45 (ptsI t)).map encI) := by
    rw [← encI_jn, jn_sp, encI_valid hv]
  have hs : sp 45 t = (sp 45 (ptsI t)).map encI := by
    conv => lhs; rw [ht]
    exact sp_jn _ _ (by simpa using sp_ne 45 (ptsI t)) (fun p hp => by
      obtain ⟨y, hy, rfl⟩ := List.mem_map.1 hp
      exact encI_no45 y (hmem y hy) (sp_free 45 _ y hy))
  rw [hs] at hx
  obtain ⟨y, hy, rfl⟩ := List.mem_map.1 hx
  have hy2 := List.all_eq_true.1 hok y hy
  rw [Bool.and_eq_true] at hy2
  obtain ⟨h1, h2⟩ := pts_make y (hmem y hy)
  rcases h with h | h
  · have : letsP (encI y) = true := letsP_iff.2 ⟨h2, by rw [h1]; exact hy2.2⟩
    rw [this] at h
    cases h
  · rw [h1] at h
    rw [h] at hy2
    cases hy2.1

/-! ### the same, read from left to right -/
def okD : Bool → List Int → Bool
  | pd, [] => !pd
  | pd, c :: r => if c = 45 then !pd && okD true r else letC c && okD false r
def dash : Nat → List Int → List Int
  | _, [] => []
  | n, c :: r => if c = 45 then (n : Int) :: dash n r else dash (n + 1) r
def noD (l : List Int) : List Int := l.filter (fun c => !decide (c = 45))
theorem hd_cons {α : Type} (x : List α) (l : List (List α)) : (x :: l).head! = x := rfl
theorem okD_go : ∀ (l : List Int), okD true l = exok (sp 45 l) ∧ okD false l = ((sp 45 l).head!.all letC && exok (sp 45 l).tail)
  | [] => ⟨rfl, rfl⟩
  | c :: r => by
    obtain ⟨i1, i2⟩ := okD_go r
    obtain ⟨h, t, e⟩ := sp_cons 45 r
    rw [e] at i1 i2
    by_cases hc : c = 45
    · subst hc
      rw [sp_hit, e]
      simp only [okD, if_true, i1]
      exact ⟨by simp [exok], by simp [hd_cons]⟩
    · rw [sp_go _ hc, e]
      simp only [okD, if_neg hc, i2]
      exact ⟨by simp [exok, Bool.and_assoc, hd_cons], by simp [Bool.and_assoc, hd_cons]⟩
theorem okD_ex (l : List Int) : okD true l = exok (sp 45 l) := (okD_go l).1
theorem okD_last : ∀ (pd : Bool) (l : List Int), okD pd (l ++ [45]) = false
  | pd, [] => by simp [okD]
  | pd, c :: r => by
    show okD pd (c :: (r ++ [45])) = false
    unfold okD
    split
    · rw [okD_last]; simp
    · rw [okD_last]; simp
theorem sp_flat : ∀ (l : List Int), (sp 45 l).flatten = noD l
  | [] => rfl
  | c :: r => by
    have ih := sp_flat r
    obtain ⟨h, t, e⟩ := sp_cons 45 r
    by_cases hc : c = 45
    · subst hc
      rw [sp_hit, List.flatten_cons, ih]; simp [noD]
    · rw [sp_go _ hc, e]
      rw [e] at ih
      show (c :: h) ++ t.flatten = _
      unfold noD
      rw [List.filter_cons_of_pos (by simpa using hc)]
      exact congrArg (c :: ·) ih
theorem dash_cum : ∀ (l : List Int) (n : Nat), (cumP n (sp 45 l)).tail = dash n l
  | [], n => rfl
  | c :: r, n => by
    obtain ⟨h, t, e⟩ := sp_cons 45 r
    by_cases hc : c = 45
    · subst hc
      have ih := dash_cum r n
      rw [sp_hit]
      rw [e] at ih ⊢
      simp only [dash, if_true]
      show cumP (n + 0) (h :: t) = _
      rw [Nat.add_zero, ← ih]
      rfl
    · rw [sp_go _ hc, e]
      have ih := dash_cum r (n + 1)
      rw [e] at ih
      simp only [dash, if_neg hc]
      rw [← ih]
      show cumP (n + (h.length + 1)) t = cumP (n + 1 + h.length) t
      rw [show n + (h.length + 1) = n + 1 + h.length from by omega]
theorem exP_eq (t : List UInt8) : exP t = if ((U.bad t).isEmpty && okD true (ptsI t)) = true then (encI (noD (ptsI t)), dash 0 (ptsI t), decide ((noD (ptsI t)).length ≤ 64)) else ([], [], false) := by
  unfold exP exC
  rw [okD_ex, sp_flat, dash_cum]
end Go.Proofs.YtdcdlmigagjbiaaDoor
/- WriteByte and Split at this program's numbers. -/
namespace Go.Proofs.YtdcdlmigagjbiaaDoor
open Go.RowKit Go.Shelf
def ren167 : Go.Shelf.Ren := ⟨fun | 167 => 40 | 240 => 53 | 276 => 59 | n => n, fun | 0 => 0 | 3 => 3 | 4 => 4 | 5 => 5 | 9 => 9 | 20 => 20 | 37 => 76 | 70 => 75 | 72 => 78 | 75 => 80 | 80 => 85 | 164 => 98 | n => n, fun | n => n⟩
theorem lays167 : Go.Proofs.Lays.n167 Tryd.prog ren167 := {
  mixed := by kernel_rfl
  f167 := Tryd.func40.trans (congrArg some (by kernel_rfl))
  f240 := Tryd.func53.trans (congrArg some (by kernel_rfl))
  f276 := Tryd.func59.trans (congrArg some (by kernel_rfl))
  t0 := Tryd.underlying0
  a0 := Tryd.isAgg0
  z0 := Tryd.sizeOf0
  v0 := Tryd.zeroValue0
  t4 := Tryd.underlying4
  a4 := Tryd.isAgg4
  z4 := Tryd.sizeOf4
  v4 := Tryd.zeroValue4
  t5 := Tryd.underlying5
  a5 := Tryd.isAgg5
  z5 := Tryd.sizeOf5
  v5 := Tryd.zeroValue5
  t9 := Tryd.underlying9
  a9 := Tryd.isAgg9
  z9 := Tryd.sizeOf9
  v9 := Tryd.zeroValue9
  t20 := Tryd.underlying20
  a20 := Tryd.isAgg20
  z20 := Tryd.sizeOf20
  v20 := Tryd.zeroValue20
  t37 := Tryd.underlying76
  a37 := Tryd.isAgg76
  z37 := Tryd.sizeOf76
  v37 := Tryd.zeroValue76
  t70 := Tryd.underlying75
  a70 := Tryd.isAgg75
  z70 := Tryd.sizeOf75
  v70 := Tryd.zeroValue75
  t72 := Tryd.underlying78
  a72 := Tryd.isAgg78
  z72 := Tryd.sizeOf78
  v72 := Tryd.zeroValue78
  t75 := Tryd.underlying80
  a75 := Tryd.isAgg80
  z75 := Tryd.sizeOf80
  v75 := Tryd.zeroValue80
  t164 := Tryd.underlying98
  a164 := Tryd.isAgg98
  z164 := Tryd.sizeOf98
  v164 := Tryd.zeroValue98
}
theorem extra167 : Builder.Extra Tryd.prog ren167 := {
  sizeBuilder := by kernel_rfl
  liesBuilder := by kernel_rfl
  t5 := Tryd.underlying5
  a5 := Tryd.isAgg5
  z5 := Tryd.sizeOf5
  v5 := Tryd.zeroValue5
  infoByte := by kernel_rfl
  cellsByte := by kernel_rfl
  sizeByte := by kernel_rfl
  neB5 := by decide }

theorem writeByte_any (B b : Nat) (bs : List Value) (c : Int) (w : World) (h : Lib.IsBuilder 78 5 B b bs w) (hlen : bs.length + 1 ≤ 140737488355328) (hBw : B ≤ w.heap.size) :
    Calls Tryd.prog 40 #[.pointer (some ⟨b, 0, none⟩), .int .u8 c] w fun e w' => e = .returned .nilIface ∧ (Lib.BuilderAt 78 5 B b (.pointer (some ⟨b, 0, none⟩)) (bs ++ [.int .u8 c]) w' ∧ Below B w w') := Any.Builder_WriteByte lays167 extra167 B b bs c w h hlen hBw
/-- the pieces of a string at the hyphens -/
def piecesB (s : ByteArray) : List ByteArray := Lib.splitB ⟨#[45]⟩ 0 (Lib.countB s ⟨#[45]⟩) s
theorem countB_one (s : ByteArray) : Lib.countB s ⟨#[45]⟩ = s.data.toList.count 45 := Lib.count_one 45 _
theorem pieces_sp (s : ByteArray) : (piecesB s).map (·.data.toList) = sp 45 s.data.toList := by
  unfold piecesB
  rw [Lib.splitB_data, countB_one]
  exact splitK_sp 45 _ _ rfl
theorem pieces_len (s : ByteArray) : (piecesB s).length = Lib.countB s ⟨#[45]⟩ + 1 := Lib.splitB_all ⟨#[45]⟩ (by decide) 0 _ s rfl
set_option maxHeartbeats 1000000 in
theorem split_any (s : ByteArray) (w : World) (hs : s.size < 4294967281) :
    Calls Tryd.prog 56 #[.string s, .string ⟨#[45]⟩] w fun e w' =>
      e = .returned (.slice (some ⟨w.heap.size, 0, none⟩) (piecesB s).length (piecesB s).length) ∧ w' = w.alloc (.cells ((piecesB s).map Value.string).toArray 9) := by
  have hle := Lib.countB_le ⟨#[45]⟩ (by decide) s.size s (Nat.le_refl _)
  have hlen := pieces_len s
  have c := Any.strings_genSplit_core Tryd.lays221 (by kernel_rfl) s ⟨#[45]⟩ 0 (-1) (Lib.countB s ⟨#[45]⟩ + 1) w hs (by decide) (Nat.zero_le _)
    (fun x c hx => (Tryd.strings_Index_one x 45 _).mono (fun e w' h => ⟨by rw [h.1]; exact congrArg (fun n => Ending.returned (.int .i64 n)) (Lib.index_one _ _).symm, h.2⟩))
    ((Tryd.strings_Count_one s 45 w).mono (fun e w' h => ⟨by rw [h.1, countB_one]; rfl, h.2⟩)) (by decide) (by decide) (by rw [if_pos (by decide)]; omega)
  rw [Nat.add_sub_cancel] at c
  have e2 : Lib.cellsOf (piecesB s) (Lib.countB s ⟨#[45]⟩ + 1) = ((piecesB s).map Value.string).toArray := by rw [← hlen]; exact Lib.cellsOf_full _
  unfold piecesB at e2 hlen
  rw [e2] at c
  rw [← hlen] at c
  have C := Lib.hid c
  clear c e2 hlen hle
  go_enter Tryd.func56, Tryd.ntmps56
  go_wp2_with (go_at_call 60; refine C.out.mono ?_; rintro e w' ⟨rfl, rfl⟩)
  go_ret
  exact ⟨rfl, rfl⟩
theorem sclone_any (s : ByteArray) (w : World) (hlim : s.size ≤ 281474976710656) :
    Calls Tryd.prog 37 #[.string s] w fun e w' => e = .returned (.string s) ∧ Below w.heap.size w w' := by
  go_enter Tryd.func37, Tryd.ntmps37
  go_wp2_with (go_at_call 50; refine (liteClone_any s _ hlim).mono ?_; rintro e w' ⟨rfl, hb⟩)
  go_ret
  exact ⟨rfl, hb⟩
end Go.Proofs.YtdcdlmigagjbiaaDoor
/- Points, letters, Fold, Make at lists of bytes; a pattern in memory; the printed body, plain. -/
namespace Go.Proofs.YtdcdlmigagjbiaaDoor
open Go.RowKit
theorem ba_data (l : List UInt8) : (⟨l.toArray⟩ : ByteArray).data.toList = l := rfl
theorem ba_size (l : List UInt8) : (⟨l.toArray⟩ : ByteArray).size = l.length := by simp [ByteArray.size]
/-- Points of a string that is not valid -/
theorem pts_bad {l : List UInt8} (h : (U.bad l).isEmpty = false) (hs : l.length ≤ 4294967296) (w : World) :
    Calls Tryd.prog 38 #[.string ⟨l.toArray⟩] w fun e w' => e = .returned (.tuple #[.slice none 0 0, .int .i64 12]) ∧ Below w.heap.size w w' := by
  refine (points_any ⟨l.toArray⟩ (by rw [ba_size]; exact hs) w).mono ?_
  rintro e w' ⟨v, he, hb, hv⟩
  rw [ba_data, h] at he hv
  exact ⟨by rw [he, show v = _ from hv]; rfl, hb⟩
/-- .. of a valid string -/
theorem pts_ok {l : List UInt8} (h : (U.bad l).isEmpty = true) (hs : l.length ≤ 4294967296) (w : World) :
    Calls Tryd.prog 38 #[.string ⟨l.toArray⟩] w fun e w' => ∃ ao cap, e = .returned (.tuple #[.slice ao (ptsI l).length cap, .int .i64 0]) ∧ Below w.heap.size w w' ∧ Hid (IntRow w' w.heap.size (.slice ao (ptsI l).length cap) (ptsI l)) := by
  refine (points_any ⟨l.toArray⟩ (by rw [ba_size]; exact hs) w).mono ?_
  rintro e w' ⟨v, he, hb, hv⟩
  rw [ba_data, h] at he hv
  have hv' : IntRow w' w.heap.size v (ptsI l) := hv
  obtain ⟨ao, cap, rfl⟩ := row_slice hv'
  exact ⟨ao, cap, he, hb, Lib.hid hv'⟩
theorem lets_at (l : List UInt8) (hs : l.length ≤ 4294967296) (w : World) :
    Calls Tryd.prog 39 #[.string ⟨l.toArray⟩] w fun e w' => ∃ v, e = .returned (.tuple #[v, .bool (letsP l)]) ∧ Below w.heap.size w w' :=
  (letters_any ⟨l.toArray⟩ (by rw [ba_size]; exact hs) w).mono fun e w' ⟨v, he, hb, _⟩ => ⟨v, he, hb⟩
theorem lets2_at (l : List UInt8) (hs : l.length ≤ 4294967296) (w : World) :
    Calls Tryd.prog 44 #[.string ⟨l.toArray⟩] w fun e w' => ∃ v, e = .returned (.tuple #[v, .bool (letsP l)]) ∧ Below w.heap.size w w' :=
  (letters2_any ⟨l.toArray⟩ (by rw [ba_size]; exact hs) w).mono fun e w' ⟨v, he, hb, _⟩ => ⟨v, he, hb⟩
/-- letters of a string of letters -/
theorem lets_yes {l : List UInt8} (h : letsP l = true) (hs : l.length ≤ 4294967296) (w : World) :
    Calls Tryd.prog 39 #[.string ⟨l.toArray⟩] w fun e w' => ∃ ao cap, e = .returned (.tuple #[.slice ao (ptsI l).length cap, .bool true]) ∧ Below w.heap.size w w' ∧ Hid (IntRow w' w.heap.size (.slice ao (ptsI l).length cap) (ptsI l)) := by
  refine (letters_any ⟨l.toArray⟩ (by rw [ba_size]; exact hs) w).mono ?_
  rintro e w' ⟨v, he, hb, hv⟩
  rw [ba_data] at he hv
  rw [if_pos h] at hv
  obtain ⟨ao, cap, rfl⟩ := row_slice hv
  exact ⟨ao, cap, by rw [he, h], hb, Lib.hid hv⟩
theorem lets2_yes {l : List UInt8} (h : letsP l = true) (hs : l.length ≤ 4294967296) (w : World) :
    Calls Tryd.prog 44 #[.string ⟨l.toArray⟩] w fun e w' => ∃ ao cap, e = .returned (.tuple #[.slice ao (ptsI l).length cap, .bool true]) ∧ Below w.heap.size w w' ∧ Hid (IntRow w' w.heap.size (.slice ao (ptsI l).length cap) (ptsI l)) := by
  refine (letters2_any ⟨l.toArray⟩ (by rw [ba_size]; exact hs) w).mono ?_
  rintro e w' ⟨v, he, hb, hv⟩
  rw [ba_data] at he hv
  rw [if_pos h] at hv
  obtain ⟨ao, cap, rfl⟩ := row_slice hv
  exact ⟨ao, cap, by rw [he, h], hb, Lib.hid hv⟩
theorem lets_no {l : List UInt8} (h : letsP l = false) (hs : l.length ≤ 4294967296) (w : World) :
    Calls Tryd.prog 39 #[.string ⟨l.toArray⟩] w fun e w' => e = .returned (.tuple #[.slice none 0 0, .bool false]) ∧ Below w.heap.size w w' := by
  refine (letters_any ⟨l.toArray⟩ (by rw [ba_size]; exact hs) w).mono ?_
  rintro e w' ⟨v, he, hb, hv⟩
  rw [ba_data] at he hv
  rw [if_neg (by rw [h]; simp)] at hv
  exact ⟨by rw [he, h, hv], hb⟩
theorem lets2_no {l : List UInt8} (h : letsP l = false) (hs : l.length ≤ 4294967296) (w : World) :
    Calls Tryd.prog 44 #[.string ⟨l.toArray⟩] w fun e w' => e = .returned (.tuple #[.slice none 0 0, .bool false]) ∧ Below w.heap.size w w' := by
  refine (letters2_any ⟨l.toArray⟩ (by rw [ba_size]; exact hs) w).mono ?_
  rintro e w' ⟨v, he, hb, hv⟩
  rw [ba_data] at he hv
  rw [if_neg (by rw [h]; simp)] at hv
  exact ⟨by rw [he, h, hv], hb⟩
theorem fold_at (l : List UInt8) (hs : l.length ≤ 4294967296) (w : World) :
    Calls Tryd.prog 29 #[.string ⟨l.toArray⟩] w fun e w' => e = .returned (.string ⟨(foldP l).toArray⟩) ∧ Below w.heap.size w w' :=
  fold_any ⟨l.toArray⟩ (by rw [ba_size]; exact hs) w
/-- Make of one point of a row of points -/
theorem make_one {w : World} {v : Value} {b off c : Nat} {z : Int} (hz : isPtI z = true) (hv : v = .slice (some ⟨b, off, none⟩) 1 c) (hc : 1 ≤ c ∧ c ≤ maxLen) (hlt : b < w.heap.size) (hcell : w.cell? ⟨b, off, none⟩ = some (.int .i64 z)) :
    Calls Tryd.prog 41 #[v] w fun e w' => e = .returned (.tuple #[.string ⟨(U.enc z.toNat).toArray⟩, .int .i64 0]) ∧ Below w.heap.size w w' := by
  have hi : Ints w v [z] := ⟨some ⟨b, off, none⟩, c, hv, hc.1, hc.2, fun _ => ⟨b, off, rfl, hlt, fun j hj => by
    have : j = 0 := by simp at hj; exact hj
    subst this
    exact hcell⟩⟩
  refine (make_any v [z] w (by simp) hi).mono ?_
  rintro e w' ⟨he, hb⟩
  have hm : makeP [z] = (U.enc z.toNat, 0) := by
    unfold makeP
    rw [show okI [z] = true from by simp [okI, hz]]
    simp [encI, U.encs]
  rw [hm] at he
  exact ⟨he, hb⟩
theorem below_drewN {B : Nat} {a w : World} (h : Below B a w) (n : Nat) : Below B a (w.drewN n) := ⟨h.os, h.tape, h.output, h.size, h.block⟩
theorem below_undrewN {B n : Nat} {a w : World} (h : Below B (a.drewN n) w) : Below B a w := ⟨h.os, h.tape, h.output, h.size, h.block⟩
/-- the four cells of a pattern -/
theorem Blk.four {w : World} {g : Nat} {t : TypeId} {a b c d : Value} (h : Blk w g t #[a, b, c, d]) : w.cell? ⟨g, 0, none⟩ = some a ∧ w.cell? ⟨g, 1, none⟩ = some b ∧ w.cell? ⟨g, 2, none⟩ = some c ∧ w.cell? ⟨g, 3, none⟩ = some d :=
  ⟨h.cell 0, h.cell 1, h.cell 2, h.cell 3⟩
theorem builder_below {T e : TypeId} {B b : Nat} {bs : List Value} {w w' : World} (h : Lib.IsBuilder T e B b bs w) (hb : Below w.heap.size w w') : Lib.IsBuilder T e B b bs w' := by
  have go : ∀ p, Lib.BuilderAt T e B b p bs w → Lib.BuilderAt T e B b p bs w' := by
    rintro p ⟨h1, v, h2, h3, h4⟩
    exact ⟨h1, v, (hb.block b (Array.getElem?_eq_some_iff.1 h2).1).trans h2, row_turn h3 (Turn.ofBelow (F := []) hb (Nat.le_refl _)) (fun _ _ => by simp), h4⟩
  rcases h with h | h
  · exact .inl (go _ h)
  · exact .inr (go _ h)

theorem used_builder {T e : TypeId} {B b : Nat} {bs : List Value} {w : World} (h : Lib.BuilderAt T e B b (.pointer (some ⟨b, 0, none⟩)) bs w) : Lib.IsBuilder T e B b bs w := Or.inr h

/-! ### the printed body, step by step -/
theorem body_snoc : ∀ (ns ps : List Int) (k : Nat), k < ns.length → bodyB (ns.take (k + 1)) ps = bodyB (ns.take k) ps ++ (digB (ns.getD k 0) ++ (if k < ps.length then U.enc (ps.getD k 0).toNat else []))
  | n :: ns, [], 0, _ => by simp [bodyB]
  | n :: ns, p :: ps, 0, _ => by simp [bodyB]
  | n :: ns, [], k + 1, h => by
    have ih := body_snoc ns [] k (by simpa using h)
    simp only [List.take_succ_cons, bodyB, List.getD_cons_succ, ih]
    simp
  | n :: ns, p :: ps, k + 1, h => by
    have ih := body_snoc ns ps k (by simpa using h)
    simp only [List.take_succ_cons, bodyB, List.getD_cons_succ, ih]
    simp
theorem byteCells_append (a b : List UInt8) : Lib.byteCells (a ++ b) = Lib.byteCells a ++ Lib.byteCells b := by simp [Lib.byteCells]
theorem dig_cells {z : Int} (h : 0 < z) (h9 : ¬ 9 < z) : Lib.byteCells (digB z) = [.int .u8 (48 + z)] := by
  unfold digB
  rw [if_pos h]
  show [Value.int .u8 ((UInt8.ofNat (48 + z.toNat)).toNat : Int)] = _
  rw [byteCell (48 + z.toNat) (48 + z) (by omega) (by omega)]
theorem dig_none {z : Int} (h : ¬ 0 < z) : digB z = [] := by unfold digB; rw [if_neg h]
theorem dig_len (n : Int) : (digB n).length ≤ 1 := by unfold digB; split <;> simp
theorem body_len (ns ps : List Int) : ∀ k, k ≤ ns.length → (bodyB (ns.take k) ps).length ≤ 5 * k
  | 0, _ => by simp [bodyB]
  | k + 1, h => by
    have ih := body_len ns ps k (by omega)
    rw [body_snoc ns ps k (by omega), List.length_append, List.length_append]
    have h1 := dig_len (ns.getD k 0)
    have h2 : (if k < ps.length then U.enc (ps.getD k 0).toNat else ([] : List UInt8)).length ≤ 4 := by
      split
      · rw [U.enc_length]; exact (U.esize_pos _).2
      · simp
    omega
theorem lv_no {ns : List Int} {k : Nat} (h : k < ns.length) (hk : lvOk (ns.getD k 0) = false) : ns.all lvOk = false := by
  rw [List.all_eq_false]
  refine ⟨ns[k], List.getElem_mem h, ?_⟩
  rw [List.getD_eq_getElem?_getD, List.getElem?_eq_getElem h] at hk
  simpa using hk
theorem lv_yes {ns : List Int} (h : ∀ k, k < ns.length → lvOk (ns.getD k 0) = true) : ns.all lvOk = true := by
  rw [List.all_eq_true]
  intro x hx
  obtain ⟨k, hk, rfl⟩ := List.mem_iff_getElem.1 hx
  have := h k hk
  rwa [List.getD_eq_getElem?_getD, List.getElem?_eq_getElem hk] at this
/-- what Print leaves -/
def PrintPost (P : Pat) (w : World) (e : Ending) (w' : World) : Prop :=
  e = .returned (.tuple #[.string ⟨(printP P).2.toArray⟩, .int .i64 ((printP P).1 : Int)]) ∧ Below w.heap.size w w'
theorem printPost {P : Pat} {w w' : World} {n : Nat} {t : List UInt8} (h : printP P = (n, t)) (hb : Below w.heap.size w w') : PrintPost P w (.returned (.tuple #[.string ⟨t.toArray⟩, .int .i64 (n : Int)])) w' := ⟨by rw [h], hb⟩
theorem printP_bad {P : Pat} (h : (U.bad P.letters).isEmpty = false) : printP P = (12, []) := by unfold printP; rw [if_pos h]
theorem printP_empty {P : Pat} (h : (U.bad P.letters).isEmpty = true) (h0 : (ptsI P.letters).length = 0) : printP P = (11, []) := by
  unfold printP; rw [if_neg (by rw [h]; simp), if_pos (List.eq_nil_of_length_eq_zero h0)]
theorem printP_long {P : Pat} (h : (U.bad P.letters).isEmpty = true) (h0 : 40 < (ptsI P.letters).length) : printP P = (10, []) := by
  unfold printP; rw [if_neg (by rw [h]; simp), if_neg (by intro e; rw [e] at h0; simp at h0), if_pos h0]
theorem printP_syn {P : Pat} (h : (U.bad P.letters).isEmpty = true) (h0 : (ptsI P.letters).length ≠ 0) (h1 : ¬ 40 < (ptsI P.letters).length) (h2 : letsP P.letters = false ∨ foldP P.letters ≠ P.letters) : printP P = (14, []) := by
  unfold printP; rw [if_neg (by rw [h]; simp), if_neg (by intro e; rw [e] at h0; exact h0 rfl), if_neg h1, if_pos h2]
theorem printP_form {P : Pat} (h : (U.bad P.letters).isEmpty = true) (h0 : (ptsI P.letters).length ≠ 0) (h1 : ¬ 40 < (ptsI P.letters).length) (h2 : letsP P.letters = true) (h3 : foldP P.letters = P.letters) (h4 : P.levels.length ≠ (ptsI P.letters).length + 1) : printP P = (15, []) := by
  unfold printP; rw [if_neg (by rw [h]; simp), if_neg (by intro e; rw [e] at h0; exact h0 rfl), if_neg h1, if_neg (by rw [h2, h3]; simp), if_pos h4]
theorem printP_range {P : Pat} (h : (U.bad P.letters).isEmpty = true) (h0 : (ptsI P.letters).length ≠ 0) (h1 : ¬ 40 < (ptsI P.letters).length) (h2 : letsP P.letters = true) (h3 : foldP P.letters = P.letters) (h4 : P.levels.length = (ptsI P.letters).length + 1) (h5 : P.levels.all lvOk = false) : printP P = (2, []) := by
  unfold printP; rw [if_neg (by rw [h]; simp), if_neg (by intro e; rw [e] at h0; exact h0 rfl), if_neg h1, if_neg (by rw [h2, h3]; simp), if_neg (by simpa using h4), if_pos h5]
theorem printP_ok {P : Pat} (h : (U.bad P.letters).isEmpty = true) (h0 : (ptsI P.letters).length ≠ 0) (h1 : ¬ 40 < (ptsI P.letters).length) (h2 : letsP P.letters = true) (h3 : foldP P.letters = P.letters) (h4 : P.levels.length = (ptsI P.letters).length + 1) (h5 : P.levels.all lvOk = true) : printP P = (0, dotB P.beg ++ bodyB P.levels (ptsI P.letters) ++ dotB P.fin) := by
  unfold printP; rw [if_neg (by rw [h]; simp), if_neg (by intro e; rw [e] at h0; exact h0 rfl), if_neg h1, if_neg (by rw [h2, h3]; simp), if_neg (by simpa using h4), if_neg (by rw [h5]; simp)]
end Go.Proofs.YtdcdlmigagjbiaaDoor
/- Levels and points, plain. -/
namespace Go.Proofs.YtdcdlmigagjbiaaDoor

/-- whether a pattern matches at a place -/
def matchB (l : List Int) (P : Pat) (at_ : Nat) : Bool :=
  decide (at_ + (ptsI P.letters).length ≤ l.length) && ((l.drop at_).take (ptsI P.letters).length == ptsI P.letters) && (!P.beg || at_ == 0) && (!P.fin || at_ + (ptsI P.letters).length == l.length)
/-- out holds, at each place, the greatest of what C says of the place, or 0 -/
def LvS (C : Nat → Int → Prop) (out : List Int) : Prop := ∀ j x, out[j]? = some x → (x = 0 ∨ C j x) ∧ 0 ≤ x ∧ ∀ y, C j y → y ≤ x
theorem LvS.congr {C D : Nat → Int → Prop} {out : List Int} (h : LvS C out) (e : ∀ j y, C j y ↔ D j y) : LvS D out := by
  intro j x hx
  obtain ⟨h1, h2, h3⟩ := h j x hx
  exact ⟨h1.imp id (fun k => (e j x).1 k), h2, fun y hy => h3 y ((e j y).2 hy)⟩
theorem LvS.zero (n : Nat) {C : Nat → Int → Prop} (h : ∀ j y, ¬ C j y) : LvS C (List.replicate n 0) := by
  intro j x hx
  rw [List.getElem?_replicate] at hx
  split at hx
  · obtain rfl := Option.some.inj hx
    exact ⟨.inl rfl, Int.le_refl _, fun y hy => absurd hy (h j y)⟩
  · cases hx
theorem LvS.step {C : Nat → Int → Prop} {out : List Int} (h : LvS C out) {j : Nat} {x : Int} (hj : out[j]? = some x) (y : Int) {D : Nat → Int → Prop} (e : ∀ i z, D i z ↔ C i z ∨ (i = j ∧ z = y)) : LvS D (out.set j (max x y)) := by
  intro i z hz
  obtain ⟨h1, h2, h3⟩ := h j x hj
  rw [List.getElem?_set] at hz
  split at hz
  · rename_i hij
    subst hij
    split at hz
    · obtain rfl := Option.some.inj hz
      refine ⟨?_, by omega, fun u hu => ?_⟩
      · rcases Int.le_total x y with hle | hle
        · rw [Int.max_eq_right hle]; exact .inr ((e _ _).2 (.inr ⟨rfl, rfl⟩))
        · rw [Int.max_eq_left hle]; exact h1.imp id (fun k => (e _ _).2 (.inl k))
      · rcases (e _ _).1 hu with hu | ⟨_, rfl⟩
        · have := h3 u hu; omega
        · omega
    · cases hz
  · rename_i hij
    obtain ⟨k1, k2, k3⟩ := h i z hz
    refine ⟨k1.imp id (fun k => (e _ _).2 (.inl k)), k2, fun u hu => ?_⟩
    rcases (e _ _).1 hu with hu | ⟨hi, _⟩
    · exact k3 u hu
    · exact absurd hi.symm hij
theorem LvS.uniq {C : Nat → Int → Prop} {a b : List Int} (ha : LvS C a) (hb : LvS C b) (hl : a.length = b.length) : a = b := by
  apply List.ext_getElem hl
  intro i h1 h2
  obtain ⟨a1, a2, a3⟩ := ha i a[i] (List.getElem?_eq_getElem h1)
  obtain ⟨b1, b2, b3⟩ := hb i b[i] (List.getElem?_eq_getElem h2)
  have hab : a[i] ≤ b[i] := by
    rcases a1 with e | e
    · omega
    · exact b3 _ e
  have hba : b[i] ≤ a[i] := by
    rcases b1 with e | e
    · omega
    · exact a3 _ e
  omega
/-- what the patterns of a list say of a place -/
def allC (pats : List Pat) (l : List Int) (j : Nat) (y : Int) : Prop := ∃ P, P ∈ pats ∧ ∃ at_ k, matchB l P at_ = true ∧ at_ + k = j ∧ P.levels[k]? = some y
def sayAt (pats : List Pat) (l : List Int) (j : Nat) : List Int := pats.flatMap fun P => (List.range (j + 1)).filterMap fun at_ => if matchB l P at_ then P.levels[j - at_]? else none
def levelsP (pats : List Pat) (l : List Int) : List Int := (List.range (l.length + 1)).map fun j => (sayAt pats l j).foldl max 0
theorem sayAt_mem (pats : List Pat) (l : List Int) (j : Nat) (y : Int) : y ∈ sayAt pats l j ↔ allC pats l j y := by
  unfold sayAt allC
  rw [List.mem_flatMap]
  constructor
  · rintro ⟨P, hP, h⟩
    obtain ⟨a, ha, h⟩ := List.mem_filterMap.1 h
    rw [List.mem_range] at ha
    split at h
    · rename_i hm
      exact ⟨P, hP, a, j - a, hm, by omega, h⟩
    · cases h
  · rintro ⟨P, hP, a, k, hm, rfl, h⟩
    refine ⟨P, hP, List.mem_filterMap.2 ⟨a, List.mem_range.2 (by omega), ?_⟩⟩
    rw [if_pos hm, show a + k - a = k from by omega]
    exact h
theorem foldl_max (l : List Int) : ∀ (a : Int), a ≤ l.foldl max a ∧ (l.foldl max a = a ∨ l.foldl max a ∈ l) ∧ ∀ y, y ∈ l → y ≤ l.foldl max a := by
  induction l with
  | nil => exact fun a => ⟨Int.le_refl _, .inl rfl, fun y h => by cases h⟩
  | cons x r ih =>
    intro a
    obtain ⟨i1, i2, i3⟩ := ih (max a x)
    have e2 : List.foldl max a (x :: r) = r.foldl max (max a x) := rfl
    rw [e2]
    refine ⟨by omega, ?_, fun y hy => ?_⟩
    · rcases i2 with e | e
      · rcases Int.le_total a x with hle | hle
        · rw [e, Int.max_eq_right hle]; exact .inr List.mem_cons_self
        · rw [e, Int.max_eq_left hle]; exact .inl rfl
      · exact .inr (List.mem_cons_of_mem _ e)
    · rcases List.mem_cons.1 hy with rfl | hy
      · omega
      · exact i3 y hy
theorem levelsP_len (pats : List Pat) (l : List Int) : (levelsP pats l).length = l.length + 1 := by simp [levelsP]
theorem levelsP_ok (pats : List Pat) (l : List Int) : LvS (allC pats l) (levelsP pats l) := by
  intro j x hx
  unfold levelsP at hx
  rw [List.getElem?_map] at hx
  cases hr : (List.range (l.length + 1))[j]? with
  | none => rw [hr] at hx; cases hx
  | some j' =>
    rw [hr] at hx
    have hj : j' = j := by
      rw [List.getElem?_range] at hr
      · exact (Option.some.inj hr).symm
      · have := (List.getElem?_eq_some_iff.1 hr).1
        simpa using this
    subst hj
    obtain rfl := Option.some.inj hx
    obtain ⟨h1, h2, h3⟩ := foldl_max (sayAt pats l j') 0
    exact ⟨h2.imp id (fun k => (sayAt_mem _ _ _ _).1 k), h1, fun y hy => h3 y ((sayAt_mem _ _ _ _).2 hy)⟩
theorem levelsP_uniq {pats : List Pat} {l out : List Int} (h : LvS (allC pats l) out) (hl : out.length = l.length + 1) : out = levelsP pats l := h.uniq (levelsP_ok pats l) (by rw [hl, levelsP_len])
/-- only which patterns there are matters -/
theorem levelsP_congr {ps qs : List Pat} (l : List Int) (h : ∀ P, P ∈ ps ↔ P ∈ qs) : levelsP ps l = levelsP qs l := by
  refine levelsP_uniq ((levelsP_ok ps l).congr fun j y => ?_) (levelsP_len _ _)
  exact ⟨fun ⟨P, h1, h2⟩ => ⟨P, (h P).1 h1, h2⟩, fun ⟨P, h1, h2⟩ => ⟨P, (h P).2 h1, h2⟩⟩
/-- the offsets of odd levels -/
def oddsG : Nat → List Int → List Int
  | _, [] => []
  | i, x :: r => if Int.tmod x 2 = 1 then (i : Int) :: oddsG (i + 1) r else oddsG (i + 1) r
/-- a hyphenator's state -/
structure HS where
  pats : List Pat
  exs : List (List UInt8 × List Int)
  left : Int
  right : Int
/-- the points listed for a word -/
def exLook : List (List UInt8 × List Int) → List UInt8 → Option (List Int)
  | [], _ => none
  | (w, p) :: r, x => match exLook r x with | some q => some q | none => if w = x then some p else none
/-- the letters of a folded word that can be divided -/
def wordP (t : List UInt8) : Option (List Int) := if letsP t = true ∧ 0 < (ptsI t).length ∧ (ptsI t).length ≤ 64 then some (ptsI t) else none
def keepP (left right n : Int) (p : Int) : Bool := decide (left ≤ p) && decide (p ≤ n - right)
def allP (st : HS) (t : List UInt8) (l : List Int) : List Int := match exLook st.exs t with | some p => p | none => oddsG 0 (levelsP st.pats l)
/-- what Points returns of a folded word -/
def pointsP (st : HS) (t : List UInt8) : List Int := match wordP t with | none => [] | some l => (allP st t l).filter (keepP st.left st.right l.length)
end Go.Proofs.YtdcdlmigagjbiaaDoor
