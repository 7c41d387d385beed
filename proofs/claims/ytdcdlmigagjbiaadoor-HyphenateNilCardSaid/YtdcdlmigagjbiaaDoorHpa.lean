/- Patterns, plain: letters, printing, parsing. -/
import Derived.Test.YtdcdlmigagjbiaaDoorLaw
import Derived.Test.YtdcdlmigagjbiaaDoorWkS
namespace Go.Proofs.YtdcdlmigagjbiaaDoor

/-- a letter -/
def letC (p : Int) : Bool := decide (32 < p) && !(p == 46) && !(p == 45) && !(decide (48 ≤ p) && decide (p ≤ 57))
/-- whether a string is of letters -/
def letsP (l : List UInt8) : Bool := (U.bad l).isEmpty && (ptsI l).all letC
def foldP (l : List UInt8) : List UInt8 := l.map fold1
/-- a pattern -/
structure Pat where
  letters : List UInt8
  levels : List Int
  beg : Bool
  fin : Bool
  deriving DecidableEq
def Pat.zero : Pat := ⟨[], [], false, false⟩
def digB (n : Int) : List UInt8 := if 0 < n then [UInt8.ofNat (48 + n.toNat)] else []
def lvOk (n : Int) : Bool := !(decide (n < 0) || decide (9 < n))
/-- levels and letters, in turn -/
def bodyB : List Int → List Int → List UInt8
  | [], _ => []
  | n :: ns, [] => digB n ++ bodyB ns []
  | n :: ns, p :: ps => digB n ++ (U.enc p.toNat ++ bodyB ns ps)
def dotB (b : Bool) : List UInt8 := if b then [46] else []
/-- what Print returns -/
def printP (P : Pat) : Nat × List UInt8 :=
  if (U.bad P.letters).isEmpty = false then (12, []) else
  if ptsI P.letters = [] then (11, []) else
  if 40 < (ptsI P.letters).length then (10, []) else
  if letsP P.letters = false ∨ foldP P.letters ≠ P.letters then (14, []) else
  if P.levels.length ≠ (ptsI P.letters).length + 1 then (15, []) else
  if P.levels.all lvOk = false then (2, []) else (0, dotB P.beg ++ bodyB P.levels (ptsI P.letters) ++ dotB P.fin)
/-- letters and levels of what stands between the dots -/
def parseGo : Int → List Int → List Int × List Int
  | lv, [] => ([], [lv])
  | lv, c :: r => if 48 ≤ c ∧ c ≤ 57 then parseGo (c - 48) r else (c :: (parseGo 0 r).1, lv :: (parseGo 0 r).2)
def hasB (l : List Int) : Bool := l.head? == some 46
def stripB (l : List Int) : List Int := if hasB l then l.tail else l
def hasE (l : List Int) : Bool := l.getLast? == some 46
def stripE (l : List Int) : List Int := if hasE l then l.dropLast else l
/-- the pattern that the points say, right or not -/
def patOf (l : List Int) : Pat := ⟨encI (parseGo 0 (stripE (stripB l))).1, (parseGo 0 (stripE (stripB l))).2, hasB l, hasE (stripB l)⟩
def parseP (s : List UInt8) : Nat × Pat :=
  if (U.bad s).isEmpty = false then (12, .zero) else
  if printP (patOf (ptsI s)) = (0, s) then (0, patOf (ptsI s)) else (14, .zero)

/-! ### parsing leads back -/
theorem letC_num {p : Int} (h : letC p = true) : 32 < p ∧ p ≠ 46 ∧ p ≠ 45 ∧ ¬ (48 ≤ p ∧ p ≤ 57) := by
  unfold letC at h
  simp only [Bool.and_eq_true, decide_eq_true_eq, Bool.not_eq_true', beq_eq_false_iff_ne, Bool.and_eq_false_iff, decide_eq_false_iff_not] at h
  omega
theorem lvOk_num {n : Int} (h : lvOk n = true) : 0 ≤ n ∧ n ≤ 9 := by
  unfold lvOk at h
  simp only [Bool.not_eq_true', Bool.or_eq_false_iff, decide_eq_false_iff_not] at h
  omega
/-- the points of a printed pattern, without the dots -/
def bodyI : List Int → List Int → List Int
  | [], _ => []
  | n :: ns, [] => (if 0 < n then [48 + n] else []) ++ bodyI ns []
  | n :: ns, p :: ps => (if 0 < n then [48 + n] else []) ++ p :: bodyI ns ps
theorem enc_one {p : Nat} (h : p < 128) : U.enc p = [UInt8.ofNat p] := by unfold U.enc; rw [if_pos h]
theorem encI_append (a b : List Int) : encI (a ++ b) = encI a ++ encI b := by unfold encI; rw [List.map_append, U.encs_append]
theorem encI_cons (p : Int) (r : List Int) : encI (p :: r) = U.enc p.toNat ++ encI r := rfl
theorem dig_enc {n : Int} (h : lvOk n = true) : digB n = encI (if 0 < n then [48 + n] else []) := by
  have := lvOk_num h
  unfold digB
  split
  · show _ = U.encs [(48 + n).toNat]
    rw [show (48 + n).toNat = 48 + n.toNat from by omega]
    show _ = U.enc (48 + n.toNat) ++ []
    rw [enc_one (by omega), List.append_nil]
  · rfl
theorem body_enc : ∀ (ns ps : List Int), ns.all lvOk = true → bodyB ns ps = encI (bodyI ns ps)
  | [], _, _ => rfl
  | n :: ns, [], h => by
    rw [List.all_cons, Bool.and_eq_true] at h
    show digB n ++ bodyB ns [] = encI (_ ++ bodyI ns [])
    rw [encI_append, dig_enc h.1, body_enc ns [] h.2]
  | n :: ns, p :: ps, h => by
    rw [List.all_cons, Bool.and_eq_true] at h
    show digB n ++ (U.enc p.toNat ++ bodyB ns ps) = encI (_ ++ p :: bodyI ns ps)
    rw [encI_append, encI_cons, dig_enc h.1, body_enc ns ps h.2]
theorem bodyI_pt : ∀ (ns ps : List Int), ns.all lvOk = true → okI ps = true → okI (bodyI ns ps) = true
  | [], _, _, _ => rfl
  | n :: ns, [], h, hp => by
    rw [List.all_cons, Bool.and_eq_true] at h
    have := lvOk_num h.1
    show List.all (_ ++ bodyI ns []) isPtI = true
    rw [List.all_append, Bool.and_eq_true]
    refine ⟨?_, bodyI_pt ns [] h.2 hp⟩
    split
    · simp only [List.all_cons, List.all_nil, Bool.and_true]
      rw [isPtI_iff]; omega
    · rfl
  | n :: ns, p :: ps, h, hp => by
    rw [List.all_cons, Bool.and_eq_true] at h
    have hp' : isPtI p = true ∧ okI ps = true := by unfold okI at hp; rw [List.all_cons, Bool.and_eq_true] at hp; exact hp
    have := lvOk_num h.1
    show List.all (_ ++ p :: bodyI ns ps) isPtI = true
    rw [List.all_append, List.all_cons, Bool.and_eq_true, Bool.and_eq_true]
    refine ⟨?_, hp'.1, bodyI_pt ns ps h.2 hp'.2⟩
    split
    · simp only [List.all_cons, List.all_nil, Bool.and_true]
      rw [isPtI_iff]; omega
    · rfl
theorem parse_body : ∀ (ps ns : List Int), ns.length = ps.length + 1 → ns.all lvOk = true → ps.all letC = true → parseGo 0 (bodyI ns ps) = (ps, ns)
  | [], [n], _, h, _ => by
    rw [List.all_cons, Bool.and_eq_true] at h
    have := lvOk_num h.1
    by_cases hn : 0 < n
    · show parseGo 0 ((if 0 < n then [48 + n] else []) ++ []) = _
      rw [if_pos hn]
      show (if 48 ≤ 48 + n ∧ 48 + n ≤ 57 then parseGo (48 + n - 48) [] else _) = _
      rw [if_pos (by omega), show 48 + n - 48 = n from by omega]
      rfl
    · have : n = 0 := by omega
      subst this
      rfl
  | p :: ps, n :: ns, hl, h, hp => by
    rw [List.all_cons, Bool.and_eq_true] at h hp
    have := lvOk_num h.1
    have hp1 := letC_num hp.1
    have ih := parse_body ps ns (by simpa using hl) h.2 hp.2
    have step : ∀ lv, parseGo lv (p :: bodyI ns ps) = (p :: ps, lv :: ns) := fun lv => by
      show (if 48 ≤ p ∧ p ≤ 57 then _ else _) = _
      rw [if_neg hp1.2.2.2, ih]
    by_cases hn : 0 < n
    · show parseGo 0 ((if 0 < n then [48 + n] else []) ++ p :: bodyI ns ps) = _
      rw [if_pos hn]
      show (if 48 ≤ 48 + n ∧ 48 + n ≤ 57 then parseGo (48 + n - 48) (p :: bodyI ns ps) else _) = _
      rw [if_pos (by omega), show 48 + n - 48 = n from by omega, step]
    · have : n = 0 := by omega
      subst this
      exact step 0
theorem body_ne : ∀ (ns ps : List Int), ns.all lvOk = true → ps.all letC = true → ∀ x, x ∈ bodyI ns ps → x ≠ 46
  | [], _, _, _, x, hx => by cases hx
  | n :: ns, [], h, hp, x, hx => by
    rw [List.all_cons, Bool.and_eq_true] at h
    have := lvOk_num h.1
    change x ∈ (if 0 < n then [48 + n] else []) ++ bodyI ns [] at hx
    rcases List.mem_append.1 hx with hx | hx
    · split at hx
      · obtain rfl : x = 48 + n := by simpa using hx
        omega
      · cases hx
    · exact body_ne ns [] h.2 hp x hx
  | n :: ns, p :: ps, h, hp, x, hx => by
    rw [List.all_cons, Bool.and_eq_true] at h hp
    have := lvOk_num h.1
    change x ∈ (if 0 < n then [48 + n] else []) ++ p :: bodyI ns ps at hx
    rcases List.mem_append.1 hx with hx | hx
    · split at hx
      · obtain rfl : x = 48 + n := by simpa using hx
        omega
      · cases hx
    · rcases List.mem_cons.1 hx with rfl | hx
      · exact (letC_num hp.1).2.1
      · exact body_ne ns ps h.2 hp.2 x hx
theorem strip_dots (b f : Bool) {l : List Int} (h : ∀ x, x ∈ l → x ≠ 46) (hl : l ≠ []) :
    hasB ((if b then [46] else []) ++ l ++ (if f then [46] else [])) = b ∧ hasE (stripB ((if b then [46] else []) ++ l ++ (if f then [46] else []))) = f ∧
    stripE (stripB ((if b then [46] else []) ++ l ++ (if f then [46] else []))) = l := by
  have hb : hasB ((if b then [46] else []) ++ l ++ (if f then [46] else [])) = b := by
    cases b with
    | true => rfl
    | false =>
      cases l with
      | nil => exact absurd rfl hl
      | cons x r =>
        show (some x == some 46) = false
        have := h x List.mem_cons_self
        simpa using this
  have hs : stripB ((if b then [46] else []) ++ l ++ (if f then [46] else [])) = l ++ (if f then [46] else []) := by
    unfold stripB
    rw [hb]
    cases b <;> rfl
  refine ⟨hb, ?_, ?_⟩
  · rw [hs]
    unfold hasE
    cases f with
    | true => simp
    | false =>
      simp only [Bool.false_eq_true, if_false, List.append_nil]
      rw [List.getLast?_eq_some_getLast hl]
      have := h _ (List.getLast_mem hl)
      simpa using this
  · rw [hs]
    unfold stripE hasE
    cases f with
    | true => simp
    | false =>
      simp only [Bool.false_eq_true, if_false, List.append_nil]
      rw [List.getLast?_eq_some_getLast hl]
      have := h _ (List.getLast_mem hl)
      rw [if_neg (by simpa using this)]
theorem print_back {P : Pat} {t : List UInt8} (h : printP P = (0, t)) : parseP t = (0, P) := by
  have h0 := h
  unfold printP at h
  split at h
  · cases h
  rename_i h1
  split at h
  · cases h
  rename_i h2
  split at h
  · cases h
  split at h
  · cases h
  rename_i h4
  split at h
  · cases h
  rename_i h5
  split at h
  · cases h
  rename_i h6
  injection h with _ h
  simp only [Bool.not_eq_false] at h1 h6
  have h5' : P.levels.length = (ptsI P.letters).length + 1 := by omega
  have hl : (ptsI P.letters).all letC = true := by
    have : letsP P.letters = true := by cases hh : letsP P.letters <;> simp [hh] at h4 ⊢
    unfold letsP at this
    rw [Bool.and_eq_true] at this
    exact this.2
  have hok := okI_pts P.letters
  have hbe := body_enc P.levels (ptsI P.letters) h6
  have hbo := bodyI_pt P.levels (ptsI P.letters) h6 hok
  have hdot : ∀ b : Bool, dotB b = encI (if b then [46] else []) := by intro b; cases b <;> rfl
  have ht : t = encI ((if P.beg then [46] else []) ++ bodyI P.levels (ptsI P.letters) ++ (if P.fin then [46] else [])) := by
    rw [← h, hbe, encI_append, encI_append, ← hdot, ← hdot]
  have hokt : okI ((if P.beg then [46] else []) ++ bodyI P.levels (ptsI P.letters) ++ (if P.fin then [46] else [])) = true := by
    unfold okI at hbo ⊢
    rw [List.all_append, List.all_append, hbo]
    cases P.beg <;> cases P.fin <;> rfl
  obtain ⟨hp1, hp2⟩ := pts_make _ hokt
  rw [← ht] at hp1 hp2
  have hne : bodyI P.levels (ptsI P.letters) ≠ [] := by
    intro e
    have := parse_body (ptsI P.letters) P.levels h5' h6 hl
    rw [e] at this
    injection this with this _
    exact h2 this.symm
  obtain ⟨s1, s2, s3⟩ := strip_dots P.beg P.fin (body_ne P.levels (ptsI P.letters) h6 hl) hne
  have hpat : patOf (ptsI t) = P := by
    rw [hp1]
    unfold patOf
    rw [s1, s2, s3, parse_body (ptsI P.letters) P.levels h5' h6 hl, encI_pts, ← U.of_valid _ (by simpa using h1)]
  unfold parseP
  rw [if_neg (by rw [hp2]; simp), hpat, if_pos h0]
end Go.Proofs.YtdcdlmigagjbiaaDoor
