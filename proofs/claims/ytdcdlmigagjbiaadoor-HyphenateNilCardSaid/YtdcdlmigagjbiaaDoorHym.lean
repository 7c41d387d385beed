/- A hyphenator in memory; what New says, plain. -/
import Derived.Test.YtdcdlmigagjbiaaDoorHxa
import Derived.Test.YtdcdlmigagjbiaaDoorHpp
import Derived.Test.YtdcdlmigagjbiaaDoorHlv
import Derived.Test.YtdcdlmigagjbiaaDoorHad
namespace Go.Proofs.YtdcdlmigagjbiaaDoor
open Go.RowKit Go.Maps

/-- the value is a slice that reads as the strings -/
def Strs (w : World) (v : Value) (l : List (List UInt8)) : Prop :=
  ∃ ao cap, v = .slice ao l.length cap ∧ (0 < l.length → ∃ b off, ao = some ⟨b, off, none⟩ ∧ b < w.heap.size ∧ ∀ j, j < l.length → w.cell? ⟨b, off + j, none⟩ = some (.string ⟨(l.getD j []).toArray⟩))
theorem Strs.below {w w' : World} {v : Value} {l : List (List UInt8)} (h : Strs w v l) (hb : Below w.heap.size w w') : Strs w' v l := by
  obtain ⟨ao, cap, h1, h4⟩ := h
  refine ⟨ao, cap, h1, fun hl => ?_⟩
  obtain ⟨b, off, e, hlt, hc⟩ := h4 hl
  exact ⟨b, off, e, Nat.lt_of_lt_of_le hlt hb.size, fun j hj => by rw [hb.cell (p := ⟨b, off + j, none⟩) hlt]; exact hc j hj⟩
def kS (t : List UInt8) : Lit := .string t
theorem kS_is (t : List UInt8) : WideAt.IsKeyLit (kS t) := by trivial
theorem kS_inj {a b : List UInt8} (h : kS a = kS b) : a = b := by unfold kS at h; injection h
theorem skey : Keyed Tryd.prog 9 := string_keyed Tryd.underlying9
theorem kSkey (t : List UInt8) (h : t.length ≤ 4294967296) : keyOf Tryd.prog 9 (.string ⟨t.toArray⟩) = some (kS t) := WideMaps.keyOf_string_mk Tryd.underlying9 (s := ⟨t.toArray⟩) (by rw [ba_size]; unfold maxLen; omega)
/-- the map of the exceptions -/
def ExMap (w : World) (B eb : Nat) (exs : List (List UInt8 × List Int)) : Prop :=
  ∃ (n : Nat) (D : DataW Value), w.ownsMap (H := Value) Tryd.prog 9 rawE eb n D ∧ n ≤ exs.length ∧ ∀ t : List UInt8, Maps.has D (kS t) = (exLook exs t).isSome ∧ ∀ p, exLook exs t = some p → ∃ v, IntRow w B v p ∧ ∀ z, D.atKey (kS t) z = .held v
theorem ExMap.turn {w w' : World} {B eb : Nat} {exs : List (List UInt8 × List Int)} {F : List Nat} (h : ExMap w B eb exs) (ht : Turn F w w') (hn : eb ∉ F) (hF : ∀ i, i ∈ F → ¬ CellsOf w i 3) : ExMap w' B eb exs := by
  obtain ⟨n, D, h1, h2, h3⟩ := h
  refine ⟨n, D, map_turn h1 ht hn, h2, fun t => ⟨(h3 t).1, fun p hp => ?_⟩⟩
  obtain ⟨v, k1, k2⟩ := (h3 t).2 p hp
  exact ⟨v, k1.turn ht hF, k2⟩
theorem ExMap.below {w w' : World} {B eb : Nat} {exs : List (List UInt8 × List Int)} (h : ExMap w B eb exs) (hb : Below w.heap.size w w') : ExMap w' B eb exs :=
  h.turn (F := []) (Turn.ofBelow hb (Nat.le_refl _)) (by simp) (fun _ hi => by cases hi)
theorem exLook_snoc (exs : List (List UInt8 × List Int)) (wd : List UInt8) (p : List Int) (t : List UInt8) : exLook (exs ++ [(wd, p)]) t = if wd = t then some p else exLook exs t := by
  induction exs with
  | nil => simp [exLook]
  | cons x r ih =>
    show (match exLook (r ++ [(wd, p)]) t with | some q => some q | none => if x.1 = t then some x.2 else none) = _
    rw [ih]
    by_cases h : wd = t
    · rw [if_pos h, if_pos h]
    · rw [if_neg h, if_neg h]; rfl
/-- an exception more -/
theorem ExMap.put {w w2 : World} {B eb n : Nat} {D : DataW Value} {exs : List (List UInt8 × List Int)} {wd : List UInt8} {p : List Int} {v : Value} (h0 : w.ownsMap (H := Value) Tryd.prog 9 rawE eb n D) (hn : n ≤ exs.length)
    (h3 : ∀ t : List UInt8, Maps.has D (kS t) = (exLook exs t).isSome ∧ ∀ p, exLook exs t = some p → ∃ v, IntRow w B v p ∧ ∀ z, D.atKey (kS t) z = .held v) (hv : IntRow w B v p)
    (ho : w2.ownsMap (H := Value) Tryd.prog 9 rawE eb (n + 1) (D.put (kS wd) (.held v))) (ht : w.mapTurned w2 eb) : ExMap w2 B eb (exs ++ [(wd, p)]) := by
  have hm := map_mapOf h0
  have hF : ∀ i, i ∈ [eb] → ¬ CellsOf w i 3 := fun i hi k => by
    obtain rfl : i = eb := by simpa using hi
    exact cells_map k hm
  have T := mapTurned_turn ht
  refine ⟨n + 1, _, ho, by simp; omega, fun t => ?_⟩
  rw [exLook_snoc]
  by_cases e : wd = t
  · subst e
    rw [if_pos rfl, has_put_same h0.isMap (kS_is wd)]
    refine ⟨rfl, fun q hq => ?_⟩
    obtain rfl := Option.some.inj hq
    exact ⟨v, hv.turn T hF, fun z => by rw [atKey_put_same h0.isMap (kS_is wd)]⟩
  · rw [if_neg e, has_put_other (fun e' => e (kS_inj e').symm)]
    refine ⟨(h3 t).1, fun q hq => ?_⟩
    obtain ⟨u, k1, k2⟩ := (h3 t).2 q hq
    exact ⟨u, k1.turn T hF, fun z => by rw [atKey_put_other (fun e' => e (kS_inj e').symm)]; exact k2 z⟩
/-- the trie stays while the exceptions turn -/
theorem Trie.exturn {w w2 : World} {B hb eb K : Nat} {eo : Option Obj} {f : TF} (h : Trie w B hb eb eo f K) (ht : w.mapTurned w2 eb) : Trie w2 B hb eb (w2.heap[eb]?) f K := by
  have T := mapTurned_turn ht
  have hm := h.ex.1
  have hi : ∀ i, i ∈ [eb] → ¬ CellsOf w i 3 := fun i hi k => by
    obtain rfl : i = eb := by simpa using hi
    exact cells_map k hm
  refine ⟨h.root, h.closed, fun q n hq => ⟨(h.node q n hq).1.turn T (fun hi => ?_), (h.node q n hq).2⟩, fun q n hq => ?_, h.nomap, fun q n m hq hmm => ⟨(h.map q n m hq hmm).1.turn T (fun hi => (h.map q n m hq hmm).2.2 (by simpa using hi)), (h.map q n m hq hmm).2⟩, h.inj, h.injm, h.injr, ?_, h.ex.2.1, rfl⟩
  · exact h.blk_map hq (by
      have e : n.blk = eb := by simpa using hi
      rw [e]; exact hm)
  · obtain ⟨xs, h1, h2⟩ := h.row q n hq
    exact ⟨xs, row_turn h1 T (fun g hg hi => by
      have e : g = eb := by simpa using hi
      subst e
      exact cells_map (row_cellsOf h1 hg) hm), h2.turn T hi⟩
  · obtain ⟨es, c, es', c', hh, rfl⟩ := ht
    exact ⟨es', c', ChangeMaps.heap_setBlock_same hh _⟩

/-! ### what New says -/
def fe : List (List UInt8) → Nat
  | [] => 0
  | s :: r => if (parseP s).1 ≠ 0 then (parseP s).1 else fe r
def exOf (s : List UInt8) : List UInt8 × List Int := ((exP (foldP s)).1, (exP (foldP s)).2.1)
def exBad (exs : List (List UInt8)) : Bool := exs.any fun s => !(exP (foldP s)).2.2
def dupB (exs : List (List UInt8)) : Bool := !decide ((exs.map fun s => (exOf s).1).Nodup)
def rangeB (left right : Int) : Bool := decide (left < 1) || decide (64 < left) || decide (right < 1) || decide (64 < right)
def newE (pats exs : List (List UInt8)) (left right : Int) : Nat :=
  if 4096 < pats.length ∨ 4096 < exs.length then 9 else if fe pats ≠ 0 then fe pats else if exBad exs = true then 14 else if dupB exs = true then 7 else if rangeB left right = true then 2 else 0
def newS (pats exs : List (List UInt8)) (left right : Int) : HS := ⟨pats.map fun s => (parseP s).2, exs.map exOf, left, right⟩
/-- a hyphenator -/
def Hyph (w : World) (B hb : Nat) (st : HS) : Prop :=
  ∃ (eb : Nat) (eo : Option Obj) (f : TF) (K : Nat), Trie w B hb eb eo f K ∧ RootOf f hb [.map (some eb), .int .i64 st.left, .int .i64 st.right] 71 ∧ (∀ q, contT f q = st.pats.filter fun P => decide (ptsI P.letters = q)) ∧ ExMap w B eb st.exs
theorem Hyph.below {w w' : World} {B hb : Nat} {st : HS} (h : Hyph w B hb st) (hb' : Below w.heap.size w w') : Hyph w' B hb st := by
  obtain ⟨eb, eo, f, K, h1, h2, h3, h4⟩ := h
  exact ⟨eb, eo, f, K, h1.below hb', h2, h3, h4.below hb'⟩
/-- the cells of a hyphenator -/
theorem RootOf.blk {w : World} {B hb eb K : Nat} {eo : Option Obj} {f : TF} {rest : List Value} {typ : TypeId} (h : Trie w B hb eb eo f K) (hr : RootOf f hb rest typ) : ∃ mb pv, Blk w hb typ (#[mb, pv] ++ rest.toArray) := by
  obtain ⟨r, h1, h2, h3, h4⟩ := hr
  have := (h.node [] r h1).1
  rw [h2, h3, h4] at this
  exact ⟨_, _, this⟩
def NewPost (pats exs : List (List UInt8)) (left right : Int) (w : World) (e : Ending) (w' : World) : Prop :=
  Below w.heap.size w w' ∧ ((newE pats exs left right ≠ 0 ∧ e = .returned (.tuple #[.pointer none, .int .i64 (newE pats exs left right : Int)])) ∨ (newE pats exs left right = 0 ∧ ∃ hb, e = .returned (.tuple #[.pointer (some ⟨hb, 0, none⟩), .int .i64 0]) ∧ Hyph w' w.heap.size hb (newS pats exs left right)))
theorem newPost_no {pats exs : List (List UInt8)} {left right : Int} {w w' : World} {n : Nat} (h : newE pats exs left right = n) (hn : n ≠ 0) (hb : Below w.heap.size w w') : NewPost pats exs left right w (.returned (.tuple #[.pointer none, .int .i64 (n : Int)])) w' :=
  ⟨hb, .inl ⟨by rw [h]; exact hn, by rw [h]⟩⟩
theorem newPost_yes {pats exs : List (List UInt8)} {left right : Int} {w w' : World} {hb : Nat} (h : newE pats exs left right = 0) (hB : Below w.heap.size w w') (hh : Hyph w' w.heap.size hb (newS pats exs left right)) : NewPost pats exs left right w (.returned (.tuple #[.pointer (some ⟨hb, 0, none⟩), .int .i64 0])) w' :=
  ⟨hB, .inr ⟨h, hb, rfl, hh⟩⟩
theorem fe_at : ∀ (l : List (List UInt8)) (k : Nat), k < l.length → (∀ j, j < k → (parseP (l.getD j [])).1 = 0) → (parseP (l.getD k [])).1 ≠ 0 → fe l = (parseP (l.getD k [])).1
  | s :: r, 0, _, _, h => by
    have h' : (parseP s).1 ≠ 0 := h
    unfold fe; rw [if_pos h']; rfl
  | s :: r, k + 1, hk, ha, h => by
    have h0 : (parseP s).1 = 0 := ha 0 (by omega)
    unfold fe
    rw [if_neg (by rw [h0]; simp)]
    exact fe_at r k (by simpa using hk) (fun j hj => ha (j + 1) (by omega)) h
theorem fe_none : ∀ (l : List (List UInt8)), (∀ j, j < l.length → (parseP (l.getD j [])).1 = 0) → fe l = 0
  | [], _ => rfl
  | s :: r, h => by
    have h0 : (parseP s).1 = 0 := h 0 (by simp)
    unfold fe
    rw [if_neg (by rw [h0]; simp)]
    exact fe_none r (fun j hj => h (j + 1) (by simp; omega))
theorem printP_zero {P : Pat} {t : List UInt8} (h : printP P = (0, t)) : letsP P.letters = true ∧ (ptsI P.letters).length ≤ 40 ∧ (ptsI P.letters).length ≠ 0 ∧ (U.bad P.letters).isEmpty = true := by
  unfold printP at h
  split at h
  · cases h
  rename_i h1
  split at h
  · cases h
  rename_i h2
  split at h
  · cases h
  rename_i h3
  split at h
  · cases h
  rename_i h4
  refine ⟨?_, by omega, fun e => h2 (List.eq_nil_of_length_eq_zero e), by simpa using h1⟩
  cases hh : letsP P.letters <;> simp [hh] at h4 ⊢
theorem parseP_zero {s : List UInt8} (h : (parseP s).1 = 0) : printP (parseP s).2 = (0, s) ∧ letsP (parseP s).2.letters = true ∧ (ptsI (parseP s).2.letters).length ≤ 40 ∧ (ptsI (parseP s).2.letters).length ≠ 0 := by
  have hp : printP (parseP s).2 = (0, s) := by
    unfold parseP at h ⊢
    split at h
    · cases h
    · rename_i h1
      split at h
      · rename_i h2
        rw [if_neg h1, if_pos h2]
        exact h2
      · cases h
  obtain ⟨h1, h2, h3, _⟩ := printP_zero hp
  exact ⟨hp, h1, h2, h3⟩
theorem bad_at {l : List (List UInt8)} {k : Nat} (h : k < l.length) (hk : (exP (foldP (l.getD k []))).2.2 = false) : exBad l = true := by
  unfold exBad
  rw [List.any_eq_true]
  refine ⟨l[k], List.getElem_mem h, ?_⟩
  rw [List.getD_eq_getElem?_getD, List.getElem?_eq_getElem h] at hk
  simpa using hk
theorem bad_none {l : List (List UInt8)} (h : ∀ k, k < l.length → (exP (foldP (l.getD k []))).2.2 = true) : exBad l = false := by
  unfold exBad
  rw [List.any_eq_false]
  intro x hx
  obtain ⟨k, hk, rfl⟩ := List.mem_iff_getElem.1 hx
  have := h k hk
  rw [List.getD_eq_getElem?_getD, List.getElem?_eq_getElem hk] at this
  simpa using this
theorem take_snoc {α : Type} (l : List α) (d : α) (k : Nat) (h : k < l.length) : l.take (k + 1) = l.take k ++ [l.getD k d] := by
  rw [List.getD_eq_getElem?_getD, List.getElem?_eq_getElem h, List.take_add_one, List.getElem?_eq_getElem h]; rfl
theorem exLook_some {exs : List (List UInt8 × List Int)} {t : List UInt8} : (exLook exs t).isSome = true ↔ t ∈ exs.map (·.1) := by
  induction exs with
  | nil => simp [exLook]
  | cons x r ih =>
    show (match exLook r t with | some q => some q | none => if x.1 = t then some x.2 else none).isSome = true ↔ _
    rw [List.map_cons, List.mem_cons, ← ih]
    cases hh : exLook r t with
    | some q => simp
    | none =>
      by_cases e : x.1 = t
      · simp [e]
      · simp [e, Ne.symm e]
end Go.Proofs.YtdcdlmigagjbiaaDoor
