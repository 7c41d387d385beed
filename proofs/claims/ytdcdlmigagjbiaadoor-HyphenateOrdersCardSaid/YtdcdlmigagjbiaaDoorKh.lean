/- A hyphenator in memory; what New says, plain. -/
import Derived.Test.YtdcdlmigagjbiaaDoorKg
import Derived.Test.YtdcdlmigagjbiaaDoorHpp
import Derived.Test.YtdcdlmigagjbiaaDoorKe
import Derived.Test.YtdcdlmigagjbiaaDoorKd
import Derived.Deep.RegionHeld3
namespace Go.Proofs.YtdcdlmigagjbiaaDoor
open Go.RowKit Go.Maps

/-- the value is a slice that reads as the strings -/
def Strs (w : World) (v : Value) (l : List (List UInt8)) : Prop :=
  ∃ ao cap, v = .slice ao l.length cap ∧ (0 < l.length → ∃ b off, ao = some ⟨b, off, none⟩ ∧ b < w.heap.size ∧ ∀ j, j < l.length → w.cell? ⟨b, off + j, none⟩ = some (.string ⟨(l.getD j []).toArray⟩))
theorem Strs.below {w w' : World} {v : Value} {l : List (List UInt8)} (h : Strs w v l) (hb : Below w.heap.size w w') : Strs w' v l := by
  obtain ⟨ao, cap, h1, h4⟩ := h
  refine ⟨ao, cap, h1, fun hl => ?_⟩
  obtain ⟨b, off, e, hlt, hc⟩ := h4 hl
  exact ⟨b, off, e, Nat.lt_of_lt_of_le hlt hb.size, fun j hj => by rw [hb.cell (p := ⟨b, off + j, none⟩) hlt]; exact hc j hj⟩
def kS (t : List UInt8) : Lit := .string t
theorem kS_is (t : List UInt8) : WideAt.IsKeyLit (kS t) := by trivial
theorem kS_inj {a b : List UInt8} (h : kS a = kS b) : a = b := by unfold kS at h; injection h
theorem skey : Keyed Tryd.prog 9 := string_keyed Tryd.underlying9
theorem kSkey (t : List UInt8) (h : t.length ≤ 4294967296) : keyOf Tryd.prog 9 (.string ⟨t.toArray⟩) = some (kS t) := WideMaps.keyOf_string_mk Tryd.underlying9 (s := ⟨t.toArray⟩) (by rw [ba_size]; unfold maxLen; omega)
/-- the map of the exceptions -/
def ExMap (w : World) (B eb : Nat) (exs : List (List UInt8 × List Int)) : Prop :=
  ∃ (n : Nat) (D : DataW Value), w.ownsMap (H := Value) Tryd.prog 9 rawE eb n D ∧ n ≤ exs.length ∧ ∀ t : List UInt8, Maps.has D (kS t) = (exLook exs t).isSome ∧ ∀ p, exLook exs t = some p → ∃ v, IntRow w B v p ∧ ∀ z, D.atKey (kS t) z = .held v
theorem ExMap.turn {w w' : World} {B eb : Nat} {exs : List (List UInt8 × List Int)} {F : List Nat} (h : ExMap w B eb exs) (ht : Turn F w w') (hn : eb ∉ F) (hF : ∀ i, i ∈ F → ¬ CellsOf w i 3) : ExMap w' B eb exs := by
  obtain ⟨n, D, h1, h2, h3⟩ := h
  refine ⟨n, D, map_turn h1 ht hn, h2, fun t => ⟨(h3 t).1, fun p hp => ?_⟩⟩
  obtain ⟨v, k1, k2⟩ := (h3 t).2 p hp
  exact ⟨v, k1.turn ht hF, k2⟩
theorem ExMap.below {w w' : World} {B eb : Nat} {exs : List (List UInt8 × List Int)} (h : ExMap w B eb exs) (hb : Below w.heap.size w w') : ExMap w' B eb exs :=
  h.turn (F := []) (Turn.ofBelow hb (Nat.le_refl _)) (by simp) (fun _ hi => by cases hi)
theorem exLook_snoc (exs : List (List UInt8 × List Int)) (wd : List UInt8) (p : List Int) (t : List UInt8) : exLook (exs ++ [(wd, p)]) t = if wd = t then some p else exLook exs t := by
  induction exs with
  | nil => simp [exLook]
  | cons x r ih =>
    show (match exLook (r ++ [(wd, p)]) t with | some q => some q | none => if x.1 = t then some x.2 else none) = _
    rw [ih]
    by_cases h : wd = t
    · rw [if_pos h, if_pos h]
    · rw [if_neg h, if_neg h]; rfl
/-- an exception more -/
theorem ExMap.put {w w2 : World} {B eb n : Nat} {D : DataW Value} {exs : List (List UInt8 × List Int)} {wd : List UInt8} {p : List Int} {v : Value} (h0 : w.ownsMap (H := Value) Tryd.prog 9 rawE eb n D) (hn : n ≤ exs.length)
    (h3 : ∀ t : List UInt8, Maps.has D (kS t) = (exLook exs t).isSome ∧ ∀ p, exLook exs t = some p → ∃ v, IntRow w B v p ∧ ∀ z, D.atKey (kS t) z = .held v) (hv : IntRow w B v p)
    (ho : w2.ownsMap (H := Value) Tryd.prog 9 rawE eb (n + 1) (D.put (kS wd) (.held v))) (ht : w.mapTurned w2 eb) : ExMap w2 B eb (exs ++ [(wd, p)]) := by
  have hm := map_mapOf h0
  have hF : ∀ i, i ∈ [eb] → ¬ CellsOf w i 3 := fun i hi k => by
    obtain rfl : i = eb := by simpa using hi
    exact cells_map k hm
  have T := mapTurned_turn ht
  refine ⟨n + 1, _, ho, by simp; omega, fun t => ?_⟩
  rw [exLook_snoc]
  by_cases e : wd = t
  · subst e
    rw [if_pos rfl, has_put_same h0.isMap (kS_is wd)]
    refine ⟨rfl, fun q hq => ?_⟩
    obtain rfl := Option.some.inj hq
    exact ⟨v, hv.turn T hF, fun z => by rw [atKey_put_same h0.isMap (kS_is wd)]⟩
  · rw [if_neg e, has_put_other (fun e' => e (kS_inj e').symm)]
    refine ⟨(h3 t).1, fun q hq => ?_⟩
    obtain ⟨u, k1, k2⟩ := (h3 t).2 q hq
    exact ⟨u, k1.turn T hF, fun z => by rw [atKey_put_other (fun e' => e (kS_inj e').symm)]; exact k2 z⟩
/-- the trie stays while the exceptions turn -/
theorem Trie.exturn {w w2 : World} {B hb eb K : Nat} {eo : Option Obj} {f : TF} (h : Trie w B hb eb eo f K) (ht : w.mapTurned w2 eb) : Trie w2 B hb eb (w2.heap[eb]?) f K := by
  have T := mapTurned_turn ht
  have hm := h.ex.1
  have hi : ∀ i, i ∈ [eb] → ¬ CellsOf w i 3 := fun i hi k => by
    obtain rfl : i = eb := by simpa using hi
    exact cells_map k hm
  refine ⟨h.root, h.closed, fun q n hq => ⟨(h.node q n hq).1.turn T (fun hi => ?_), (h.node q n hq).2⟩, fun q n hq => ?_, h.nomap, fun q n m hq hmm => ⟨(h.map q n m hq hmm).1.turn T (fun hi => (h.map q n m hq hmm).2.2 (by simpa using hi)), (h.map q n m hq hmm).2⟩, h.inj, h.injm, h.injr, ?_, h.ex.2.1, rfl⟩
  · exact h.blk_map hq (by
      have e : n.blk = eb := by simpa using hi
      rw [e]; exact hm)
  · obtain ⟨xs, h1, h2⟩ := h.row q n hq
    exact ⟨xs, row_turn h1 T (fun g hg hi => by
      have e : g = eb := by simpa using hi
      subst e
      exact cells_map (row_cellsOf h1 hg) hm), h2.turn T hi⟩
  · obtain ⟨es, c, es', c', hh, rfl⟩ := ht
    exact ⟨es', c', ChangeMaps.heap_setBlock_same hh _⟩

/-! ### what New says -/
def fe : List (List UInt8) → Nat
  | [] => 0
  | s :: r => if (parseP s).1 ≠ 0 then (parseP s).1 else fe r
def exOf (s : List UInt8) : List UInt8 × List Int := ((exP (foldP s)).1, (exP (foldP s)).2.1)
def exBad (exs : List (List UInt8)) : Bool := exs.any fun s => !(exP (foldP s)).2.2
def dupB (exs : List (List UInt8)) : Bool := !decide ((exs.map fun s => (exOf s).1).Nodup)
def rangeB (left right : Int) : Bool := decide (left < 1) || decide (64 < left) || decide (right < 1) || decide (64 < right)
def newE (pats exs : List (List UInt8)) (left right : Int) : Nat :=
  if 4096 < pats.length ∨ 4096 < exs.length then 9 else if fe pats ≠ 0 then fe pats else if exBad exs = true then 14 else if dupB exs = true then 7 else if rangeB left right = true then 2 else 0
def newS (pats exs : List (List UInt8)) (left right : Int) : HS := ⟨pats.map fun s => (parseP s).2, exs.map exOf, left, right⟩
/-- a hyphenator -/
def Hyph (w : World) (B hb : Nat) (st : HS) : Prop :=
  ∃ (eb : Nat) (eo : Option Obj) (f : TF) (K : Nat), Trie w B hb eb eo f K ∧ RootOf f hb [.map (some eb), .int .i64 st.left, .int .i64 st.right] 71 ∧ (∀ q, contT f q = st.pats.filter fun P => decide (ptsI P.letters = q)) ∧ ExMap w B eb st.exs
theorem Hyph.below {w w' : World} {B hb : Nat} {st : HS} (h : Hyph w B hb st) (hb' : Below w.heap.size w w') : Hyph w' B hb st := by
  obtain ⟨eb, eo, f, K, h1, h2, h3, h4⟩ := h
  exact ⟨eb, eo, f, K, h1.below hb', h2, h3, h4.below hb'⟩
/-- the cells of a hyphenator -/
theorem RootOf.blk {w : World} {B hb eb K : Nat} {eo : Option Obj} {f : TF} {rest : List Value} {typ : TypeId} (h : Trie w B hb eb eo f K) (hr : RootOf f hb rest typ) : ∃ mb pv, Blk w hb typ (#[mb, pv] ++ rest.toArray) := by
  obtain ⟨r, h1, h2, h3, h4⟩ := hr
  have := (h.node [] r h1).1
  rw [h2, h3, h4] at this
  exact ⟨_, _, this⟩
def NewPost (pats exs : List (List UInt8)) (left right : Int) (w : World) (e : Ending) (w' : World) : Prop :=
  Below w.heap.size w w' ∧ ((newE pats exs left right ≠ 0 ∧ e = .returned (.tuple #[.pointer none, .int .i64 (newE pats exs left right : Int)])) ∨ (newE pats exs left right = 0 ∧ ∃ hb, e = .returned (.tuple #[.pointer (some ⟨hb, 0, none⟩), .int .i64 0]) ∧ Hyph w' w.heap.size hb (newS pats exs left right)))
theorem newPost_no {pats exs : List (List UInt8)} {left right : Int} {w w' : World} {n : Nat} (h : newE pats exs left right = n) (hn : n ≠ 0) (hb : Below w.heap.size w w') : NewPost pats exs left right w (.returned (.tuple #[.pointer none, .int .i64 (n : Int)])) w' :=
  ⟨hb, .inl ⟨by rw [h]; exact hn, by rw [h]⟩⟩
theorem newPost_yes {pats exs : List (List UInt8)} {left right : Int} {w w' : World} {hb : Nat} (h : newE pats exs left right = 0) (hB : Below w.heap.size w w') (hh : Hyph w' w.heap.size hb (newS pats exs left right)) : NewPost pats exs left right w (.returned (.tuple #[.pointer (some ⟨hb, 0, none⟩), .int .i64 0])) w' :=
  ⟨hB, .inr ⟨h, hb, rfl, hh⟩⟩
theorem fe_at : ∀ (l : List (List UInt8)) (k : Nat), k < l.length → (∀ j, j < k → (parseP (l.getD j [])).1 = 0) → (parseP (l.getD k [])).1 ≠ 0 → fe l = (parseP (l.getD k [])).1
  | s :: r, 0, _, _, h => by
    have h' : (parseP s).1 ≠ 0 := h
    unfold fe; rw [if_pos h']; rfl
  | s :: r, k + 1, hk, ha, h => by
    have h0 : (parseP s).1 = 0 := ha 0 (by omega)
    unfold fe
    rw [if_neg (by rw [h0]; simp)]
    exact fe_at r k (by simpa using hk) (fun j hj => ha (j + 1) (by omega)) h
theorem fe_none : ∀ (l : List (List UInt8)), (∀ j, j < l.length → (parseP (l.getD j [])).1 = 0) → fe l = 0
  | [], _ => rfl
  | s :: r, h => by
    have h0 : (parseP s).1 = 0 := h 0 (by simp)
    unfold fe
    rw [if_neg (by rw [h0]; simp)]
    exact fe_none r (fun j hj => h (j + 1) (by simp; omega))
theorem printP_zero {P : Pat} {t : List UInt8} (h : printP P = (0, t)) : letsP P.letters = true ∧ (ptsI P.letters).length ≤ 40 ∧ (ptsI P.letters).length ≠ 0 ∧ (U.bad P.letters).isEmpty = true := by
  unfold printP at h
  split at h
  · cases h
  rename_i h1
  split at h
  · cases h
  rename_i h2
  split at h
  · cases h
  rename_i h3
  split at h
  · cases h
  rename_i h4
  refine ⟨?_, by omega, fun e => h2 (List.eq_nil_of_length_eq_zero e), by simpa using h1⟩
  cases hh : letsP P.letters <;> simp [hh] at h4 ⊢
theorem parseP_zero {s : List UInt8} (h : (parseP s).1 = 0) : printP (parseP s).2 = (0, s) ∧ letsP (parseP s).2.letters = true ∧ (ptsI (parseP s).2.letters).length ≤ 40 ∧ (ptsI (parseP s).2.letters).length ≠ 0 := by
  have hp : printP (parseP s).2 = (0, s) := by
    unfold parseP at h ⊢
    split at h
    · cases h
    · rename_i h1
      split at h
      · rename_i h2
        rw [if_neg h1, if_pos h2]
        exact h2
      · cases h
  obtain ⟨h1, h2, h3, _⟩ := printP_zero hp
  exact ⟨hp, h1, h2, h3⟩
theorem bad_at {l : List (List UInt8)} {k : Nat} (h : k < l.length) (hk : (exP (foldP (l.getD k []))).2.2 = false) : exBad l = true := by
  unfold exBad
  rw [List.any_eq_true]
  refine ⟨l[k], List.getElem_mem h, ?_⟩
  rw [List.getD_eq_getElem?_getD, List.getElem?_eq_getElem h] at hk
  simpa using hk
theorem bad_none {l : List (List UInt8)} (h : ∀ k, k < l.length → (exP (foldP (l.getD k []))).2.2 = true) : exBad l = false := by
  unfold exBad
  rw [List.any_eq_false]
  intro x hx
  obtain ⟨k, hk, rfl⟩ := List.mem_iff_getElem.1 hx
  have := h k hk
  rw [List.getD_eq_getElem?_getD, List.getElem?_eq_getElem hk] at this
  simpa using this
theorem take_snoc {α : Type} (l : List α) (d : α) (k : Nat) (h : k < l.length) : l.take (k + 1) = l.take k ++ [l.getD k d] := by
  rw [List.getD_eq_getElem?_getD, List.getElem?_eq_getElem h, List.take_add_one, List.getElem?_eq_getElem h]; rfl
theorem exLook_some {exs : List (List UInt8 × List Int)} {t : List UInt8} : (exLook exs t).isSome = true ↔ t ∈ exs.map (·.1) := by
  induction exs with
  | nil => simp [exLook]
  | cons x r ih =>
    show (match exLook r t with | some q => some q | none => if x.1 = t then some x.2 else none).isSome = true ↔ _
    rw [List.map_cons, List.mem_cons, ← ih]
    cases hh : exLook r t with
    | some q => simp
    | none =>
      by_cases e : x.1 = t
      · simp [e]
      · simp [e, Ne.symm e]
end Go.Proofs.YtdcdlmigagjbiaaDoor
/- New walked. -/
namespace Go.Proofs.YtdcdlmigagjbiaaDoor
open Go.RowKit Go.Maps
theorem ownsMap_empty {H : Type} {P : Program} {k : TypeId} {R : Value → Option (DataW H × List MemPlace)} {w : World} {b : Nat} (h : w.heap[b]? = some (.map #[] 0)) : w.ownsMap P k R b 0 (.map []) := by
  obtain ⟨es, c, h1, h2⟩ := World.ownsMap_made w P k R
  rw [heap_alloc_new] at h1
  injection h1 with h1
  injection h1 with e1 e2
  subst e1 e2
  exact ⟨#[], 0, h, h2⟩
theorem exmap_empty {w : World} {B eb : Nat} (h : w.heap[eb]? = some (.map #[] 0)) : ExMap w B eb [] :=
  ⟨0, .map [], ownsMap_empty h, Nat.le_refl _, fun t => ⟨rfl, fun p hp => by cases hp⟩⟩
def rootTN (hb eb : Nat) (left right : Int) : TN := ⟨hb, none, .slice none 0 0, [], [.map (some eb), .int .i64 left, .int .i64 right], 71⟩
def fOne (hb eb : Nat) (left right : Int) : TF := fun q => if q = [] then some (rootTN hb eb left right) else none
theorem fOne_nil (hb eb : Nat) (left right : Int) : fOne hb eb left right [] = some (rootTN hb eb left right) := if_pos rfl
theorem fOne_snoc (hb eb : Nat) (left right : Int) (q : List Int) (c : Int) : fOne hb eb left right (q ++ [c]) = none := if_neg (by simp)
theorem fOne_inv {hb eb : Nat} {left right : Int} {q : List Int} {n : TN} (h : fOne hb eb left right q = some n) : q = [] ∧ n = rootTN hb eb left right := by
  unfold fOne at h
  split at h
  · rename_i e; exact ⟨e, (Option.some.inj h).symm⟩
  · cases h
theorem trie_init (w : World) (left right : Int) (W : World) (hW : (w.alloc (.map #[] 0)).alloc (.cells #[.map none, .slice none 0 0, .map (some w.heap.size), .int .i64 left, .int .i64 right] 71) = W) :
    Trie W w.heap.size (w.heap.size + 1) w.heap.size (some (.map #[] 0)) (fOne (w.heap.size + 1) w.heap.size left right) 0 ∧ Below w.heap.size w W ∧ W.heap.size = w.heap.size + 2 := by
  subst hW
  have hs : (w.alloc (.map #[] 0)).heap.size = w.heap.size + 1 := by simp
  have hb := Blk.new (w.alloc (.map #[] 0)) 71 #[.map none, .slice none 0 0, .map (some w.heap.size), .int .i64 left, .int .i64 right]
  rw [hs] at hb
  have he : ((w.alloc (.map #[] 0)).alloc (.cells #[.map none, .slice none 0 0, .map (some w.heap.size), .int .i64 left, .int .i64 right] 71)).heap[w.heap.size]? = some (.map #[] 0) :=
    (Below.heap_alloc _ _ _ (by rw [hs]; omega)).trans (heap_alloc_new w _)
  refine ⟨⟨⟨_, fOne_nil _ _ _ _, rfl⟩, fun q c h => ?_, fun q n h => ?_, fun q n h => ?_, fun q n h _ c => fOne_snoc _ _ _ _ q c, fun q n m h hm => ?_, fun q q' n n' h h' _ => ?_, fun q q' n n' m h h' hm _ => ?_, fun q q' n n' g h h' hg _ => ?_, ⟨_, _, he⟩, Nat.le_refl _, he⟩, ((Below.refl _ w).alloc (Nat.le_refl _) _).alloc (by rw [hs]; omega) _, by simp⟩
  · rw [fOne_snoc] at h; cases h
  · obtain ⟨rfl, rfl⟩ := fOne_inv h
    exact ⟨by simpa [rootTN] using hb, .inr rfl, by simp [rootTN]⟩
  · obtain ⟨rfl, rfl⟩ := fOne_inv h
    exact ⟨[], World.ownsRow_nil _ _ _ _, trivial⟩
  · obtain ⟨rfl, rfl⟩ := fOne_inv h
    cases hm
  · rw [(fOne_inv h).1, (fOne_inv h').1]
  · obtain ⟨rfl, rfl⟩ := fOne_inv h
    cases hm
  · rw [(fOne_inv h).1, (fOne_inv h').1]
theorem contT_one (hb eb : Nat) (left right : Int) (q : List Int) : contT (fOne hb eb left right) q = [] := by
  unfold contT fOne
  by_cases h : q = []
  · rw [if_pos h]; rfl
  · rw [if_neg h]
theorem root_one (hb eb : Nat) (left right : Int) : RootOf (fOne hb eb left right) hb [.map (some eb), .int .i64 left, .int .i64 right] 71 := ⟨_, fOne_nil _ _ _ _, rfl, rfl, rfl⟩
/-- the trie holds the patterns -/
def Holds (f : TF) (ps : List Pat) : Prop := ∀ q, contT f q = ps.filter fun P => decide (ptsI P.letters = q)
theorem Holds.add {f f' : TF} {ps : List Pat} {P : Pat} {L : List Int} (h : Holds f ps) (hL : ptsI P.letters = L) (h' : ∀ q, contT f' q = contT f q ++ (if q = L then [P] else [])) : Holds f' (ps ++ [P]) := by
  intro q
  rw [h' q, h q, List.filter_append]
  congr 1
  by_cases e : q = L
  · rw [if_pos e, List.filter_cons_of_pos (by rw [hL, e]; simp)]; rfl
  · rw [if_neg e, List.filter_cons_of_neg (by rw [hL]; simpa using fun h => e h.symm)]; rfl
theorem holds_len {f : TF} {ps : List Pat} (h : Holds f ps) (q : List Int) : (contT f q).length ≤ ps.length := by rw [h q]; exact List.length_filter_le _ _
theorem strs_at {w wr : World} {ao : Option Addr} {cap : Nat} {l : List (List UInt8)} (h : Strs w (.slice ao l.length cap) l) (hb : Below w.heap.size w wr) {k : Nat} (hk : k < l.length) :
    ∃ b off, ao = some ⟨b, off, none⟩ ∧ wr.cell? ⟨b, off + k, none⟩ = some (.string ⟨(l.getD k []).toArray⟩) := by
  obtain ⟨ao', cap', h1, h2⟩ := h
  injection h1 with e1 _ _
  obtain ⟨b, off, e, hlt, hc⟩ := h2 (by omega)
  exact ⟨b, off, e1.trans e, (hb.cell (p := ⟨b, off + k, none⟩) hlt).trans (hc k hk)⟩
theorem encI_filter (l : List Int) (p : Int → Bool) : (encI (l.filter p)).length ≤ (encI l).length := by
  induction l with
  | nil => exact Nat.le_refl _
  | cons x r ih =>
    by_cases h : p x = true
    · rw [List.filter_cons_of_pos h, encI_cons, encI_cons, List.length_append, List.length_append]; omega
    · rw [List.filter_cons_of_neg h, encI_cons, List.length_append]; omega
theorem exP_len (t : List UInt8) : (exP t).1.length ≤ t.length := by
  rw [exP_eq]
  split
  · rename_i h
    rw [Bool.and_eq_true] at h
    have := encI_filter (ptsI t) (fun c => !decide (c = 45))
    rw [encI_valid h.1] at this
    exact this
  · exact Nat.zero_le _
theorem nodup_snoc {exs : List (List UInt8)} {j : Nat} {s wd : List UInt8} {ps : List Int} {dbl : Bool} (h : exs.take (j + 1) = exs.take j ++ [s]) (hxx : exOf s = (wd, ps)) (hd : dbl = !decide (((exs.take j).map fun s => (exOf s).1).Nodup)) :
    (dbl || (exLook ((exs.take j).map exOf) wd).isSome) = !decide (((exs.take (j + 1)).map fun s => (exOf s).1).Nodup) := by
  have e1 : (exLook ((exs.take j).map exOf) wd).isSome = decide (wd ∈ (exs.take j).map fun s => (exOf s).1) := by
    rw [Bool.eq_iff_iff, exLook_some, List.map_map, decide_eq_true_eq]
    rfl
  rw [e1, hd, h, List.map_append, List.map_cons, List.map_nil, hxx]
  generalize (exs.take j).map (fun s => (exOf s).1) = l
  have e2 : (l ++ [wd]).Nodup ↔ l.Nodup ∧ wd ∉ l := by
    rw [List.nodup_append]
    constructor
    · rintro ⟨a, _, c⟩
      exact ⟨a, fun hm => c wd hm wd (by simp) rfl⟩
    · rintro ⟨a, b⟩
      exact ⟨a, by simp, fun x hm1 y hy e => by
        obtain rfl : y = wd := by simpa using hy
        subst e
        exact b hm1⟩
  by_cases hn : l.Nodup <;> by_cases hm : wd ∈ l <;> simp [e2, hn, hm]
theorem IntRow.drewN {w : World} {B : Nat} {v : Value} {l : List Int} (h : IntRow w B v l) (n : Nat) : IntRow (w.drewN n) B v l := h
set_option maxRecDepth 100000 in
set_option maxHeartbeats 8000000 in
theorem new_any (pats exs : List (List UInt8)) (left right : Int) (pvs evs : Value) (w : World) (hp : Strs w pvs pats) (he : Strs w evs exs) (hpl : ∀ s, s ∈ pats → s.length ≤ 100000000) (hel : ∀ s, s ∈ exs → s.length ≤ 100000000) :
    Calls Tryd.prog 25 #[pvs, evs, .int .i64 left, .int .i64 right] w (NewPost pats exs left right w) := by
  obtain ⟨pao, pcap, rfl, _⟩ := id hp
  obtain ⟨eao, ecap, rfl, _⟩ := id he
  have hmm := @run_makeMap Tryd.prog
  have HPS := Lib.hid hp
  have HES := Lib.hid he
  have HPL := Lib.hid hpl
  have HEL := Lib.hid hel
  clear hp he hpl hel
  by_cases h1 : 4096 < pats.length
  · have d1 : decide (4096 < pats.length) = true := by simp [h1]
    have HE := Lib.hid (show newE pats exs left right = 9 by unfold newE; rw [if_pos (.inl h1)])
    go_enter Tryd.func25, Tryd.ntmps25
    go_wp2_with fail
    refine bodyPost_ret (v := .tuple #[.pointer none, .int .i64 9]) (by simp [results, Tryd.f25, go_sem]) rfl (newPost_no HE.out (by decide) (Below.refl _ _))
  by_cases h2 : 4096 < exs.length
  · have d1 : decide (4096 < pats.length) = false := by simp [h1]
    have d2 : decide (4096 < exs.length) = true := by simp [h2]
    have HE := Lib.hid (show newE pats exs left right = 9 by unfold newE; rw [if_pos (.inr h2)])
    go_enter Tryd.func25, Tryd.ntmps25
    go_wp2_with fail
    refine bodyPost_ret (v := .tuple #[.pointer none, .int .i64 9]) (by simp [results, Tryd.f25, go_sem]) rfl (newPost_no HE.out (by decide) (Below.refl _ _))
  have d1 : decide (4096 < pats.length) = false := by simp [h1]
  have d2 : decide (4096 < exs.length) = false := by simp [h2]
  have HE0 := Lib.hid (show newE pats exs left right = if fe pats ≠ 0 then fe pats else if exBad exs = true then 14 else if dupB exs = true then 7 else if rangeB left right = true then 2 else 0 by unfold newE; rw [if_neg (by omega)])
  have hpn : pats.length ≤ 4096 := by omega
  have hen : exs.length ≤ 4096 := by omega
  go_enter Tryd.func25, Tryd.ntmps25
  go_wp2_with fail
  obtain ⟨W, hW⟩ : ∃ W, (w.alloc (.map #[] 0)).alloc (.cells #[.map none, .slice none 0 0, .map (some w.heap.size), .int .i64 left, .int .i64 right] 71) = W := ⟨_, rfl⟩
  obtain ⟨t1, t2, t3⟩ := trie_init w left right W hW
  simp only [hW]
  have T1 := Lib.hid t1
  have T2 := Lib.hid t2
  clear t1 t2 hW
  go_loopw [40] (fun i wr => ∃ (k K : Nat) (f : TF), k ≤ pats.length ∧ i = .int .i64 (k : Int) ∧ K ≤ 40 * k ∧ Hid (Trie wr w.heap.size (w.heap.size + 1) w.heap.size (some (.map #[] 0)) f K) ∧ Hid (RootOf f (w.heap.size + 1) [.map (some w.heap.size), .int .i64 left, .int .i64 right] 71) ∧ Hid (Holds f ((pats.take k).map fun s => (parseP s).2)) ∧ Hid (Below w.heap.size w wr) ∧ Hid (∀ j, j < k → (parseP (pats.getD j [])).1 = 0)) (fun i _ => pats.length - (intOf i).toNat)
  case atStart => exact ⟨0, 0, _, Nat.zero_le _, rfl, Nat.zero_le _, T1, Lib.hid (root_one _ _ _ _), Lib.hid (fun q => by rw [contT_one]; rfl), T2, Lib.hid (fun j hj => absurd hj (Nat.not_lt_zero j))⟩
  case round =>
    obtain ⟨k, K, f, hk, rfl, hK, HT, HR, HH, HB, HA⟩ := hrel
    have hws := HB.out.size
    by_cases hlt : k < pats.length
    · obtain ⟨pb, poff, rfl, hcell⟩ := strs_at HPS.out HB.out hlt
      have hsm : pats.getD k [] ∈ pats := by rw [List.getD_eq_getElem?_getD, List.getElem?_eq_getElem hlt]; exact List.getElem_mem hlt
      have htk := take_snoc pats [] k hlt
      have HFE := Lib.hid (fe_at pats k hlt HA.out)
      have HA2 := Lib.hid (fun (h0 : (parseP (pats.getD k [])).1 = 0) (j : Nat) (hj : j < k + 1) => show (parseP (pats.getD j [])).1 = 0 by
        rcases Nat.lt_or_ge j k with hx | hx
        · exact HA.out j hx
        · have : j = k := by omega
          rw [this]; exact h0)
      obtain ⟨s, hs⟩ : ∃ s, pats.getD k [] = s := ⟨_, rfl⟩
      rw [hs] at hcell hsm htk HFE HA2
      have hsl := HPL.out s hsm
      have HTK := Lib.hid htk
      clear hs hsm htk
      obtain ⟨e, P, hpe⟩ : ∃ e P, parseP s = (e, P) := ⟨_, _, rfl⟩
      have HPE := Lib.hid hpe
      clear hpe
      by_cases he0 : e = 0
      · subst he0
        have hz : (parseP s).1 = 0 := by rw [HPE.out]
        obtain ⟨_, z1, z2, _⟩ := parseP_zero hz
        rw [HPE.out] at z1 z2
        have HLE := Lib.hid z1
        have HA3 := Lib.hid (HA2.out hz)
        have hPl : P.letters.length ≤ 4294967296 := by
          have := HPE.out
          unfold parseP at this
          rw [HPE.out] at hz
          have hh := parseP_zero (s := s) (by rw [HPE.out])
          rw [HPE.out] at hh
          have h3 := encI_le (ptsI P.letters)
          have h4 := encI_valid (l := P.letters) (letsP_iff.1 hh.2.1).1
          rw [h4] at h3
          have h5 : (ptsI P.letters).length ≤ 40 := hh.2.2.1
          omega
        clear z1 hz
        have HLP := Lib.hid (show ∀ c, c ∈ ptsI P.letters → -9223372036854775808 ≤ c ∧ c ≤ 9223372036854775807 from fun c hc => by
          have h1 := okI_pts P.letters
          unfold okI at h1
          have h2 := (isPtI_iff c).1 (List.all_eq_true.1 h1 c hc)
          omega)
        have HCN := Lib.hid (show (contT f (ptsI P.letters)).length ≤ 1000000 by
          have h1 := holds_len HH.out (ptsI P.letters)
          rw [List.length_map, List.length_take] at h1
          omega)
        go_wp2_with (first
          | (go_at_call 20; refine (parse_any s hsl _).mono ?_; unfold ParsePost; rw [HPE.out]; rintro e1 w1 ⟨pv, rfl, hb1, hr1⟩; obtain ⟨vao, vcap, rfl⟩ := row_slice hr1; unfold patV; have hs1 := hb1.size)
          | (go_at_call 39; refine (lets_yes HLE.out hPl _).mono ?_; rintro e3 w3 ⟨lao, lcap, rfl, hb3, hr3⟩; have HT3 := Lib.hid ((((HT.out.below hb1).alloc _).below hb3)); have BP3 := Lib.hid ((Blk.new w1 33 #[.string ⟨P.letters.toArray⟩, .slice vao P.levels.length vcap, .bool P.beg, .bool P.fin]).below hb3 (by simp)); obtain ⟨b0, b1, b2, b3⟩ := BP3.out.four; have hs3 := hb3.size; simp only [World.size_alloc] at hs3; have HP3 := Lib.hid (IntRow.weak (row_turn hr1 (((Turn.refl [] w1).alloc (.cells #[.string ⟨P.letters.toArray⟩, .slice vao P.levels.length vcap, .bool P.beg, .bool P.fin] 33)).below hb3 (by simp)) (fun _ _ => by simp)) hws); have HL3 := Lib.hid (IntRow.weak hr3.out (show w.heap.size ≤ _ by simp; omega)); have HB3 := Lib.hid ((HB.out.trans (hb1.mono hws)).trans (((Below.refl w.heap.size w1).alloc (by omega) (.cells #[.string ⟨P.letters.toArray⟩, .slice vao P.levels.length vcap, .bool P.beg, .bool P.fin] 33)).trans (hb3.mono (by simp; omega))))))
        go_region_law (first
            | (go_simp; go_at_call 46; refine (add_any (HT3.out.below (below_drewN (Below.refl _ _) _)) HR.out (ptsI P.letters) P _ _ (IntRow.drewN HL3.out _) (IntRow.drewN HP3.out _) HLP.out (by omega) HCN.out (show w.heap.size ≤ w3.heap.size by omega)).mono ?_; rintro e4 w4 ⟨rfl, hb4, f4, t4, r4, c4⟩; have T4 := Lib.hid t4; have R4 := Lib.hid r4; have C4 := Lib.hid (HH.out.add rfl c4); have B4 := Lib.hid (HB3.out.trans (below_undrewN hb4)); clear t4 r4 c4 hb4))
        all_goals
          go_wp2_with fail
          exact ⟨⟨k + 1, K + (ptsI P.letters).length, f4, hlt, by go_num, by omega, T4, R4, Lib.hid (by rw [HTK.out, List.map_append]; have := C4.out; rw [show (fun s => (parseP s).2) = (fun s : List UInt8 => (parseP s).2) from rfl]; simpa [HPE.out] using this), B4, HA3⟩, by simp [intOf]; omega⟩
      · have dz : (e = 0) = False := by simp [he0]
        have HEE := Lib.hid (show newE pats exs left right = e by
          have h1 := HFE.out (by rw [HPE.out]; exact he0)
          rw [HPE.out] at h1
          rw [HE0.out, h1, if_pos he0])
        go_wp2_with (go_at_call 20; refine (parse_any s hsl _).mono ?_; unfold ParsePost; rw [HPE.out]; rintro e1 w1 ⟨pv, rfl, hb1, hr1⟩; obtain ⟨vao, vcap, rfl⟩ := row_slice hr1; unfold patV; have hs1 := hb1.size)
        refine bodyPost_ret (v := .tuple #[.pointer none, .int .i64 (e : Int)]) (by simp [results, Tryd.f25, go_sem]) rfl (newPost_no HEE.out he0 ((HB.out.trans (hb1.mono hws)).alloc (by have := hb1.size; omega) _))
    · have hke : k = pats.length := by omega
      subst hke
      have hall : pats.take pats.length = pats := List.take_length
      have HH2 := Lib.hid (show Holds f (pats.map fun s => (parseP s).2) by have := HH.out; rwa [hall] at this)
      have HF0 := Lib.hid (fe_none pats (fun j hj => HA.out j (by omega)))
      have d7 : decide (pats.length < pats.length) = false := by simp
      have HX0 := Lib.hid (exmap_empty (B := w.heap.size) HT.out.ex.2.2)
      clear hall HH HA
      go_wp2_with fail
      go_loopw [17, 67] (fun dv i wr => ∃ (j : Nat) (dbl : Bool) (eo : Option Obj), j ≤ exs.length ∧ i = .int .i64 (j : Int) ∧ dv = .bool dbl ∧ Hid (Trie wr w.heap.size (w.heap.size + 1) w.heap.size eo f K) ∧ Hid (ExMap wr w.heap.size w.heap.size ((exs.take j).map exOf)) ∧ Hid (Below w.heap.size w wr) ∧ Hid (∀ i, i < j → (exP (foldP (exs.getD i []))).2.2 = true) ∧ Hid (dbl = !decide (((exs.take j).map fun s => (exOf s).1).Nodup))) (fun _ i _ => exs.length - (intOf i).toNat)
      case atStart => exact ⟨0, false, _, Nat.zero_le _, rfl, rfl, HT, HX0, HB, Lib.hid (fun i hi => absurd hi (Nat.not_lt_zero i)), Lib.hid (by simp)⟩
      case round =>
        clear HX0 HT HB
        obtain ⟨j, dbl, eo, hj, rfl, rfl, HT, HX, HB, HA, HD⟩ := hrel
        have hws2 := HB.out.size
        by_cases hlt2 : j < exs.length
        · obtain ⟨pb, poff, rfl, hcell⟩ := strs_at HES.out HB.out hlt2
          have hsm : exs.getD j [] ∈ exs := by rw [List.getD_eq_getElem?_getD, List.getElem?_eq_getElem hlt2]; exact List.getElem_mem hlt2
          have htk := take_snoc exs [] j hlt2
          have HBD := Lib.hid (bad_at (l := exs) (k := j) hlt2)
          have HA2 := Lib.hid (fun (h0 : (exP (foldP (exs.getD j []))).2.2 = true) (i : Nat) (hi : i < j + 1) => show (exP (foldP (exs.getD i []))).2.2 = true by
            rcases Nat.lt_or_ge i j with hx | hx
            · exact HA.out i hx
            · have : i = j := by omega
              rw [this]; exact h0)
          obtain ⟨s, hs⟩ : ∃ s, exs.getD j [] = s := ⟨_, rfl⟩
          rw [hs] at hcell hsm htk HBD HA2
          have hsl := HEL.out s hsm
          have HTK := Lib.hid htk
          have hfl : (foldP s).length ≤ 100000000 := by unfold foldP; rw [List.length_map]; exact hsl
          have hwl := exP_len (foldP s)
          clear hs hsm htk
          obtain ⟨wd, ps, ok, hx⟩ : ∃ wd ps ok, exP (foldP s) = (wd, ps, ok) := ⟨_, _, _, rfl⟩
          have HXP := Lib.hid hx
          rw [hx] at hwl
          have hwl2 : wd.length ≤ 4294967296 := Nat.le_trans hwl (by omega)
          clear hx hwl
          cases ok with
          | false =>
            have HEE := Lib.hid (show newE pats exs left right = 14 by
              rw [HE0.out, HF0.out, HBD.out (by rw [HXP.out])]; rfl)
            go_wp2_with (first
              | (go_at_call 29; refine (fold_at s (by omega) _).mono ?_; rintro e2 w3 ⟨rfl, hb3⟩; have hs3 := hb3.size)
              | (go_at_call 47; refine (exception_any (foldP s) hfl _).mono ?_; unfold ExPost; rw [HXP.out]; rintro e2 w4 ⟨pv, rfl, hb4, hr4⟩))
            refine bodyPost_ret (v := .tuple #[.pointer none, .int .i64 14]) (by simp [results, Tryd.f25, go_sem]) rfl (newPost_no HEE.out (by decide) ((HB.out.trans (hb3.mono hws2)).trans (hb4.mono (by omega))))
          | true =>
            have HA3 := Lib.hid (HA2.out (by rw [HXP.out]))
            have hex : exOf s = (wd, ps) := by unfold exOf; rw [HXP.out]
            have HEX := Lib.hid hex
            clear hex
            cases dbl
            all_goals
              go_wp2_with (first
                | (go_at_call 29; refine (fold_at s (by omega) _).mono ?_; rintro e2 w3 ⟨rfl, hb3⟩; have hs3 := hb3.size)
                | (go_at_call 47; refine (exception_any (foldP s) hfl _).mono ?_; unfold ExPost; rw [HXP.out]; rintro e2 w4 ⟨pv, rfl, hb4, hr4⟩; have hs4 := hb4.size; obtain ⟨vao, vcap, rfl⟩ := row_slice hr4; have HT4 := Lib.hid ((HT.out.below hb3).below hb4); have HX4 := Lib.hid ((HX.out.below hb3).below hb4); have HB4 := Lib.hid ((HB.out.trans (hb3.mono hws2)).trans (hb4.mono (by omega))); obtain ⟨mb, pvr, hblk⟩ := RootOf.blk HT4.out HR.out; have c2 := hblk.cell 2; simp at c2; obtain ⟨n, D, x1, x2, x3⟩ := HX4.out; have hnl : n ≤ 4096 := (by rw [List.length_map, List.length_take] at x2; omega); obtain ⟨lv, lps, hl, _⟩ := x1.look_ok skey Tryd.underlying69 (z := .slice none 0 0) (by kernel_rfl) (zd := .held (.slice none 0 0)) (zp := []) rfl (kSkey wd hwl2); rw [(x3 wd).1] at hl; obtain ⟨bb, hbb⟩ : ∃ bb, (exLook ((exs.take j).map exOf) wd).isSome = bb := ⟨_, rfl⟩; rw [hbb] at hl; have HBB := Lib.hid hbb; clear hbb; have X1 := Lib.hid x1; have X2 := Lib.hid x2; have X3 := Lib.hid x3; have HR4 := Lib.hid (IntRow.weak hr4 (show w.heap.size ≤ _ by omega)); clear x1 x2 x3 hblk)
                | (at_mapUpdate; refine wpList_mapUpdate_in _ rfl _ _ _ 69 rfl 9 26 skey Tryd.underlying69 _ w.heap.size _ _ rfl X1.out (by unfold maxLen; omega) _ _ _ rfl rfl (kSkey wd hwl2) _ [] rfl ?_; intro w5 ho ht; have HX5 := Lib.hid (ExMap.put X1.out X2.out X3.out HR4.out ho ht); have HT5 := Lib.hid (HT4.out.exturn ht); have HB5 := Lib.hid (HB4.out.trans ((mapTurned_turn ht).toBelow (B := w.heap.size) (fun i hi => by simp at hi; omega) (by omega))); clear ho ht))
              have HD2 := nodup_snoc HTK.out HEX.out HD.out
              rw [HBB.out] at HD2
              exact ⟨⟨j + 1, _, _, hlt2, by go_num, rfl, HT5, Lib.hid (by rw [HTK.out, List.map_append, List.map_cons, List.map_nil, HEX.out]; exact HX5.out), HB5, HA3, Lib.hid HD2⟩, by simp [intOf]; omega⟩
        · have hje : j = exs.length := by omega
          subst hje
          have hall : exs.take exs.length = exs := List.take_length
          have HX2 := Lib.hid (show ExMap wr w.heap.size w.heap.size (exs.map exOf) by have := HX.out; rwa [hall] at this)
          have HNB := Lib.hid (bad_none (l := exs) (fun i hi => HA.out i (by omega)))
          have HDB := Lib.hid (show dupB exs = dbl by have := HD.out; rw [hall] at this; rw [this]; rfl)
          have d8 : decide (exs.length < exs.length) = false := by simp
          have HEE := Lib.hid (show newE pats exs left right = if dbl = true then 7 else if rangeB left right = true then 2 else 0 by
            rw [HE0.out, HF0.out, HNB.out, HDB.out]; rfl)
          clear hall HX HA HD
          cases dbl with
          | true =>
            go_wp2_with fail
            refine bodyPost_ret (v := .tuple #[.pointer none, .int .i64 7]) (by simp [results, Tryd.f25, go_sem]) rfl (newPost_no (n := 7) (by rw [HEE.out]; rfl) (by decide) HB.out)
          | false =>
            by_cases r1 : left < 1
            · have e1 : decide (left < 1) = true := by simp [r1]
              have HRB := Lib.hid (show rangeB left right = true by unfold rangeB; rw [e1]; rfl)
              go_wp2_with fail
              refine bodyPost_ret (v := .tuple #[.pointer none, .int .i64 2]) (by simp [results, Tryd.f25, go_sem]) rfl (newPost_no (n := 2) (by rw [HEE.out, HRB.out]; rfl) (by decide) HB.out)
            have e1 : decide (left < 1) = false := by simp [r1]
            by_cases r2 : 64 < left
            · have e2 : decide (64 < left) = true := by simp [r2]
              have HRB := Lib.hid (show rangeB left right = true by unfold rangeB; rw [e1, e2]; rfl)
              go_wp2_with fail
              refine bodyPost_ret (v := .tuple #[.pointer none, .int .i64 2]) (by simp [results, Tryd.f25, go_sem]) rfl (newPost_no (n := 2) (by rw [HEE.out, HRB.out]; rfl) (by decide) HB.out)
            have e2 : decide (64 < left) = false := by simp [r2]
            by_cases r3 : right < 1
            · have e3 : decide (right < 1) = true := by simp [r3]
              have HRB := Lib.hid (show rangeB left right = true by unfold rangeB; rw [e1, e2, e3]; rfl)
              go_wp2_with fail
              refine bodyPost_ret (v := .tuple #[.pointer none, .int .i64 2]) (by simp [results, Tryd.f25, go_sem]) rfl (newPost_no (n := 2) (by rw [HEE.out, HRB.out]; rfl) (by decide) HB.out)
            have e3 : decide (right < 1) = false := by simp [r3]
            by_cases r4 : 64 < right
            · have e4 : decide (64 < right) = true := by simp [r4]
              have HRB := Lib.hid (show rangeB left right = true by unfold rangeB; rw [e1, e2, e3, e4]; rfl)
              go_wp2_with fail
              refine bodyPost_ret (v := .tuple #[.pointer none, .int .i64 2]) (by simp [results, Tryd.f25, go_sem]) rfl (newPost_no (n := 2) (by rw [HEE.out, HRB.out]; rfl) (by decide) HB.out)
            have e4 : decide (64 < right) = false := by simp [r4]
            have HRB := Lib.hid (show rangeB left right = false by unfold rangeB; rw [e1, e2, e3, e4]; rfl)
            go_wp2_with fail
            refine bodyPost_ret (v := .tuple #[.pointer (some ⟨w.heap.size + 1, 0, none⟩), .int .i64 0]) (by simp [results, Tryd.f25, go_sem]) rfl (newPost_yes (by rw [HEE.out, HRB.out]; rfl) HB.out ⟨w.heap.size, eo, f, K, HT.out, HR.out, HH2.out, HX2.out⟩)
end Go.Proofs.YtdcdlmigagjbiaaDoor
/- word walked. -/
namespace Go.Proofs.YtdcdlmigagjbiaaDoor
open Go.RowKit Go.Maps
theorem foldP_len (t : List UInt8) : (foldP t).length = t.length := by unfold foldP; rw [List.length_map]
theorem word_nil (t : List UInt8) (w : World) : Calls Tryd.prog 35 #[.pointer none, .string ⟨t.toArray⟩] w fun e w' => e = .returned (.tuple #[.slice none 0 0, .bool false]) ∧ w = w' := by
  go_enter Tryd.func35, Tryd.ntmps35
  go_wp2
  refine bodyPost_ret (v := .tuple #[.slice none 0 0, .bool false]) (by simp [results, Tryd.f35, go_sem]) rfl ⟨rfl, rfl⟩
def WordYes (L : List Int) (w : World) (e : Ending) (w' : World) : Prop := ∃ ao cap, e = .returned (.tuple #[.slice ao L.length cap, .bool true]) ∧ Below w.heap.size w w' ∧ Hid (IntRow w' w.heap.size (.slice ao L.length cap) L)
def WordNo (w : World) (e : Ending) (w' : World) : Prop := ∃ v, e = .returned (.tuple #[v, .bool false]) ∧ Below w.heap.size w w'
theorem wordP_some {t : List UInt8} {L : List Int} (h : wordP t = some L) : letsP t = true ∧ ptsI t = L ∧ 0 < L.length ∧ L.length ≤ 64 := by
  unfold wordP at h
  split at h
  · rename_i h1
    obtain rfl := Option.some.inj h
    exact ⟨h1.1, rfl, h1.2.1, h1.2.2⟩
  · cases h
theorem word_yes {t : List UInt8} {L : List Int} (h : wordP (foldP t) = some L) (ht : t.length ≤ 100000000) (a : Addr) (w : World) :
    Calls Tryd.prog 35 #[.pointer (some a), .string ⟨t.toArray⟩] w (WordYes L w) := by
  obtain ⟨h1, h2, h3, h4⟩ := wordP_some h
  have hfl := foldP_len t
  have hy := fun w => lets_yes h1 (by omega) w
  rw [h2] at hy
  have HY := Lib.hid hy
  have d1 : decide (0 < L.length) = true := by simp [h3]
  have d2 : decide (L.length ≤ 64) = true := by simp [h4]
  clear h h1 h2 hy
  go_enter Tryd.func35, Tryd.ntmps35
  go_wp2_with (first
    | (go_at_call 29; refine (fold_at t (by omega) _).mono ?_; rintro e w1 ⟨rfl, hb1⟩; have hs1 := hb1.size)
    | (go_at_call 39; refine (HY.out _).mono ?_; rintro e w2 ⟨ao, cap, rfl, hb2, hr2⟩))
  refine bodyPost_ret (v := .tuple #[.slice ao L.length cap, .bool true]) (by simp [results, Tryd.f35, go_sem]; omega) rfl ⟨ao, cap, rfl, hb1.trans (hb2.mono hs1), Lib.hid (IntRow.weak hr2.out hs1)⟩
theorem word_no {t : List UInt8} (h : wordP (foldP t) = none) (ht : t.length ≤ 100000000) (a : Addr) (w : World) :
    Calls Tryd.prog 35 #[.pointer (some a), .string ⟨t.toArray⟩] w (WordNo w) := by
  have hfl := foldP_len t
  cases hle : letsP (foldP t) with
  | false =>
    have HY := Lib.hid (fun w => lets_no hle (by omega) w)
    clear h hle
    go_enter Tryd.func35, Tryd.ntmps35
    go_wp2_with (first
      | (go_at_call 29; refine (fold_at t (by omega) _).mono ?_; rintro e w1 ⟨rfl, hb1⟩; have hs1 := hb1.size)
      | (go_at_call 39; refine (HY.out _).mono ?_; rintro e w2 ⟨rfl, hb2⟩))
    refine bodyPost_ret (v := .tuple #[.slice none 0 0, .bool false]) (by simp [results, Tryd.f35, go_sem]) rfl ⟨_, rfl, hb1.trans (hb2.mono hs1)⟩
  | true =>
    have hn : ¬ (0 < (ptsI (foldP t)).length ∧ (ptsI (foldP t)).length ≤ 64) := by
      intro hc
      unfold wordP at h
      rw [if_pos ⟨hle, hc⟩] at h
      cases h
    obtain ⟨L, hL⟩ : ∃ L, ptsI (foldP t) = L := ⟨_, rfl⟩
    have hy := fun w => lets_yes hle (by omega) w
    rw [hL] at hy hn
    have HY := Lib.hid hy
    clear h hle hL hy
    by_cases h0 : L.length = 0
    · have d0 : decide (0 < L.length) = false := by simp [h0]
      go_enter Tryd.func35, Tryd.ntmps35
      go_wp2_with (first
        | (go_at_call 29; refine (fold_at t (by omega) _).mono ?_; rintro e w1 ⟨rfl, hb1⟩; have hs1 := hb1.size)
        | (go_at_call 39; refine (HY.out _).mono ?_; rintro e w2 ⟨ao, cap, rfl, hb2, hr2⟩))
      refine bodyPost_ret (v := .tuple #[.slice ao 0 cap, .bool false]) (by simp [results, Tryd.f35, go_sem]) rfl ⟨_, rfl, hb1.trans (hb2.mono hs1)⟩
    · have d0 : decide (0 < L.length) = true := by simp; omega
      have d2 : decide (L.length ≤ 64) = false := by simp; omega
      have h64 : 64 < L.length := by omega
      clear hn
      go_enter Tryd.func35, Tryd.ntmps35
      go_wp2_with (first
        | (go_at_call 29; refine (fold_at t (by omega) _).mono ?_; rintro e w1 ⟨rfl, hb1⟩; have hs1 := hb1.size)
        | (go_at_call 39; refine (HY.out _).mono ?_; rintro e w2 ⟨ao, cap, rfl, hb2, hr2⟩))
      refine bodyPost_ret (v := .tuple #[.slice ao L.length cap, .bool false]) (by simp [results, Tryd.f35, go_sem]; omega) rfl ⟨_, rfl, hb1.trans (hb2.mono hs1)⟩
end Go.Proofs.YtdcdlmigagjbiaaDoor
/- What the rounds of Levels say of the places, plain. -/
namespace Go.Proofs.YtdcdlmigagjbiaaDoor
def qL (P : Pat) : List Int := ptsI P.letters
def PatOk (P : Pat) : Prop := 0 < (qL P).length ∧ P.levels.length = (qL P).length + 1
def contr (at_ : Nat) (P : Pat) (j : Nat) (y : Int) : Prop := ∃ k, at_ + k = j ∧ P.levels[k]? = some y
def C0 (pats : List Pat) (l : List Int) (fr j : Nat) (y : Int) : Prop := ∃ P, P ∈ pats ∧ ∃ at_, at_ < fr ∧ matchB l P at_ = true ∧ contr at_ P j y
def C1 (pats : List Pat) (l : List Int) (fr to j : Nat) (y : Int) : Prop := C0 pats l fr j y ∨ ∃ P, P ∈ pats ∧ matchB l P fr = true ∧ (qL P).length ≤ to - fr ∧ contr fr P j y
def C2 (pats : List Pat) (l : List Int) (fr to : Nat) (ps : List Pat) (i j : Nat) (y : Int) : Prop := C1 pats l fr to j y ∨ ∃ P, P ∈ ps.take i ∧ matchB l P fr = true ∧ contr fr P j y
def C3 (pats : List Pat) (l : List Int) (fr to : Nat) (ps : List Pat) (i : Nat) (P : Pat) (k j : Nat) (y : Int) : Prop := C2 pats l fr to ps i j y ∨ ∃ k', k' < k ∧ fr + k' = j ∧ P.levels[k']? = some y
def path (l : List Int) (fr to : Nat) : List Int := (l.drop fr).take (to - fr)
theorem path_len {l : List Int} {fr to : Nat} (h : fr ≤ to) (h' : to ≤ l.length) : (path l fr to).length = to - fr := by
  unfold path; rw [List.length_take, List.length_drop]; omega
theorem path_nil (l : List Int) (fr : Nat) : path l fr fr = [] := by unfold path; rw [Nat.sub_self]; rfl
theorem path_snoc {l : List Int} {fr to : Nat} (h : fr ≤ to) (h' : to < l.length) : path l fr (to + 1) = path l fr to ++ [l.getD to 0] := by
  unfold path
  rw [show to + 1 - fr = (to - fr) + 1 from by omega, take_snoc _ 0 _ (by rw [List.length_drop]; omega)]
  congr 2
  rw [List.getD_eq_getElem?_getD, List.getD_eq_getElem?_getD, List.getElem?_drop, show fr + (to - fr) = to from by omega]
theorem match_parts {l : List Int} {P : Pat} {fr : Nat} (h : matchB l P fr = true) : fr + (qL P).length ≤ l.length ∧ path l fr (fr + (qL P).length) = qL P ∧ (P.beg = true → fr = 0) ∧ (P.fin = true → fr + (qL P).length = l.length) := by
  unfold matchB at h
  simp only [Bool.and_eq_true, decide_eq_true_eq, beq_iff_eq, Bool.or_eq_true, Bool.not_eq_true'] at h
  obtain ⟨⟨⟨h1, h2⟩, h3⟩, h4⟩ := h
  refine ⟨h1, ?_, fun hb => ?_, fun hb => ?_⟩
  · unfold path; rw [show fr + (qL P).length - fr = (qL P).length from by omega]; exact h2
  · rcases h3 with h3 | h3
    · rw [hb] at h3; cases h3
    · exact h3
  · rcases h4 with h4 | h4
    · rw [hb] at h4; cases h4
    · exact h4
theorem match_of {l : List Int} {P : Pat} {fr to : Nat} (h : fr ≤ to) (h' : to ≤ l.length) (hq : qL P = path l fr to) : matchB l P fr = ((!P.beg || decide (fr = 0)) && (!P.fin || decide (to = l.length))) := by
  have hl : (ptsI P.letters).length = to - fr := by
    show (qL P).length = _
    rw [hq, path_len h h']
  have ht : ((l.drop fr).take (ptsI P.letters).length == ptsI P.letters) = true := by
    rw [hl, beq_iff_eq]
    show path l fr to = qL P
    exact hq.symm
  have e2 : decide (fr + (ptsI P.letters).length ≤ l.length) = true := by rw [decide_eq_true_eq, hl]; omega
  have e3 : (fr == 0) = decide (fr = 0) := by cases fr <;> simp
  have e4 : (fr + (ptsI P.letters).length == l.length) = decide (to = l.length) := by
    rw [hl, show fr + (to - fr) = to from by omega]
    by_cases e : to = l.length <;> simp [e]
  unfold matchB
  rw [ht, e2, e3, e4]
  simp
section
variable {pats : List Pat} {l : List Int} (hok : ∀ P, P ∈ pats → PatOk P)
include hok
theorem C0_all (j : Nat) (y : Int) : C0 pats l l.length j y ↔ allC pats l j y := by
  constructor
  · rintro ⟨P, hP, at_, _, hm, k, h1, h2⟩
    exact ⟨P, hP, at_, k, hm, h1, h2⟩
  · rintro ⟨P, hP, at_, k, hm, h1, h2⟩
    have := (match_parts hm).1
    have := (hok P hP).1
    exact ⟨P, hP, at_, by omega, hm, k, h1, h2⟩
theorem C1_start (fr j : Nat) (y : Int) : C1 pats l fr fr j y ↔ C0 pats l fr j y := by
  constructor
  · rintro (h | ⟨P, hP, _, h1, _⟩)
    · exact h
    · have := (hok P hP).1
      omega
  · exact .inl
omit hok in
theorem C1_end (fr to : Nat) (h : ∀ P, P ∈ pats → matchB l P fr = true → (qL P).length ≤ to - fr) (j : Nat) (y : Int) : C1 pats l fr to j y ↔ C0 pats l (fr + 1) j y := by
  constructor
  · rintro (⟨P, hP, at_, h1, h2⟩ | ⟨P, hP, hm, _, hc⟩)
    · exact ⟨P, hP, at_, by omega, h2⟩
    · exact ⟨P, hP, fr, by omega, hm, hc⟩
  · rintro ⟨P, hP, at_, h1, hm, hc⟩
    by_cases e : at_ = fr
    · subst e
      exact .inr ⟨P, hP, hm, h P hP hm, hc⟩
    · exact .inl ⟨P, hP, at_, by omega, hm, hc⟩
omit hok in
theorem C1_full (fr : Nat) (j : Nat) (y : Int) : C1 pats l fr l.length j y ↔ C0 pats l (fr + 1) j y :=
  C1_end fr l.length (fun P _ hm => by have := (match_parts hm).1; omega) j y
omit hok in
/-- behind a node without a child -/
theorem C1_break {f : TF} (hf : Holds f pats) (fr to : Nat) (hft : fr ≤ to) (hn : ∀ r, contT f (path l fr (to + 1) ++ r) = []) (j : Nat) (y : Int) : C1 pats l fr to j y ↔ C0 pats l (fr + 1) j y := by
  refine C1_end fr to (fun P hP hm => ?_) j y
  obtain ⟨h1, h2, _⟩ := match_parts hm
  rcases Nat.lt_or_ge (to - fr) (qL P).length with hlt | hge
  · exfalso
    have hq : qL P = path l fr (to + 1) ++ (l.drop (to + 1)).take (fr + (qL P).length - (to + 1)) := by
      refine h2.symm.trans ?_
      unfold path
      rw [show fr + (qL P).length - fr = (to + 1 - fr) + (fr + (qL P).length - (to + 1)) from by omega, List.take_add, List.drop_drop, show fr + (to + 1 - fr) = to + 1 from by omega]
    have h3 := hn ((l.drop (to + 1)).take (fr + (qL P).length - (to + 1)))
    rw [← hq, hf (qL P)] at h3
    have h4 : P ∈ pats.filter fun P' => decide (ptsI P'.letters = qL P) := List.mem_filter.2 ⟨hP, by simp [qL]⟩
    rw [h3] at h4
    cases h4
  · exact hge
omit hok in
theorem C2_start (fr to : Nat) (ps : List Pat) (j : Nat) (y : Int) : C2 pats l fr to ps 0 j y ↔ C1 pats l fr to j y := by
  constructor
  · rintro (h | ⟨P, hP, _⟩)
    · exact h
    · simp at hP
  · exact .inl
omit hok in
theorem C2_end {f : TF} (hf : Holds f pats) (fr to : Nat) (hft : fr ≤ to) (hto : to < l.length) {ps : List Pat} (hps : ps = contT f (path l fr (to + 1))) (j : Nat) (y : Int) : C2 pats l fr to ps ps.length j y ↔ C1 pats l fr (to + 1) j y := by
  have hmem : ∀ P, P ∈ ps ↔ P ∈ pats ∧ qL P = path l fr (to + 1) := fun P => by
    rw [hps, hf, List.mem_filter, decide_eq_true_eq]; rfl
  unfold C2
  rw [List.take_length]
  constructor
  · rintro ((h | ⟨P, hP, hm, h1, hc⟩) | ⟨P, hP, hm, hc⟩)
    · exact .inl h
    · exact .inr ⟨P, hP, hm, by omega, hc⟩
    · obtain ⟨h1, h2⟩ := (hmem P).1 hP
      exact .inr ⟨P, h1, hm, by rw [h2, path_len (by omega) (by omega)]; omega, hc⟩
  · rintro (h | ⟨P, hP, hm, h1, hc⟩)
    · exact .inl (.inl h)
    · rcases Nat.lt_or_ge (to - fr) (qL P).length with hlt | hge
      · refine .inr ⟨P, (hmem P).2 ⟨hP, ?_⟩, hm, hc⟩
        obtain ⟨_, h2, _⟩ := match_parts hm
        rw [← h2, show fr + (qL P).length = to + 1 from by omega]
      · exact .inl (.inr ⟨P, hP, hm, hge, hc⟩)
omit hok in
theorem C2_skip (fr to : Nat) {ps : List Pat} {i : Nat} (hi : i < ps.length) (hm : matchB l (ps.getD i .zero) fr = false) (j : Nat) (y : Int) : C2 pats l fr to ps (i + 1) j y ↔ C2 pats l fr to ps i j y := by
  unfold C2
  rw [take_snoc ps .zero i hi]
  constructor
  · rintro (h | ⟨P, hP, h1, h2⟩)
    · exact .inl h
    · rcases List.mem_append.1 hP with hP | hP
      · exact .inr ⟨P, hP, h1, h2⟩
      · obtain rfl : P = ps.getD i .zero := by simpa using hP
        rw [hm] at h1; cases h1
  · rintro (h | ⟨P, hP, h1⟩)
    · exact .inl h
    · exact .inr ⟨P, List.mem_append_left _ hP, h1⟩
omit hok in
theorem C3_start (fr to : Nat) (ps : List Pat) (i : Nat) (P : Pat) (j : Nat) (y : Int) : C3 pats l fr to ps i P 0 j y ↔ C2 pats l fr to ps i j y := by
  constructor
  · rintro (h | ⟨k, hk, _⟩)
    · exact h
    · omega
  · exact .inl
omit hok in
theorem C3_step (fr to : Nat) (ps : List Pat) (i : Nat) (P : Pat) (k : Nat) (x : Int) (hx : P.levels[k]? = some x) (j : Nat) (y : Int) : C3 pats l fr to ps i P (k + 1) j y ↔ C3 pats l fr to ps i P k j y ∨ (j = fr + k ∧ y = x) := by
  constructor
  · rintro (h | ⟨k', hk, h1, h2⟩)
    · exact .inl (.inl h)
    · by_cases e : k' = k
      · subst e
        rw [hx] at h2
        exact .inr ⟨h1.symm, (Option.some.inj h2).symm⟩
      · exact .inl (.inr ⟨k', by omega, h1, h2⟩)
  · rintro ((h | ⟨k', hk, h1⟩) | ⟨h1, h2⟩)
    · exact .inl h
    · exact .inr ⟨k', by omega, h1⟩
    · exact .inr ⟨k, by omega, h1.symm, by rw [h2]; exact hx⟩
omit hok in
theorem C3_end (fr to : Nat) {ps : List Pat} {i : Nat} {P : Pat} (hi : i < ps.length) (hP : ps.getD i .zero = P) (hm : matchB l P fr = true) (j : Nat) (y : Int) : C3 pats l fr to ps i P P.levels.length j y ↔ C2 pats l fr to ps (i + 1) j y := by
  unfold C3 C2
  rw [take_snoc ps .zero i hi, hP]
  constructor
  · rintro ((h | ⟨Q, hQ, h1⟩) | ⟨k, hk, h1, h2⟩)
    · exact .inl h
    · exact .inr ⟨Q, List.mem_append_left _ hQ, h1⟩
    · exact .inr ⟨P, by simp, hm, k, h1, h2⟩
  · rintro (h | ⟨Q, hQ, h1, h2⟩)
    · exact .inl (.inl h)
    · rcases List.mem_append.1 hQ with hQ | hQ
      · exact .inl (.inr ⟨Q, hQ, h1, h2⟩)
      · obtain rfl : Q = P := by simpa using hQ
        obtain ⟨k, h3, h4⟩ := h2
        exact .inr ⟨k, (List.getElem?_eq_some_iff.1 h4).1, h3, h4⟩
end
/-- the cells of one pattern of a row -/
theorem patCells_get {w : World} {B : Nat} : ∀ {xs : List Value} {ps : List Pat} (i : Nat), patCells w B xs ps → i < ps.length → ∃ v, xs[4 * i]? = some (.string ⟨(ps.getD i .zero).letters.toArray⟩) ∧ xs[4 * i + 1]? = some v ∧ IntRow w B v (ps.getD i .zero).levels ∧ xs[4 * i + 2]? = some (.bool (ps.getD i .zero).beg) ∧ xs[4 * i + 3]? = some (.bool (ps.getD i .zero).fin)
  | [], [], i, _, h => by simp at h
  | s :: v :: b :: f :: xs, P :: ps, 0, ⟨h1, h2, h3, h4, _⟩, _ => ⟨v, by rw [h1]; rfl, rfl, h2, by rw [h3]; rfl, by rw [h4]; rfl⟩
  | s :: v :: b :: f :: xs, P :: ps, i + 1, ⟨_, _, _, _, h5⟩, h => by
    obtain ⟨u, k1, k2, k3, k4, k5⟩ := patCells_get i h5 (by simpa using h)
    exact ⟨u, k1, k2, k3, k4, k5⟩
  | [], _ :: _, _, h, _ => h.elim
  | [_], _, _, h, _ => by cases h
  | [_, _], _, _, h, _ => by cases h
  | [_, _, _], _, _, h, _ => by cases h
  | _ :: _ :: _ :: _ :: _, [], _, h, _ => h.elim
theorem row_cell {w : World} {B : Nat} {e : TypeId} {v : Value} {n : Nat} {xs : List Value} {size : Nat} (h : w.ownsRow B e size v n xs) (hn : 0 < n) : ∃ g cap, v = .slice (some ⟨g, 0, none⟩) n cap ∧ n ≤ cap ∧ cap ≤ maxLen ∧ g < w.heap.size ∧ ∀ j, j < n * size → w.cell? ⟨g, j, none⟩ = xs[j]? := by
  rcases h.2 with ⟨_, h0⟩ | ⟨g, cap, cur, rfl, hb, hh, hc, hm, _⟩
  · omega
  · exact ⟨g, cap, rfl, hc, hm, (Array.getElem?_eq_some_iff.1 hh).1, fun j hj => h.cellAt j hj⟩
end Go.Proofs.YtdcdlmigagjbiaaDoor
