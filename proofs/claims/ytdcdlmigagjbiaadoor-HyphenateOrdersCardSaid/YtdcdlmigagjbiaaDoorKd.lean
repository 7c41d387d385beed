/- The trie in memory. -/
import Derived.Test.YtdcdlmigagjbiaaDoorKc
import Derived.Test.YtdcdlmigagjbiaaDoorKa
import Derived.Outline
import Derived.Deep.RegionHeld3
import Derived.Carry
import Derived.Deep.AppendLies
namespace Go.Proofs.YtdcdlmigagjbiaaDoor
open Go.RowKit Go.Maps

/-- an element of a map read as itself -/
def rawE (v : Value) : Option (DataW Value × List MemPlace) := some (.held v, [])
def kI (c : Int) : Lit := .int .i64 c
theorem kI_is (c : Int) : WideAt.IsKeyLit (kI c) := by trivial
theorem kI_inj {a b : Int} (h : kI a = kI b) : a = b := by unfold kI at h; injection h
/-- the object at a block is of cells of a type -/
def CellsOf (w : World) (i : Nat) (t : TypeId) : Prop := ∃ cs fz, w.heap[i]? = some (.cells cs t fz)
def MapOf (w : World) (i : Nat) : Prop := ∃ es k, w.heap[i]? = some (.map es k)
theorem cells_cells {w : World} {i : Nat} {t u : TypeId} (h : CellsOf w i t) (k : CellsOf w i u) : t = u := by
  obtain ⟨cs, fz, h⟩ := h
  obtain ⟨cs', fz', k⟩ := k
  rw [h] at k
  injection k with k
  injection k
theorem cells_map {w : World} {i : Nat} {t : TypeId} (h : CellsOf w i t) (k : MapOf w i) : False := by
  obtain ⟨cs, fz, h⟩ := h
  obtain ⟨es, c, k⟩ := k
  rw [h] at k
  injection k with k
  cases k
theorem Blk.cellsOf {w : World} {g : Nat} {t : TypeId} {cs : Array Value} (h : Blk w g t cs) : CellsOf w g t := ⟨_, _, h⟩
theorem row_cellsOf {w : World} {base : Nat} {e : TypeId} {size n : Nat} {v : Value} {xs : List Value} (h : w.ownsRow base e size v n xs) {g : Nat} (hg : v.ownBlock = some g) : CellsOf w g e := by
  rcases h.2 with ⟨rfl, _⟩ | ⟨g', cap, cur, rfl, _, hh, _⟩
  · simp [Value.ownBlock] at hg
  · simp [Value.ownBlock] at hg
    subst hg
    exact ⟨_, _, hh⟩
theorem map_mapOf {H : Type} {P : Program} {k : TypeId} {R : Value → Option (DataW H × List MemPlace)} {w : World} {b n : Nat} {D : DataW H} (h : w.ownsMap P k R b n D) : MapOf w b := by
  obtain ⟨es, c, hb, _⟩ := h
  exact ⟨es, c, hb⟩
/-- the rows of ints with a base -/
def IntRow (w : World) (B : Nat) (v : Value) (l : List Int) : Prop := w.ownsRow B 3 1 v l.length (l.map (Value.int .i64))
theorem IntRow.ints {w : World} {B : Nat} {v : Value} {l : List Int} (h : IntRow w B v l) : Ints w v l := Ints.of_owns h
/-- how the cells of a row of patterns read -/
def patCells (w : World) (B : Nat) : List Value → List Pat → Prop
  | [], [] => True
  | s :: v :: b :: f :: xs, P :: ps => s = .string ⟨P.letters.toArray⟩ ∧ IntRow w B v P.levels ∧ b = .bool P.beg ∧ f = .bool P.fin ∧ patCells w B xs ps
  | _, _ => False
/-- a node: its block, its map, its row, its patterns, the cells behind, its type -/
structure TN where
  blk : Nat
  mb : Option Nat
  pv : Value
  ps : List Pat
  rest : List Value
  typ : TypeId
abbrev TF := List Int → Option TN
def updT (f : TF) (q : List Int) (n : TN) : TF := fun x => if x = q then some n else f x
theorem updT_same (f : TF) (q : List Int) (n : TN) : updT f q n q = some n := if_pos rfl
theorem updT_other (f : TF) {q x : List Int} (n : TN) (h : x ≠ q) : updT f q n x = f x := if_neg h
/-- the map m reads as the children of node q -/
def Kids (w : World) (f : TF) (q : List Int) (m K : Nat) : Prop :=
  ∃ (n : Nat) (D : DataW Value), w.ownsMap (H := Value) Tryd.prog 3 rawE m n D ∧ n ≤ K ∧ ∀ c : Int, Maps.has D (kI c) = (f (q ++ [c])).isSome ∧ ∀ n', f (q ++ [c]) = some n' → ∀ z, D.atKey (kI c) z = .held (.pointer (some ⟨n'.blk, 0, none⟩))
structure Trie (w : World) (B hb eb : Nat) (eo : Option Obj) (f : TF) (K : Nat) : Prop where
  root : ∃ n, f [] = some n ∧ n.blk = hb
  closed : ∀ q c, (f (q ++ [c])).isSome = true → (f q).isSome = true
  node : ∀ q n, f q = some n → Blk w n.blk n.typ (#[.map n.mb, n.pv] ++ n.rest.toArray) ∧ (n.typ = 68 ∨ n.typ = 71) ∧ B ≤ n.blk
  row : ∀ q n, f q = some n → ∃ xs, w.ownsRow B 33 4 n.pv n.ps.length xs ∧ patCells w B xs n.ps
  nomap : ∀ q n, f q = some n → n.mb = none → ∀ c, f (q ++ [c]) = none
  map : ∀ q n m, f q = some n → n.mb = some m → Kids w f q m K ∧ B ≤ m ∧ m ≠ eb
  inj : ∀ q q' n n', f q = some n → f q' = some n' → n.blk = n'.blk → q = q'
  injm : ∀ q q' n n' m, f q = some n → f q' = some n' → n.mb = some m → n'.mb = some m → q = q'
  injr : ∀ q q' n n' g, f q = some n → f q' = some n' → n.pv.ownBlock = some g → n'.pv.ownBlock = some g → q = q'
  ex : MapOf w eb ∧ B ≤ eb ∧ w.heap[eb]? = eo

/-! ### kept while other blocks turn -/
theorem IntRow.turn {w w' : World} {B : Nat} {v : Value} {l : List Int} {F : List Nat} (h : IntRow w B v l) (ht : Turn F w w') (hF : ∀ i, i ∈ F → ¬ CellsOf w i 3) : IntRow w' B v l :=
  row_turn h ht (fun g hg hi => hF g hi (row_cellsOf h hg))
theorem patCells.turn {w w' : World} {B : Nat} {F : List Nat} (ht : Turn F w w') (hF : ∀ i, i ∈ F → ¬ CellsOf w i 3) : ∀ {xs : List Value} {ps : List Pat}, patCells w B xs ps → patCells w' B xs ps
  | [], [], _ => trivial
  | s :: v :: b :: f :: xs, P :: ps, ⟨h1, h2, h3, h4, h5⟩ => ⟨h1, h2.turn ht hF, h3, h4, patCells.turn ht hF h5⟩
  | [], _ :: _, h => h.elim
  | [_], _, h => by cases h
  | [_, _], _, h => by cases h
  | [_, _, _], _, h => by cases h
  | _ :: _ :: _ :: _ :: _, [], h => h.elim
theorem patCells.append {w : World} {B : Nat} : ∀ {xs ys : List Value} {ps qs : List Pat}, patCells w B xs ps → patCells w B ys qs → patCells w B (xs ++ ys) (ps ++ qs)
  | [], _, [], _, _, h => h
  | s :: v :: b :: f :: xs, _, P :: ps, _, ⟨h1, h2, h3, h4, h5⟩, h => ⟨h1, h2, h3, h4, patCells.append h5 h⟩
  | [], _, _ :: _, _, h, _ => h.elim
  | [_], _, _, _, h, _ => by cases h
  | [_, _], _, _, _, h, _ => by cases h
  | [_, _, _], _, _, _, h, _ => by cases h
  | _ :: _ :: _ :: _ :: _, _, [], _, h, _ => h.elim
theorem Kids.turn {w w' : World} {f : TF} {q : List Int} {m K : Nat} {F : List Nat} (h : Kids w f q m K) (ht : Turn F w w') (hn : m ∉ F) : Kids w' f q m K := by
  obtain ⟨n, D, h1, h2, h3⟩ := h
  exact ⟨n, D, map_turn h1 ht hn, h2, h3⟩
theorem Kids.mapOf {w : World} {f : TF} {q : List Int} {m K : Nat} (h : Kids w f q m K) : MapOf w m := by
  obtain ⟨n, D, h1, _⟩ := h
  exact map_mapOf h1
section
variable {w w' : World} {B hb eb K : Nat} {eo : Option Obj} {f : TF} {F : List Nat}
/-- a trie stays while blocks turn that are none of its own -/
theorem Trie.turn (h : Trie w B hb eb eo f K) (ht : Turn F w w') (hi : ∀ i, i ∈ F → ¬ CellsOf w i 3) (hblk : ∀ q n, f q = some n → n.blk ∉ F) (hmb : ∀ q n m, f q = some n → n.mb = some m → m ∉ F) (hpv : ∀ q n g, f q = some n → n.pv.ownBlock = some g → g ∉ F) (he : eb ∉ F) : Trie w' B hb eb eo f K := by
  refine ⟨h.root, h.closed, fun q n hq => ⟨(h.node q n hq).1.turn ht (hblk q n hq), (h.node q n hq).2⟩, fun q n hq => ?_, h.nomap, fun q n m hq hm => ⟨(h.map q n m hq hm).1.turn ht (hmb q n m hq hm), (h.map q n m hq hm).2⟩, h.inj, h.injm, h.injr, ?_, h.ex.2.1, ?_⟩
  · obtain ⟨xs, h1, h2⟩ := h.row q n hq
    exact ⟨xs, row_turn h1 ht (fun g hg => hpv q n g hq hg), h2.turn ht hi⟩
  · obtain ⟨es, k, hk⟩ := h.ex.1
    have : eb < w.heap.size := (Array.getElem?_eq_some_iff.1 hk).1
    exact ⟨es, k, (ht.block eb this he).trans hk⟩
  · obtain ⟨es, k, hk⟩ := h.ex.1
    exact (ht.block eb (Array.getElem?_eq_some_iff.1 hk).1 he).trans h.ex.2.2
theorem Trie.below (h : Trie w B hb eb eo f K) (hb' : Below w.heap.size w w') : Trie w' B hb eb eo f K :=
  h.turn (F := []) (Turn.ofBelow hb' (Nat.le_refl _)) (fun _ hi => by cases hi) (fun _ _ _ hi => by cases hi) (fun _ _ _ _ _ hi => by cases hi) (fun _ _ _ _ _ hi => by cases hi) (by simp)
theorem Trie.alloc (h : Trie w B hb eb eo f K) (o : Obj) : Trie (w.alloc o) B hb eb eo f K := h.below ((Below.refl _ w).alloc (Nat.le_refl _) _)
theorem Trie.mono (h : Trie w B hb eb eo f K) {K' : Nat} (hK : K ≤ K') : Trie w B hb eb eo f K' :=
  ⟨h.root, h.closed, h.node, h.row, h.nomap, fun q n m hq hm => by
    obtain ⟨⟨n', D, h1, h2, h3⟩, h4⟩ := h.map q n m hq hm
    exact ⟨⟨n', D, h1, Nat.le_trans h2 hK, h3⟩, h4⟩, h.inj, h.injm, h.injr, h.ex⟩
theorem Trie.blk_lt (h : Trie w B hb eb eo f K) {q : List Int} {n : TN} (hq : f q = some n) : n.blk < w.heap.size := (h.node q n hq).1.lt
theorem Trie.blk_kind (h : Trie w B hb eb eo f K) {q : List Int} {n : TN} (hq : f q = some n) : ∃ t, CellsOf w n.blk t ∧ (t = 68 ∨ t = 71) := ⟨n.typ, (h.node q n hq).1.cellsOf, (h.node q n hq).2.1⟩
theorem Trie.blk_int (h : Trie w B hb eb eo f K) {q : List Int} {n : TN} (hq : f q = some n) : ¬ CellsOf w n.blk 3 := fun k => by
  obtain ⟨t, h1, h2⟩ := h.blk_kind hq
  have := cells_cells h1 k
  subst this
  rcases h2 with h2 | h2 <;> exact absurd h2 (by decide)
theorem Trie.blk_row (h : Trie w B hb eb eo f K) {q : List Int} {n : TN} (hq : f q = some n) : ¬ CellsOf w n.blk 33 := fun k => by
  obtain ⟨t, h1, h2⟩ := h.blk_kind hq
  have := cells_cells h1 k
  subst this
  rcases h2 with h2 | h2 <;> exact absurd h2 (by decide)
theorem Trie.blk_map (h : Trie w B hb eb eo f K) {q : List Int} {n : TN} (hq : f q = some n) : ¬ MapOf w n.blk := fun k => by
  obtain ⟨t, h1, _⟩ := h.blk_kind hq
  exact cells_map h1 k
theorem Trie.row_kind (h : Trie w B hb eb eo f K) {q : List Int} {n : TN} (hq : f q = some n) {g : Nat} (hg : n.pv.ownBlock = some g) : CellsOf w g 33 := by
  obtain ⟨xs, h1, _⟩ := h.row q n hq
  exact row_cellsOf h1 hg
theorem Trie.mb_kind (h : Trie w B hb eb eo f K) {q : List Int} {n : TN} {m : Nat} (hq : f q = some n) (hm : n.mb = some m) : MapOf w m := (h.map q n m hq hm).1.mapOf
theorem Trie.mb_lt (h : Trie w B hb eb eo f K) {q : List Int} {n : TN} {m : Nat} (hq : f q = some n) (hm : n.mb = some m) : m < w.heap.size := by
  obtain ⟨es, k, hk⟩ := h.mb_kind hq hm
  exact (Array.getElem?_eq_some_iff.1 hk).1

/-! ### the three changes -/
/-- node q gets a map without entries -/
theorem Trie.setmap (h : Trie w B hb eb eo f K) {q : List Int} {n : TN} (hq : f q = some n) (hm : n.mb = none) (hB : B ≤ w.heap.size) :
    Trie ((w.alloc (.map #[] 0)).setCell ⟨n.blk, 0, none⟩ (.map (some w.heap.size))) B hb eb eo (updT f q { n with mb := some w.heap.size }) K := by
  have ha := h.alloc (.map #[] 0)
  obtain ⟨hnb, hnt, hnB⟩ := ha.node q n hq
  have ht : Turn [n.blk] (w.alloc (.map #[] 0)) ((w.alloc (.map #[] 0)).setCell ⟨n.blk, 0, none⟩ (.map (some w.heap.size))) := (Turn.refl _ _).setCell (p := ⟨n.blk, 0, none⟩) (.inl (by simp)) _
  have hlt := h.blk_lt hq
  have hebl : eb < w.heap.size := by
    obtain ⟨es, k, hk⟩ := h.ex.1
    exact (Array.getElem?_eq_some_iff.1 hk).1
  have hi : ∀ i, i ∈ [n.blk] → ¬ CellsOf (w.alloc (.map #[] 0)) i 3 := by
    intro i hi
    obtain rfl : i = n.blk := by simpa using hi
    exact ha.blk_int hq
  have hmade : ((w.alloc (.map #[] 0)).setCell ⟨n.blk, 0, none⟩ (.map (some w.heap.size))).ownsMap (H := Value) Tryd.prog 3 rawE w.heap.size 0 (.map []) :=
    map_turn (World.ownsMap_made w Tryd.prog 3 rawE) ht (by simp; omega)
  have hfq : ∀ c, updT f q { n with mb := some w.heap.size } (q ++ [c]) = f (q ++ [c]) := fun c => updT_other _ _ (by intro e; have := congrArg List.length e; simp at this)
  have hget : ∀ x y, updT f q { n with mb := some w.heap.size } x = some y → (x = q ∧ y = { n with mb := some w.heap.size }) ∨ (x ≠ q ∧ f x = some y) := by
    intro x y hx
    by_cases e : x = q
    · subst e
      rw [updT_same] at hx
      exact .inl ⟨rfl, (Option.some.inj hx).symm⟩
    · rw [updT_other _ _ e] at hx
      exact .inr ⟨e, hx⟩
  have hsome : ∀ x, (updT f q { n with mb := some w.heap.size } x).isSome = (f x).isSome := by
    intro x
    by_cases e : x = q
    · subst e; rw [updT_same, hq]; rfl
    · rw [updT_other _ _ e]
  have hold : ∀ x y, updT f q { n with mb := some w.heap.size } x = some y → ∃ z, f x = some z ∧ z.blk = y.blk ∧ z.pv = y.pv ∧ z.ps = y.ps := by
    intro x y hx
    rcases hget x y hx with ⟨rfl, rfl⟩ | ⟨_, hx⟩
    · exact ⟨n, hq, rfl, rfl, rfl⟩
    · exact ⟨y, hx, rfl, rfl, rfl⟩
  have hkid : ∀ x m, Kids (w.alloc (.map #[] 0)) f x m K → m ≠ n.blk → Kids ((w.alloc (.map #[] 0)).setCell ⟨n.blk, 0, none⟩ (.map (some w.heap.size))) (updT f q { n with mb := some w.heap.size }) x m K := by
    intro x m hk hne
    obtain ⟨k, D, k1, k2, k3⟩ := hk.turn ht (by simpa using hne)
    refine ⟨k, D, k1, k2, fun c => ⟨(k3 c).1.trans (hsome _).symm, fun n' hn' z => ?_⟩⟩
    obtain ⟨z', hz1, hz2, _⟩ := hold _ _ hn'
    rw [← hz2]
    exact (k3 c).2 z' hz1 z
  refine ⟨?_, fun x c => by rw [hsome, hsome]; exact h.closed x c, fun x y hx => ?_, fun x y hx => ?_, fun x y hx hy c => ?_, fun x y m hx hy => ?_, fun x x' y y' hx hx' e => ?_, fun x x' y y' m hx hx' e e' => ?_, fun x x' y y' g hx hx' e e' => ?_, ?_, h.ex.2.1, ?_⟩
  · obtain ⟨r, hr, hrb⟩ := h.root
    by_cases e : ([] : List Int) = q
    · subst e
      rw [hq] at hr
      obtain rfl := Option.some.inj hr
      exact ⟨_, updT_same _ _ _, hrb⟩
    · exact ⟨r, by rw [updT_other _ _ e]; exact hr, hrb⟩
  · rcases hget x y hx with ⟨rfl, rfl⟩ | ⟨hne, hx⟩
    · refine ⟨?_, hnt, hnB⟩
      have := hnb.set_ 0 (.map (some w.heap.size))
      simpa using this
    · obtain ⟨k1, k2, k3⟩ := ha.node x y hx
      exact ⟨k1.turn ht (by
        intro hm'
        have e : y.blk = n.blk := by simpa using hm'
        exact hne (h.inj x q y n hx hq e)), k2, k3⟩
  · obtain ⟨z, hz, _, hz2, hz3⟩ := hold x y hx
    obtain ⟨xs, k1, k2⟩ := ha.row x z hz
    rw [← hz2, ← hz3]
    exact ⟨xs, row_turn k1 ht (fun g hg hi' => by
      obtain rfl : g = n.blk := by simpa using hi'
      exact ha.blk_row hq (row_cellsOf k1 hg)), k2.turn ht hi⟩
  · rcases hget x y hx with ⟨rfl, rfl⟩ | ⟨hne, hx⟩
    · cases hy
    · have := h.nomap x y hx hy c
      have := hsome (x ++ [c])
      rw [h.nomap x y hx hy c] at this
      simpa using this
  · rcases hget x y hx with ⟨rfl, rfl⟩ | ⟨hne, hx⟩
    · obtain rfl : w.heap.size = m := by simpa using hy
      refine ⟨⟨0, .map [], hmade, Nat.zero_le _, fun c => ?_⟩, hB, by omega⟩
      have hnone := h.nomap x n hq hm c
      refine ⟨?_, fun n' hn' => ?_⟩
      · rw [hfq, hnone]; rfl
      · rw [hfq, hnone] at hn'; cases hn'
    · obtain ⟨k1, k2, k3⟩ := ha.map x y m hx hy
      exact ⟨hkid x m k1 (by
        rintro rfl
        exact ha.blk_map hq k1.mapOf), k2, k3⟩
  · obtain ⟨z, hz, hz1, _⟩ := hold x y hx
    obtain ⟨z', hz', hz1', _⟩ := hold x' y' hx'
    exact h.inj x x' z z' hz hz' (by rw [hz1, hz1', e])
  · rcases hget x y hx with ⟨ex1, ey1⟩ | ⟨hne, ho⟩
    · rcases hget x' y' hx' with ⟨ex2, ey2⟩ | ⟨hne', ho'⟩
      · rw [ex1, ex2]
      · rw [ey1] at e
        have e3 : w.heap.size = m := by simpa using e
        have := h.mb_lt ho' e'
        omega
    · rcases hget x' y' hx' with ⟨ex2, ey2⟩ | ⟨hne', ho'⟩
      · rw [ey2] at e'
        have e3 : w.heap.size = m := by simpa using e'
        have := h.mb_lt ho e
        omega
      · exact h.injm x x' y y' m ho ho' e e'
  · obtain ⟨z, hz, _, hz2, _⟩ := hold x y hx
    obtain ⟨z', hz', _, hz2', _⟩ := hold x' y' hx'
    exact h.injr x x' z z' g hz hz' (by rw [hz2]; exact e) (by rw [hz2']; exact e')
  · obtain ⟨es, k, hk⟩ := ha.ex.1
    exact ⟨es, k, (ht.block eb (by simp; omega) (by
      intro hm'
      obtain rfl : eb = n.blk := by simpa using hm'
      exact ha.blk_map hq ha.ex.1)).trans hk⟩
  · obtain ⟨es, k, hk⟩ := ha.ex.1
    exact ((ht.block eb (by simp; omega) (by
      intro hm'
      obtain rfl : eb = n.blk := by simpa using hm'
      exact ha.blk_map hq ha.ex.1)).trans ha.ex.2.2)
end
end Go.Proofs.YtdcdlmigagjbiaaDoor
/- The trie: a new child, a pattern more. -/
namespace Go.Proofs.YtdcdlmigagjbiaaDoor
open Go.RowKit Go.Maps
theorem mapTurned_turn {w w' : World} {m : Nat} (h : w.mapTurned w' m) : Turn [m] w w' := (Turn.refl [m] w).grown h.grown (fun g hg => .inl (by simpa using hg.symm))
theorem snoc_inj {q x : List Int} {c d : Int} (h : x ++ [d] = q ++ [c]) : x = q ∧ d = c := by
  have := List.append_inj' h rfl
  exact ⟨this.1, by simpa using this.2⟩
section
variable {w w' : World} {B hb eb K : Nat} {eo : Option Obj} {f : TF}
def newTN (b : Nat) : TN := ⟨b, none, .slice none 0 0, [], [], 68⟩
theorem Trie.newkid (h : Trie w B hb eb eo f K) {q : List Int} {n : TN} {m : Nat} {c : Int} (hq : f q = some n) (hm : n.mb = some m) (hc : f (q ++ [c]) = none) (hB : B ≤ w.heap.size)
    {k : Nat} {D : DataW Value} (hk : k ≤ K) (hD : ∀ d : Int, Maps.has D (kI d) = (f (q ++ [d])).isSome ∧ ∀ n', f (q ++ [d]) = some n' → ∀ z, D.atKey (kI d) z = .held (.pointer (some ⟨n'.blk, 0, none⟩))) (hDm : IsMap D)
    {w2 : World} (ho : w2.ownsMap (H := Value) Tryd.prog 3 rawE m (k + 1) (D.put (kI c) (.held (.pointer (some ⟨w.heap.size, 0, none⟩)))))
    (ht0 : (w.alloc (.cells #[.map none, .slice none 0 0] 68)).mapTurned w2 m) :
    Trie w2 B hb eb eo (updT f (q ++ [c]) (newTN w.heap.size)) (K + 1) := by
  have ha := h.alloc (.cells #[.map none, .slice none 0 0] 68)
  have ht := mapTurned_turn ht0
  have hmk := h.map q n m hq hm
  have hmo := ha.mb_kind hq hm
  have hmlt := h.mb_lt hq hm
  have hnb : Blk w2 w.heap.size 68 #[.map none, .slice none 0 0] := (Blk.new w _ _).turn ht (by simp; omega)
  have hi : ∀ i, i ∈ [m] → ¬ CellsOf (w.alloc (.cells #[.map none, .slice none 0 0] 68)) i 3 := by
    intro i hi' k'
    obtain rfl : i = m := by simpa using hi'
    exact cells_map k' hmo
  have hget : ∀ x y, updT f (q ++ [c]) (newTN w.heap.size) x = some y → (x = q ++ [c] ∧ y = newTN w.heap.size) ∨ (x ≠ q ++ [c] ∧ f x = some y) := by
    intro x y hx
    by_cases e : x = q ++ [c]
    · subst e
      rw [updT_same] at hx
      exact .inl ⟨rfl, (Option.some.inj hx).symm⟩
    · rw [updT_other _ _ e] at hx
      exact .inr ⟨e, hx⟩
  have hup : ∀ x, (f x).isSome = true → (updT f (q ++ [c]) (newTN w.heap.size) x).isSome = true := by
    intro x hx
    by_cases e : x = q ++ [c]
    · subst e; rw [updT_same]; rfl
    · rw [updT_other _ _ e]; exact hx
  have hqs : (f q).isSome = true := by rw [hq]; rfl
  have hbeyond : ∀ d, f (q ++ [c] ++ [d]) = none := fun d => by
    have := h.closed (q ++ [c]) d
    rw [hc] at this
    cases hh : f (q ++ [c] ++ [d]) with
    | none => rfl
    | some y => rw [hh] at this; exact absurd (this rfl) (by simp)
  refine ⟨?_, fun x d hx => ?_, fun x y hx => ?_, fun x y hx => ?_, fun x y hx hy d => ?_, fun x y m' hx hy => ?_, fun x x' y y' hx hx' e => ?_, fun x x' y y' m' hx hx' e e' => ?_, fun x x' y y' g hx hx' e e' => ?_, ?_, h.ex.2.1, ?_⟩
  · obtain ⟨r, hr, hrb⟩ := h.root
    exact ⟨r, by rw [updT_other _ _ (by simp)]; exact hr, hrb⟩
  · by_cases e : x ++ [d] = q ++ [c]
    · obtain ⟨rfl, rfl⟩ := snoc_inj e
      exact hup _ hqs
    · rw [updT_other _ _ e] at hx
      exact hup _ (h.closed x d hx)
  · rcases hget x y hx with ⟨rfl, rfl⟩ | ⟨_, hx⟩
    · exact ⟨by simpa [newTN] using hnb, .inl rfl, hB⟩
    · obtain ⟨k1, k2, k3⟩ := ha.node x y hx
      exact ⟨k1.turn ht (by
        intro hm'
        have e : y.blk = m := by simpa using hm'
        rw [← e] at hmo
        exact ha.blk_map hx hmo), k2, k3⟩
  · rcases hget x y hx with ⟨rfl, rfl⟩ | ⟨_, hx⟩
    · exact ⟨[], World.ownsRow_nil _ _ _ _, trivial⟩
    · obtain ⟨xs, k1, k2⟩ := ha.row x y hx
      exact ⟨xs, row_turn k1 ht (fun g hg hi' => by
        obtain rfl : g = m := by simpa using hi'
        exact cells_map (row_cellsOf k1 hg) hmo), k2.turn ht hi⟩
  · rcases hget x y hx with ⟨rfl, rfl⟩ | ⟨_, hxo⟩
    · rw [updT_other _ _ (by intro e; have := congrArg List.length e; simp at this)]
      exact hbeyond d
    · by_cases e : x ++ [d] = q ++ [c]
      · obtain ⟨rfl, rfl⟩ := snoc_inj e
        rw [hq] at hxo
        obtain rfl := Option.some.inj hxo
        rw [hm] at hy
        cases hy
      · rw [updT_other _ _ e]
        exact h.nomap x y hxo hy d
  · rcases hget x y hx with ⟨rfl, rfl⟩ | ⟨hne, hxo⟩
    · cases hy
    · by_cases exq : x = q
      · subst exq
        rw [hq] at hxo
        obtain rfl := Option.some.inj hxo
        rw [hm] at hy
        obtain rfl := Option.some.inj hy
        refine ⟨⟨k + 1, _, ho, by omega, fun d => ?_⟩, hmk.2.1, hmk.2.2⟩
        by_cases e : d = c
        · subst e
          rw [updT_same, has_put_same hDm (kI_is d)]
          refine ⟨rfl, fun n' hn' z => ?_⟩
          obtain rfl := Option.some.inj hn'
          rw [atKey_put_same hDm (kI_is d)]
          rfl
        · have hne' : x ++ [d] ≠ x ++ [c] := fun e' => e (snoc_inj e').2
          rw [updT_other _ _ hne', has_put_other (fun e' => e (kI_inj e'))]
          refine ⟨(hD d).1, fun n' hn' z => ?_⟩
          rw [atKey_put_other (fun e' => e (kI_inj e'))]
          exact (hD d).2 n' hn' z
      · obtain ⟨k1, k2, k3⟩ := ha.map x y m' hxo hy
        have hmne : m' ≠ m := by
          rintro rfl
          exact exq (h.injm x q y n m' hxo hq hy hm)
        obtain ⟨k', D', j1, j2, j3⟩ := k1.turn ht (by simpa using hmne)
        refine ⟨⟨k', D', j1, by omega, fun d => ?_⟩, k2, k3⟩
        rw [updT_other _ _ (fun e => exq (snoc_inj e).1)]
        exact j3 d
  · rcases hget x y hx with ⟨ex1, ey1⟩ | ⟨hne, ho1⟩
    · rcases hget x' y' hx' with ⟨ex2, ey2⟩ | ⟨hne', ho2⟩
      · rw [ex1, ex2]
      · have h1 := h.blk_lt ho2
        rw [ey1] at e
        have h2 : w.heap.size = y'.blk := e
        omega
    · rcases hget x' y' hx' with ⟨ex2, ey2⟩ | ⟨hne', ho2⟩
      · have h1 := h.blk_lt ho1
        rw [ey2] at e
        have h2 : y.blk = w.heap.size := e
        omega
      · exact h.inj x x' y y' ho1 ho2 e
  · rcases hget x y hx with ⟨ex1, ey1⟩ | ⟨hne, ho1⟩
    · rw [ey1] at e; cases e
    · rcases hget x' y' hx' with ⟨ex2, ey2⟩ | ⟨hne', ho2⟩
      · rw [ey2] at e'; cases e'
      · exact h.injm x x' y y' m' ho1 ho2 e e'
  · rcases hget x y hx with ⟨ex1, ey1⟩ | ⟨hne, ho1⟩
    · rw [ey1] at e; cases e
    · rcases hget x' y' hx' with ⟨ex2, ey2⟩ | ⟨hne', ho2⟩
      · rw [ey2] at e'; cases e'
      · exact h.injr x x' y y' g ho1 ho2 e e'
  · obtain ⟨es, k', hk'⟩ := ha.ex.1
    exact ⟨es, k', (ht.block eb (Array.getElem?_eq_some_iff.1 hk').1 (by
      intro hm'
      have e : eb = m := by simpa using hm'
      exact hmk.2.2 e.symm)).trans hk'⟩
  · obtain ⟨es, k', hk'⟩ := ha.ex.1
    exact ((ht.block eb (Array.getElem?_eq_some_iff.1 hk').1 (by
      intro hm'
      have e : eb = m := by simpa using hm'
      exact hmk.2.2 e.symm)).trans ha.ex.2.2)

theorem Trie.addpat (h : Trie w B hb eb eo f K) {q : List Int} {n : TN} (hq : f q = some n) {P : Pat} {xs cs : List Value} (hcs : patCells w B cs [P])
    (hxs : patCells w B xs n.ps) {o : Obj} {v' : Value} {w1 : World} (ho : w1.ownsRow B 33 4 v' (n.ps.length + 1) (xs ++ cs)) (hg : (w.alloc o).grownBy w1 n.pv.ownBlock)
    (hv : v'.ownBlock = n.pv.ownBlock ∨ v'.ownBlock = some (w.alloc o).heap.size) :
    Trie (w1.setCell ⟨n.blk, 1, none⟩ v') B hb eb eo (updT f q { n with pv := v', ps := n.ps ++ [P] }) K := by
  have ha := h.alloc o
  -- everything but the row's old block and the node's block stays
  have hnl := ha.blk_lt hq
  have hks : ∀ g, n.pv.ownBlock = some g → CellsOf (w.alloc o) g 33 := fun g hg' => ha.row_kind hq hg'
  have hvo : ∀ g, v'.ownBlock = some g → n.pv.ownBlock = some g ∨ (w.alloc o).heap.size ≤ g := by
    intro g hg'
    rcases hv with e | e
    · exact .inl (by rw [← e]; exact hg')
    · rw [e] at hg'
      exact .inr (by have := Option.some.inj hg'; omega)
  have ht1 : Turn (n.pv.ownBlock.toList) (w.alloc o) w1 := (Turn.refl _ _).grown hg (fun g hg' => .inl (by rw [hg']; simp))
  have ht : Turn (n.blk :: n.pv.ownBlock.toList) (w.alloc o) (w1.setCell ⟨n.blk, 1, none⟩ v') := (ht1.mono (fun i hi => List.mem_cons_of_mem _ hi)).setCell (p := ⟨n.blk, 1, none⟩) (.inl List.mem_cons_self) v'
  have hF : ∀ i, i ∈ n.blk :: n.pv.ownBlock.toList → i = n.blk ∨ n.pv.ownBlock = some i := by
    intro i hi
    rcases List.mem_cons.1 hi with rfl | hi
    · exact .inl rfl
    · exact .inr (by simpa using hi)
  have hi : ∀ i, i ∈ n.blk :: n.pv.ownBlock.toList → ¬ CellsOf (w.alloc o) i 3 := by
    intro i hi' k
    rcases hF i hi' with rfl | hi'
    · exact ha.blk_int hq k
    · exact absurd (cells_cells k (hks i hi')) (by decide)
  have hget : ∀ x y, updT f q { n with pv := v', ps := n.ps ++ [P] } x = some y → (x = q ∧ y = { n with pv := v', ps := n.ps ++ [P] }) ∨ (x ≠ q ∧ f x = some y) := by
    intro x y hx
    by_cases e : x = q
    · subst e
      rw [updT_same] at hx
      exact .inl ⟨rfl, (Option.some.inj hx).symm⟩
    · rw [updT_other _ _ e] at hx
      exact .inr ⟨e, hx⟩
  have hsome : ∀ x, (updT f q { n with pv := v', ps := n.ps ++ [P] } x).isSome = (f x).isSome := by
    intro x
    by_cases e : x = q
    · subst e; rw [updT_same, hq]; rfl
    · rw [updT_other _ _ e]
  have hold : ∀ x y, updT f q { n with pv := v', ps := n.ps ++ [P] } x = some y → ∃ z, f x = some z ∧ z.blk = y.blk ∧ z.mb = y.mb := by
    intro x y hx
    rcases hget x y hx with ⟨rfl, rfl⟩ | ⟨_, hx⟩
    · exact ⟨n, hq, rfl, rfl⟩
    · exact ⟨y, hx, rfl, rfl⟩
  have hmap : ∀ m, MapOf (w.alloc o) m → m ∉ n.blk :: n.pv.ownBlock.toList := by
    intro m hm hi'
    rcases hF m hi' with rfl | hi'
    · exact ha.blk_map hq hm
    · exact cells_map (hks m hi') hm
  have hrowx : ∀ x y, x ≠ q → f x = some y → ∀ g, y.pv.ownBlock = some g → g ∉ n.blk :: n.pv.ownBlock.toList := by
    intro x y hne hx g hg' hi'
    rcases hF g hi' with rfl | hi'
    · exact ha.blk_row hq (ha.row_kind hx hg')
    · exact hne (h.injr x q y n g hx hq hg' hi')
  have hw1 : w1.heap.size ≥ (w.alloc o).heap.size := hg.size
  refine ⟨?_, fun x c => by rw [hsome, hsome]; exact h.closed x c, fun x y hx => ?_, fun x y hx => ?_, fun x y hx hy c => ?_, fun x y m hx hy => ?_, fun x x' y y' hx hx' e => ?_, fun x x' y y' m hx hx' e e' => ?_, fun x x' y y' g hx hx' e e' => ?_, ?_, h.ex.2.1, ?_⟩
  · obtain ⟨r, hr, hrb⟩ := h.root
    by_cases e : ([] : List Int) = q
    · subst e
      rw [hq] at hr
      obtain rfl := Option.some.inj hr
      exact ⟨_, updT_same _ _ _, hrb⟩
    · exact ⟨r, by rw [updT_other _ _ e]; exact hr, hrb⟩
  · rcases hget x y hx with ⟨rfl, rfl⟩ | ⟨hne, hx⟩
    · obtain ⟨k1, k2, k3⟩ := ha.node x n hq
      refine ⟨?_, k2, k3⟩
      have k1' := k1.turn ht1 (by
        intro hm
        have := hks n.blk (by simpa using hm)
        exact ha.blk_row hq this)
      have := k1'.set_ 1 v'
      simpa using this
    · obtain ⟨k1, k2, k3⟩ := ha.node x y hx
      exact ⟨k1.turn ht (by
        intro hm
        rcases hF _ hm with e | e
        · exact hne (h.inj x q y n hx hq e)
        · exact ha.blk_row hx (hks _ e)), k2, k3⟩
  · rcases hget x y hx with ⟨rfl, rfl⟩ | ⟨hne, hx⟩
    · refine ⟨xs ++ cs, ?_, ?_⟩
      · have := row_turn ho (F := [n.blk]) ((Turn.refl [n.blk] w1).setCell (p := ⟨n.blk, 1, none⟩) (.inl (by simp)) v') (fun g hg' hm => by
          obtain rfl : g = n.blk := by simpa using hm
          rcases hvo _ hg' with e | e
          · exact ha.blk_row hq (hks _ e)
          · omega)
        simpa using this
      · exact ((patCells.append hxs hcs).turn ((Turn.refl [] w).alloc o) (fun _ h => by cases h)).turn ht hi
    · obtain ⟨ys, k1, k2⟩ := ha.row x y hx
      exact ⟨ys, row_turn k1 ht (fun g hg' => hrowx x y hne hx g hg'), k2.turn ht hi⟩
  · obtain ⟨z, hz, hz1, hz2⟩ := hold x y hx
    have := hsome (x ++ [c])
    rw [h.nomap x z hz (by rw [hz2]; exact hy) c] at this
    simpa using this
  · obtain ⟨z, hz, hz1, hz2⟩ := hold x y hx
    obtain ⟨k1, k2, k3⟩ := ha.map x z m hz (by rw [hz2]; exact hy)
    obtain ⟨k, D, j1, j2, j3⟩ := k1.turn ht (hmap m k1.mapOf)
    refine ⟨⟨k, D, j1, j2, fun c => ⟨(j3 c).1.trans (hsome _).symm, fun n' hn' z' => ?_⟩⟩, k2, k3⟩
    obtain ⟨u, hu, hu1, _⟩ := hold _ _ hn'
    rw [← hu1]
    exact (j3 c).2 u hu z'
  · obtain ⟨z, hz, hz1, _⟩ := hold x y hx
    obtain ⟨z', hz', hz1', _⟩ := hold x' y' hx'
    exact h.inj x x' z z' hz hz' (by rw [hz1, hz1', e])
  · obtain ⟨z, hz, _, hz2⟩ := hold x y hx
    obtain ⟨z', hz', _, hz2'⟩ := hold x' y' hx'
    exact h.injm x x' z z' m hz hz' (by rw [hz2]; exact e) (by rw [hz2']; exact e')
  · rcases hget x y hx with ⟨ex1, ey1⟩ | ⟨hne, ho1⟩
    · rcases hget x' y' hx' with ⟨ex2, ey2⟩ | ⟨hne', ho2⟩
      · rw [ex1, ex2]
      · rw [ey1] at e
        rcases hvo g e with k | k
        · exact absurd (h.injr x' q y' n g ho2 hq e' k) hne'
        · obtain ⟨cs', fz, hcs'⟩ := ha.row_kind ho2 e'
          have := (Array.getElem?_eq_some_iff.1 hcs').1
          omega
    · rcases hget x' y' hx' with ⟨ex2, ey2⟩ | ⟨hne', ho2⟩
      · rw [ey2] at e'
        rcases hvo g e' with k | k
        · exact absurd (h.injr x q y n g ho1 hq e k) hne
        · obtain ⟨cs', fz, hcs'⟩ := ha.row_kind ho1 e
          have := (Array.getElem?_eq_some_iff.1 hcs').1
          omega
      · exact h.injr x x' y y' g ho1 ho2 e e'
  · obtain ⟨es, k, hk⟩ := ha.ex.1
    exact ⟨es, k, (ht.block eb (Array.getElem?_eq_some_iff.1 hk).1 (hmap eb ha.ex.1)).trans hk⟩
  · obtain ⟨es, k, hk⟩ := ha.ex.1
    exact ((ht.block eb (Array.getElem?_eq_some_iff.1 hk).1 (hmap eb ha.ex.1)).trans ha.ex.2.2)
end
end Go.Proofs.YtdcdlmigagjbiaaDoor
/- letter walked, of the program and of the law. -/
namespace Go.Proofs.YtdcdlmigagjbiaaDoor
open Go.RowKit
theorem letC_no {p : Int} (h : ¬ (32 < p ∧ p ≠ 46 ∧ p ≠ 45 ∧ ¬ (48 ≤ p ∧ p ≤ 57))) : letC p = false := by
  cases hh : letC p with
  | false => rfl
  | true => exact absurd (letC_num hh) h
theorem letC_yes {p : Int} (h : 32 < p ∧ p ≠ 46 ∧ p ≠ 45 ∧ ¬ (48 ≤ p ∧ p ≤ 57)) : letC p = true := by
  unfold letC
  simp only [Bool.and_eq_true, decide_eq_true_eq, Bool.not_eq_true', beq_eq_false_iff_ne, Bool.and_eq_false_iff, decide_eq_false_iff_not]
  omega
theorem letter_any (p : Int) (w : World) : Calls Tryd.prog 52 #[.int .i64 p] w fun e w' => e = .returned (.bool (letC p)) ∧ w = w' := by
  by_cases h1 : 32 < p
  · have d1 : decide (32 < p) = true := by simpa using h1
    by_cases h2 : p = 46
    · subst h2
      go_enter Tryd.func52, Tryd.ntmps52
      go_wp2
      go_ret
      exact ⟨rfl, rfl⟩
    · have d2 : (p != 46) = true := by simpa using h2
      by_cases h3 : p = 45
      · subst h3
        go_enter Tryd.func52, Tryd.ntmps52
        go_wp2
        go_ret
        exact ⟨rfl, rfl⟩
      · have d3 : (p != 45) = true := by simpa using h3
        by_cases h4 : p < 48
        · have d4 : decide (p < 48) = true := by simpa using h4
          have HV := Lib.hid (letC_yes (p := p) (by omega))
          clear h1 h2 h3 h4
          go_enter Tryd.func52, Tryd.ntmps52
          go_wp2
          go_ret
          exact ⟨by rw [HV.out]; rfl, rfl⟩
        · have d4 : decide (p < 48) = false := by simpa using h4
          by_cases h6 : 57 < p
          · have d6 : decide (57 < p) = true := by simpa using h6
            have HV := Lib.hid (letC_yes (p := p) (by omega))
            clear h1 h2 h3 h4 h6
            go_enter Tryd.func52, Tryd.ntmps52
            go_wp2
            go_ret
            exact ⟨by rw [HV.out]; rfl, rfl⟩
          · have d6 : decide (57 < p) = false := by simpa using h6
            have HV := Lib.hid (letC_no (p := p) (by omega))
            clear h1 h2 h3 h4 h6
            go_enter Tryd.func52, Tryd.ntmps52
            go_wp2
            go_ret
            exact ⟨by rw [HV.out]; rfl, rfl⟩
  · have d1 : decide (32 < p) = false := by simpa using h1
    have HV := Lib.hid (letC_no (p := p) (by omega))
    clear h1
    go_enter Tryd.func52, Tryd.ntmps52
    go_wp2
    go_ret
    exact ⟨by rw [HV.out]; rfl, rfl⟩
theorem letter2_any (p : Int) (w : World) : Calls Tryd.prog 48 #[.int .i64 p] w fun e w' => e = .returned (.bool (letC p)) ∧ w = w' := by
  by_cases h1 : 32 < p
  · have d1 : decide (32 < p) = true := by simpa using h1
    by_cases h2 : p = 46
    · subst h2
      go_enter Tryd.func48, Tryd.ntmps48
      go_wp2
      go_ret
      exact ⟨rfl, rfl⟩
    · have d2 : (p != 46) = true := by simpa using h2
      by_cases h3 : p = 45
      · subst h3
        go_enter Tryd.func48, Tryd.ntmps48
        go_wp2
        go_ret
        exact ⟨rfl, rfl⟩
      · have d3 : (p != 45) = true := by simpa using h3
        by_cases h4 : p < 48
        · have d4 : decide (p < 48) = true := by simpa using h4
          have HV := Lib.hid (letC_yes (p := p) (by omega))
          clear h1 h2 h3 h4
          go_enter Tryd.func48, Tryd.ntmps48
          go_wp2
          go_ret
          exact ⟨by rw [HV.out]; rfl, rfl⟩
        · have d4 : decide (p < 48) = false := by simpa using h4
          by_cases h6 : 57 < p
          · have d6 : decide (57 < p) = true := by simpa using h6
            have HV := Lib.hid (letC_yes (p := p) (by omega))
            clear h1 h2 h3 h4 h6
            go_enter Tryd.func48, Tryd.ntmps48
            go_wp2
            go_ret
            exact ⟨by rw [HV.out]; rfl, rfl⟩
          · have d6 : decide (57 < p) = false := by simpa using h6
            have HV := Lib.hid (letC_no (p := p) (by omega))
            clear h1 h2 h3 h4 h6
            go_enter Tryd.func48, Tryd.ntmps48
            go_wp2
            go_ret
            exact ⟨by rw [HV.out]; rfl, rfl⟩
  · have d1 : decide (32 < p) = false := by simpa using h1
    have HV := Lib.hid (letC_no (p := p) (by omega))
    clear h1
    go_enter Tryd.func48, Tryd.ntmps48
    go_wp2
    go_ret
    exact ⟨by rw [HV.out]; rfl, rfl⟩
end Go.Proofs.YtdcdlmigagjbiaaDoor
/- letters walked. -/
namespace Go.Proofs.YtdcdlmigagjbiaaDoor
open Go.RowKit
theorem row_slice {W : World} {base : Nat} {e : TypeId} {v : Value} {k : Nat} {xs : List Value} (h : W.ownsRow base e 1 v k xs) : ∃ ao cap, v = .slice ao k cap := by
  rcases h.2 with ⟨h1, h2⟩ | ⟨g, cap, cur, h1, _⟩
  · exact ⟨none, 0, by rw [h1, h2]⟩
  · exact ⟨_, _, h1⟩
/-- what letters returns -/
def LettersPost (s : ByteArray) (w : World) (e : Ending) (w' : World) : Prop :=
  ∃ v, e = .returned (.tuple #[v, .bool (letsP s.data.toList)]) ∧ Below w.heap.size w w' ∧ (if letsP s.data.toList then IntRow w' w.heap.size v (ptsI s.data.toList) else v = .slice none 0 0)
theorem lettersPost_no {s : ByteArray} {w w' : World} (h : letsP s.data.toList = false) (hb : Below w.heap.size w w') : LettersPost s w (.returned (.tuple #[.slice none 0 0, .bool false])) w' := by
  refine ⟨.slice none 0 0, by rw [h], hb, ?_⟩
  rw [if_neg (by rw [h]; simp)]
theorem lettersPost_yes {s : ByteArray} {w w' : World} {v : Value} (h : letsP s.data.toList = true) (hb : Below w.heap.size w w') (hv : IntRow w' w.heap.size v (ptsI s.data.toList)) : LettersPost s w (.returned (.tuple #[v, .bool true])) w' := by
  refine ⟨v, by rw [h], hb, ?_⟩
  rw [if_pos h]
  exact hv
theorem letsP_no {l : List UInt8} {k : Nat} (h : k < (ptsI l).length) (hk : letC ((ptsI l).getD k 0) = false) : letsP l = false := by
  unfold letsP
  rw [Bool.and_eq_false_iff]
  right
  rw [List.all_eq_false]
  refine ⟨(ptsI l)[k], List.getElem_mem h, ?_⟩
  rw [List.getD_eq_getElem?_getD, List.getElem?_eq_getElem h] at hk
  simpa using hk
theorem letsP_yes {l : List UInt8} (hb : (U.bad l).isEmpty = true) (h : ∀ k, k < (ptsI l).length → letC ((ptsI l).getD k 0) = true) : letsP l = true := by
  unfold letsP
  rw [hb, Bool.true_and, List.all_eq_true]
  intro x hx
  obtain ⟨k, hk, rfl⟩ := List.mem_iff_getElem.1 hx
  have := h k hk
  rwa [List.getD_eq_getElem?_getD, List.getElem?_eq_getElem hk] at this
theorem pts_len0 (s : ByteArray) : (ptsI s.data.toList).length ≤ s.size := pts_len s 0 [] rfl |> fun h => by simpa using pts_len s s.size (ptsI s.data.toList) (by rw [List.drop_of_length_le (by simp)]; simp [ptsI, U.scan_nil.1])
set_option maxRecDepth 100000 in
set_option maxHeartbeats 400000 in
theorem letters_any (s : ByteArray) (hs : s.size ≤ 4294967296) (w : World) :
    Calls Tryd.prog 39 #[.string s] w (LettersPost s w) := by
  have hl := pts_len0 s
  obtain ⟨b, hb⟩ : ∃ b, (U.bad s.data.toList).isEmpty = b := ⟨_, rfl⟩
  cases b with
  | false =>
    have hp := fun w0 => points_any s hs w0
    unfold PointsPost at hp
    rw [hb] at hp
    have HP := Lib.hid hp
    have hv : letsP s.data.toList = false := by unfold letsP; rw [hb]; rfl
    have HV := Lib.hid hv
    clear hp hb hv hl
    go_enter Tryd.func39, Tryd.ntmps39
    go_wp2_with (go_at_call 38; refine (HP.out _).mono ?_; rintro e w1 ⟨v, rfl, hb1, rfl⟩)
    refine bodyPost_ret (v := .tuple #[.slice none 0 0, .bool false]) (by simp [results, Tryd.f39, go_sem]) rfl (lettersPost_no HV.out hb1)
  | true =>
    have hp := fun w0 => points_any s hs w0
    unfold PointsPost at hp
    rw [hb] at hp
    simp only [if_true] at hp
    have HP := Lib.hid hp
    have HB := Lib.hid hb
    have hvn := Lib.hid (fun k hk => letsP_no (l := s.data.toList) (k := k) hk)
    have hvy := Lib.hid (letsP_yes hb)
    obtain ⟨L, hL⟩ : ∃ L, ptsI s.data.toList = L := ⟨_, rfl⟩
    rw [hL] at HP hvn hvy hl
    have HL := Lib.hid hL
    clear hp hb hL
    go_enter Tryd.func39, Tryd.ntmps39
    go_wp2_with (go_at_call 38; refine (HP.out _).mono ?_; rintro e w1 ⟨v, rfl, hb1, hown⟩; obtain ⟨ao, cap, rfl⟩ := row_slice hown)
    have HI := Lib.hid (Ints.of_owns hown)
    have hcell : ∀ k, k < L.length → ∃ b off, ao = some ⟨b, off, none⟩ ∧ w1.cell? ⟨b, off + k, none⟩ = some (.int .i64 (L.getD k 0)) := fun k hk => by
      rcases HI.out.open with ⟨h0, _⟩ | ⟨_, b, off, cap', hv, _, _, _, hc⟩
      · rw [h0] at hk; cases hk
      · injection hv with e1 _ _
        exact ⟨b, off, e1, hc k hk⟩
    have HC := Lib.hid hcell
    have HO := Lib.hid hown
    clear hcell hown
    go_loopw [2, 16] (fun lv i wr => ∃ k : Nat, k ≤ L.length ∧ lv = .slice ao L.length cap ∧ i = .int .i64 (k : Int) ∧ wr = w1 ∧ Hid (∀ j, j < k → letC (L.getD j 0) = true)) (fun _ i _ => L.length - (intOf i).toNat)
    case atStart => exact ⟨0, Nat.zero_le _, rfl, rfl, rfl, Lib.hid (fun j hj => absurd hj (Nat.not_lt_zero j))⟩
    case round =>
      obtain ⟨k, hk, rfl, rfl, rfl, hall⟩ := hrel
      by_cases hlt : k < L.length
      · obtain ⟨b, off, rfl, hc⟩ := HC.out k hlt
        obtain ⟨c, hp⟩ : ∃ c, letC (L.getD k 0) = c := ⟨_, rfl⟩
        have hno := Lib.hid (fun h => hvn.out k hlt h)
        have hgo := Lib.hid (fun (h : letC (L.getD k 0) = true) j (hj : j < k + 1) => by
          rcases Nat.lt_or_ge j k with h1 | h1
          · exact hall.out j h1
          · obtain rfl : j = k := by omega
            exact h)
        generalize L.getD k 0 = z at hc hp hno hgo
        have HP2 := Lib.hid hp
        cases c
        · clear hp
          go_wp2_with (go_at_call 52; refine (letter_any _ _).mono ?_; rw [HP2.out]; rintro e w' ⟨rfl, rfl⟩)
          exact bodyPost_ret (v := .tuple #[.slice none 0 0, .bool false]) (by simp [results, Tryd.f39, go_sem]) rfl (lettersPost_no (hno.out HP2.out) hb1)
        · clear hp
          go_wp2_with (go_at_call 52; refine (letter_any _ _).mono ?_; rw [HP2.out]; rintro e w' ⟨rfl, rfl⟩)
          exact ⟨⟨k + 1, by omega, rfl, by go_num, trivial, Lib.hid (hgo.out HP2.out)⟩, by simp [intOf]; omega⟩
      · have hke : k = L.length := by omega
        subst hke
        go_wp2_with fail
        exact bodyPost_ret (v := .tuple #[.slice ao L.length cap, .bool true]) (by simp [results, Tryd.f39, go_sem]) rfl (lettersPost_yes (hvy.out hall.out) hb1 (by rw [HL.out]; exact HO.out))
end Go.Proofs.YtdcdlmigagjbiaaDoor
/- the law's letters walked. -/
namespace Go.Proofs.YtdcdlmigagjbiaaDoor
open Go.RowKit
set_option maxRecDepth 100000 in
set_option maxHeartbeats 400000 in
theorem letters2_any (s : ByteArray) (hs : s.size ≤ 4294967296) (w : World) :
    Calls Tryd.prog 44 #[.string s] w (LettersPost s w) := by
  have hl := pts_len0 s
  obtain ⟨b, hb⟩ : ∃ b, (U.bad s.data.toList).isEmpty = b := ⟨_, rfl⟩
  cases b with
  | false =>
    have hp := fun w0 => points_any s hs w0
    unfold PointsPost at hp
    rw [hb] at hp
    have HP := Lib.hid hp
    have hv : letsP s.data.toList = false := by unfold letsP; rw [hb]; rfl
    have HV := Lib.hid hv
    clear hp hb hv hl
    go_enter Tryd.func44, Tryd.ntmps44
    go_wp2_with (go_at_call 38; refine (HP.out _).mono ?_; rintro e w1 ⟨v, rfl, hb1, rfl⟩)
    refine bodyPost_ret (v := .tuple #[.slice none 0 0, .bool false]) (by simp [results, Tryd.f44, go_sem]) rfl (lettersPost_no HV.out hb1)
  | true =>
    have hp := fun w0 => points_any s hs w0
    unfold PointsPost at hp
    rw [hb] at hp
    simp only [if_true] at hp
    have HP := Lib.hid hp
    have HB := Lib.hid hb
    have hvn := Lib.hid (fun k hk => letsP_no (l := s.data.toList) (k := k) hk)
    have hvy := Lib.hid (letsP_yes hb)
    obtain ⟨L, hL⟩ : ∃ L, ptsI s.data.toList = L := ⟨_, rfl⟩
    rw [hL] at HP hvn hvy hl
    have HL := Lib.hid hL
    clear hp hb hL
    go_enter Tryd.func44, Tryd.ntmps44
    go_wp2_with (go_at_call 38; refine (HP.out _).mono ?_; rintro e w1 ⟨v, rfl, hb1, hown⟩; obtain ⟨ao, cap, rfl⟩ := row_slice hown)
    have HI := Lib.hid (Ints.of_owns hown)
    have hcell : ∀ k, k < L.length → ∃ b off, ao = some ⟨b, off, none⟩ ∧ w1.cell? ⟨b, off + k, none⟩ = some (.int .i64 (L.getD k 0)) := fun k hk => by
      rcases HI.out.open with ⟨h0, _⟩ | ⟨_, b, off, cap', hv, _, _, _, hc⟩
      · rw [h0] at hk; cases hk
      · injection hv with e1 _ _
        exact ⟨b, off, e1, hc k hk⟩
    have HC := Lib.hid hcell
    have HO := Lib.hid hown
    clear hcell hown
    go_loopw [6] (fun i wr => ∃ k : Nat, k ≤ L.length ∧ i = .int .i64 (k : Int) ∧ wr = w1 ∧ Hid (∀ j, j < k → letC (L.getD j 0) = true)) (fun i _ => L.length - (intOf i).toNat)
    case atStart => exact ⟨0, Nat.zero_le _, rfl, rfl, Lib.hid (fun j hj => absurd hj (Nat.not_lt_zero j))⟩
    case round =>
      obtain ⟨k, hk, rfl, rfl, hall⟩ := hrel
      by_cases hlt : k < L.length
      · obtain ⟨b, off, rfl, hc⟩ := HC.out k hlt
        obtain ⟨c, hp⟩ : ∃ c, letC (L.getD k 0) = c := ⟨_, rfl⟩
        have hno := Lib.hid (fun h => hvn.out k hlt h)
        have hgo := Lib.hid (fun (h : letC (L.getD k 0) = true) j (hj : j < k + 1) => by
          rcases Nat.lt_or_ge j k with h1 | h1
          · exact hall.out j h1
          · obtain rfl : j = k := by omega
            exact h)
        generalize L.getD k 0 = z at hc hp hno hgo
        have HP2 := Lib.hid hp
        cases c
        · clear hp
          go_wp2_with (go_at_call 48; refine (letter2_any _ _).mono ?_; rw [HP2.out]; rintro e w' ⟨rfl, rfl⟩)
          exact bodyPost_ret (v := .tuple #[.slice none 0 0, .bool false]) (by simp [results, Tryd.f44, go_sem]) rfl (lettersPost_no (hno.out HP2.out) hb1)
        · clear hp
          go_wp2_with (go_at_call 48; refine (letter2_any _ _).mono ?_; rw [HP2.out]; rintro e w' ⟨rfl, rfl⟩)
          exact ⟨⟨k + 1, by omega, by go_num, trivial, Lib.hid (hgo.out HP2.out)⟩, by simp [intOf]; omega⟩
      · have hke : k = L.length := by omega
        subst hke
        go_wp2_with fail
        exact bodyPost_ret (v := .tuple #[.slice ao L.length cap, .bool true]) (by simp [results, Tryd.f44, go_sem]) rfl (lettersPost_yes (hvy.out hall.out) hb1 (by rw [HL.out]; exact HO.out))
end Go.Proofs.YtdcdlmigagjbiaaDoor
/- What a trie holds: the patterns at each node; the root's own cells. -/
namespace Go.Proofs.YtdcdlmigagjbiaaDoor
open Go.RowKit Go.Maps
def contT (f : TF) (q : List Int) : List Pat := match f q with | some n => n.ps | none => []
def RootOf (f : TF) (hb : Nat) (rest : List Value) (typ : TypeId) : Prop := ∃ r, f [] = some r ∧ r.blk = hb ∧ r.rest = rest ∧ r.typ = typ
theorem contT_at {f : TF} {q : List Int} {n : TN} (h : f q = some n) : contT f q = n.ps := by unfold contT; rw [h]
theorem contT_none {f : TF} {q : List Int} (h : f q = none) : contT f q = [] := by unfold contT; rw [h]
theorem contT_set {f : TF} {q : List Int} {n : TN} (hq : f q = some n) (m : Option Nat) : contT (updT f q { n with mb := m }) = contT f := by
  funext x
  by_cases e : x = q
  · subst e; rw [contT_at (updT_same _ _ _), contT_at hq]
  · unfold contT; rw [updT_other _ _ e]
theorem contT_new {f : TF} {q : List Int} (hq : f q = none) (b : Nat) : contT (updT f q (newTN b)) = contT f := by
  funext x
  by_cases e : x = q
  · subst e; rw [contT_at (updT_same _ _ _), contT_none hq]; rfl
  · unfold contT; rw [updT_other _ _ e]
theorem contT_add {f : TF} {q : List Int} {n : TN} (hq : f q = some n) (v : Value) (P : Pat) (x : List Int) : contT (updT f q { n with pv := v, ps := n.ps ++ [P] }) x = contT f x ++ (if x = q then [P] else []) := by
  by_cases e : x = q
  · subst e; rw [contT_at (updT_same _ _ _), contT_at hq, if_pos rfl]
  · rw [if_neg e, List.append_nil]; unfold contT; rw [updT_other _ _ e]
theorem RootOf.upd {f : TF} {hb : Nat} {rest : List Value} {typ : TypeId} (h : RootOf f hb rest typ) {q : List Int} {n n' : TN} (hq : f q = some n) (h1 : n'.blk = n.blk) (h2 : n'.rest = n.rest) (h3 : n'.typ = n.typ) : RootOf (updT f q n') hb rest typ := by
  obtain ⟨r, hr, hb', hs, ht⟩ := h
  by_cases e : ([] : List Int) = q
  · subst e
    rw [hq] at hr
    obtain rfl := Option.some.inj hr
    exact ⟨n', updT_same _ _ _, h1.trans hb', h2.trans hs, h3.trans ht⟩
  · exact ⟨r, (updT_other _ _ e).trans hr, hb', hs, ht⟩
theorem RootOf.new {f : TF} {hb : Nat} {rest : List Value} {typ : TypeId} (h : RootOf f hb rest typ) {q : List Int} {n' : TN} (hq : f q = none) : RootOf (updT f q n') hb rest typ := by
  obtain ⟨r, hr, hb', hs, ht⟩ := h
  refine ⟨r, (updT_other _ _ ?_).trans hr, hb', hs, ht⟩
  rintro rfl
  rw [hq] at hr; cases hr
section
variable {w w' : World} {B hb eb K : Nat} {eo : Option Obj} {f : TF}
/-- what is below a node that is none is none -/
theorem Trie.none_below (h : Trie w B hb eb eo f K) {q : List Int} (hq : f q = none) : ∀ r, f (q ++ r) = none := by
  intro r
  suffices ∀ r : List Int, f (q ++ r.reverse) = none by have := this r.reverse; simpa using this
  intro r
  induction r with
  | nil => simpa using hq
  | cons c r ih =>
    rw [List.reverse_cons, ← List.append_assoc]
    have := h.closed (q ++ r.reverse) c
    rw [ih] at this
    cases hh : f (q ++ r.reverse ++ [c]) with
    | none => rfl
    | some y => rw [hh] at this; exact absurd (this rfl) (by simp)
end
end Go.Proofs.YtdcdlmigagjbiaaDoor
/- The trie's add walked. -/
namespace Go.Proofs.YtdcdlmigagjbiaaDoor
open Go.RowKit Go.Maps

theorem ckey : Keyed Tryd.prog 3 := int_keyed Tryd.underlying3
def kidP (f : TF) (q : List Int) : Value := match f q with | some n => .pointer (some ⟨n.blk, 0, none⟩) | none => .pointer none
theorem kidP_some {f : TF} {q : List Int} {n : TN} (h : f q = some n) : kidP f q = .pointer (some ⟨n.blk, 0, none⟩) := by unfold kidP; rw [h]
theorem kidP_none {f : TF} {q : List Int} (h : f q = none) : kidP f q = .pointer none := by unfold kidP; rw [h]
theorem kkey {c : Int} (hc : -9223372036854775808 ≤ c ∧ c ≤ 9223372036854775807) : keyOf Tryd.prog 3 (.int .i64 c) = some (kI c) := keyOf_int_mk Tryd.underlying3 (WalkArith.wf_i64 (by omega))
def unheld : DataW Value → Value | .held v => v | _ => .pointer none
theorem held_inj {a b : Value} (h : (DataW.held a : DataW Value) = .held b) : a = b := congrArg unheld h
section
variable {w w' : World} {B hb eb K : Nat} {eo : Option Obj} {f : TF}
/-- a child is looked up -/
theorem Kids.look {q : List Int} {m : Nat} (h : Kids w f q m K) {c : Int} (hc : -9223372036854775808 ≤ c ∧ c ≤ 9223372036854775807) :
    (Instr.lookup 65 (.map (some m)) (.int .i64 c) false).run Tryd.prog w = .ok (kidP f (q ++ [c])) w := by
  obtain ⟨k, D, ho, hk, hD⟩ := h
  obtain ⟨v, ps, hrun, hv⟩ := ho.lookup ckey Tryd.underlying65 (z := .pointer none) (by kernel_rfl) (zd := .held (.pointer none)) (zp := []) rfl (kkey hc)
  have he : DataW.held v = D.atKey (kI c) (.held (.pointer none)) := by
    have := congrArg Prod.fst (Option.some.inj hv)
    exact this
  have hv2 : v = kidP f (q ++ [c]) := by
    cases hf : f (q ++ [c]) with
    | some n' =>
      rw [(hD c).2 n' hf] at he
      exact (held_inj he).trans (kidP_some hf).symm
    | none =>
      have hh := (hD c).1
      rw [hf] at hh
      rw [Maps.atKey_of_not_has hh] at he
      exact (held_inj he).trans (kidP_none hf).symm
  rw [← hv2]
  exact hrun
end
section
variable {w w' : World} {B hb eb K : Nat} {eo : Option Obj} {f : TF}
/-- what is known where a child is to be made -/
theorem Trie.kidstep (h : Trie w B hb eb eo f K) {q : List Int} {n : TN} {m : Nat} {c : Int} {nb : Nat} (hq : f q = some n) (hnb : n.blk = nb) (hm : n.mb = some m) (hc : f (q ++ [c]) = none) (hB : B ≤ w.heap.size) (hcr : -9223372036854775808 ≤ c ∧ c ≤ 9223372036854775807) :
    ∃ (kk : Nat) (D : DataW Value), kk ≤ K ∧ (w.alloc (.cells #[.map none, .slice none 0 0] 68)).ownsMap (H := Value) Tryd.prog 3 rawE m kk D ∧ w.cell? ⟨nb, 0, none⟩ = some (.map (some m)) ∧ (w.alloc (.cells #[.map none, .slice none 0 0] 68)).cell? ⟨nb, 0, none⟩ = some (.map (some m)) ∧
      (Instr.lookup 65 (.map (some m)) (.int .i64 c) false).run Tryd.prog w = .ok (.pointer none) w ∧
      ∀ w2, w2.ownsMap (H := Value) Tryd.prog 3 rawE m (kk + 1) (D.put (kI c) (.held (.pointer (some ⟨w.heap.size, 0, none⟩)))) → (w.alloc (.cells #[.map none, .slice none 0 0] 68)).mapTurned w2 m →
        Hid (Trie w2 B hb eb eo (updT f (q ++ [c]) (newTN w.heap.size)) (K + 1)) ∧ w2.cell? ⟨nb, 0, none⟩ = some (.map (some m)) ∧
        (Instr.lookup 65 (.map (some m)) (.int .i64 c) false).run Tryd.prog w2 = .ok (.pointer (some ⟨w.heap.size, 0, none⟩)) w2 ∧ Hid (Turn [m] w w2) := by
  subst hnb
  obtain ⟨hk, hBm, hne⟩ := h.map q n m hq hm
  have hnode := (h.node q n hq).1
  have e0 : n.blk ≠ m := by
    intro e
    exact h.blk_map hq (by rw [e]; exact hk.mapOf)
  have hl := hk.look hcr
  rw [kidP_none hc] at hl
  obtain ⟨kk, D, ho, hkK, hD⟩ := hk
  have c0 := hnode.cell 0
  simp [hm] at c0
  have c1 := (hnode.alloc (.cells #[.map none, .slice none 0 0] 68)).cell 0
  simp [hm] at c1
  refine ⟨kk, D, hkK, ho.alloc _, c0, c1, hl, fun w2 h2 ht => ?_⟩
  have T := h.newkid hq hm hc hB hkK hD ho.isMap h2 ht
  have hq2 : updT f (q ++ [c]) (newTN w.heap.size) q = some n := (updT_other _ _ (by simp)).trans hq
  have c2 := (T.node q n hq2).1.cell 0
  simp [hm] at c2
  have l2 := (T.map q n m hq2 hm).1.look hcr
  rw [kidP_some (updT_same _ _ _)] at l2
  exact ⟨Lib.hid T, c2, l2, Lib.hid (((Turn.refl [m] w).alloc (.cells #[.map none, .slice none 0 0] 68)).trans (mapTurned_turn ht) (fun i hi => .inl hi))⟩
/-- .. where the node has no map yet -/
theorem Trie.mapstep (h : Trie w B hb eb eo f K) {q : List Int} {n : TN} {c : Int} (hq : f q = some n) (hm : n.mb = none) (hB : B ≤ w.heap.size) (W : World) (hW : (w.alloc (.map #[] 0)).setCell ⟨n.blk, 0, none⟩ (.map (some w.heap.size)) = W) :
    Trie W B hb eb eo (updT f q { n with mb := some w.heap.size }) K ∧ (w.alloc (.map #[] 0)).frozen? ⟨n.blk, 0, none⟩ = false ∧ (w.alloc (.map #[] 0)).cell? ⟨n.blk, 0, none⟩ = some (.map none) ∧ updT f q { n with mb := some w.heap.size } q = some { n with mb := some w.heap.size } ∧ updT f q { n with mb := some w.heap.size } (q ++ [c]) = none ∧
      W.heap.size = w.heap.size + 1 ∧ Turn [n.blk] w W := by
  subst hW
  have cz := ((h.node q n hq).1.alloc (.map #[] 0)).cell 0
  simp [hm] at cz
  exact ⟨h.setmap hq hm hB, ((h.node q n hq).1.alloc _).frozen 0, cz, updT_same _ _ _, (updT_other _ _ (by intro e; have := congrArg List.length e; simp at this)).trans (h.nomap q n hq hm c), by simp, ((Turn.refl _ _).alloc _).setCell (.inl (by simp)) _⟩
end
theorem cells_far (w : World) (t : TypeId) : ¬ CellsOf w w.heap.size t := fun ⟨_, _, hh⟩ => by
  rw [Array.getElem?_eq_none (Nat.le_refl _)] at hh
  cases hh
theorem row_base {w : World} {base : Nat} {e : TypeId} {size n : Nat} {v : Value} {xs : List Value} (h : w.ownsRow base e size v n xs) : ∀ g, v.ownBlock = some g → base ≤ g := by
  intro g hg
  rcases h.2 with ⟨rfl, _⟩ | ⟨g', cap, cur, rfl, hb, _⟩
  · simp [Value.ownBlock] at hg
  · simp [Value.ownBlock] at hg
    subst hg
    exact hb
/-- what add leaves -/
def AddPost (B hb eb K : Nat) (eo : Option Obj) (f : TF) (rest : List Value) (typ : TypeId) (L : List Int) (P : Pat) (w : World) (e : Ending) (w' : World) : Prop :=
  e = .returned (.tuple #[]) ∧ Below B w w' ∧ ∃ f', Trie w' B hb eb eo f' (K + L.length) ∧ RootOf f' hb rest typ ∧ ∀ q, contT f' q = contT f q ++ (if q = L then [P] else [])
theorem addPost_mk {B hb eb K : Nat} {eo : Option Obj} {f f' : TF} {rest : List Value} {typ : TypeId} {L : List Int} {P : Pat} {w w' : World} (h1 : Below B w w') (h2 : Trie w' B hb eb eo f' (K + L.length)) (h3 : RootOf f' hb rest typ)
    (h4 : ∀ q, contT f' q = contT f q ++ (if q = L then [P] else [])) : AddPost B hb eb K eo f rest typ L P w (.returned (.tuple #[])) w' := ⟨rfl, h1, f', h2, h3, h4⟩
def patV (P : Pat) (pv : Value) : Value := .agg #[.string ⟨P.letters.toArray⟩, pv, .bool P.beg, .bool P.fin]
theorem pat_info : (Tryd.prog.info? 33).map (fun i => (i.zero, i.size, i.bytes)) = some (some (.agg #[.string ⟨#[]⟩, .slice none 0 0, .bool false, .bool false]), 4, 48) := by kernel_rfl
set_option maxRecDepth 100000 in
set_option maxHeartbeats 1600000 in
theorem add_any {w : World} {B hb eb K : Nat} {eo : Option Obj} {f : TF} {rest : List Value} {typ : TypeId} (h : Trie w B hb eb eo f K) (hr : RootOf f hb rest typ) (L : List Int) (P : Pat) (lv pv : Value) (hL : IntRow w B lv L) (hP : IntRow w B pv P.levels)
    (hLp : ∀ c, c ∈ L → -9223372036854775808 ≤ c ∧ c ≤ 9223372036854775807) (hK : K + L.length ≤ 1000000) (hc : (contT f L).length ≤ 1000000) (hB : B ≤ w.heap.size) :
    Calls Tryd.prog 46 #[.pointer (some ⟨hb, 0, none⟩), lv, patV P pv] w (AddPost B hb eb K eo f rest typ L P w) := by
  obtain ⟨i0, hi0, hz0, hz1, hz2⟩ := info_parts pat_info
  obtain ⟨ao, cap, rfl⟩ := row_slice hL
  obtain ⟨pao, pcap, rfl⟩ := row_slice hP
  have hmm := @run_makeMap Tryd.prog
  have hen := fun (w : World) (r : Option Nat) => run_eql_map_nil w 65 _ _ r Tryd.underlying65
  unfold patV
  have H0 := Lib.hid (h.alloc (.cells #[.string ⟨P.letters.toArray⟩, (.slice pao P.levels.length pcap), .bool P.beg, .bool P.fin] 33))
  have hal : Turn [] w (w.alloc (.cells #[.string ⟨P.letters.toArray⟩, (.slice pao P.levels.length pcap), .bool P.beg, .bool P.fin] 33)) := (Turn.refl _ _).alloc _
  have HL0 := Lib.hid (hL.turn hal (fun _ hi => by cases hi))
  have HP0 := Lib.hid (hP.turn hal (fun _ hi => by cases hi))
  have HB0 := Lib.hid (Blk.new w 33 #[.string ⟨P.letters.toArray⟩, (.slice pao P.levels.length pcap), .bool P.beg, .bool P.fin])
  have HR := Lib.hid hr
  have HC := Lib.hid hc
  have HLP := Lib.hid hLp
  clear hL hP hal h hr hc hLp
  go_enter Tryd.func46, Tryd.ntmps46
  go_wp2_with fail
  go_loopw [0, 10] (fun nv i wr => ∃ (k : Nat) (f' : TF) (n : TN), k ≤ L.length ∧ i = .int .i64 (k : Int) ∧ nv = .pointer (some ⟨n.blk, 0, none⟩) ∧ Hid (Trie wr B hb eb eo f' (K + k)) ∧ Hid (f' (L.take k) = some n) ∧ Hid (RootOf f' hb rest typ) ∧ Hid (contT f' = contT f) ∧ Hid (Below B w wr) ∧ Hid (IntRow wr B (.slice ao L.length cap) L) ∧ Hid (IntRow wr B (.slice pao P.levels.length pcap) P.levels) ∧
      Hid (Blk wr w.heap.size 33 #[.string ⟨P.letters.toArray⟩, (.slice pao P.levels.length pcap), .bool P.beg, .bool P.fin])) (fun _ i _ => L.length - (intOf i).toNat)
  case atStart =>
    obtain ⟨r, hr1, hr2, _⟩ := HR.out
    exact ⟨0, f, r, Nat.zero_le _, rfl, by rw [hr2], H0, Lib.hid hr1, HR, Lib.hid rfl, Lib.hid ((Below.refl B w).alloc hB _), HL0, HP0, HB0⟩
  case round =>
    obtain ⟨k, f', n, hk, rfl, rfl, HT, HQ, HRo, HCo, HBe, HLr, HPr, HBl⟩ := hrel
    by_cases hlt : k < L.length
    · obtain ⟨g, off, cap', hcr, hsl, hcc⟩ : ∃ g off cap', cap' = cap ∧ ao = some ⟨g, off, none⟩ ∧ wr.cell? ⟨g, off + k, none⟩ = some (.int .i64 (L.getD k 0)) := by
        rcases (HLr.out.ints).open with ⟨h0, _⟩ | ⟨_, b, off, cap', hv, _, _, _, hc⟩
        · rw [h0] at hlt; cases hlt
        · injection hv with e1 _ e3
          exact ⟨b, off, cap', e3.symm, e1, hc k hlt⟩
      subst hcr hsl
      have hcz := HLP.out (L.getD k 0) (by rw [List.getD_eq_getElem?_getD, List.getElem?_eq_getElem hlt]; exact List.getElem_mem hlt)
      have HTK := Lib.hid (show L.take (k + 1) = L.take k ++ [L.getD k 0] by rw [List.getD_eq_getElem?_getD, List.getElem?_eq_getElem hlt, List.take_add_one, List.getElem?_eq_getElem hlt]; rfl)
      obtain ⟨q, hq⟩ : ∃ q, L.take k = q := ⟨_, rfl⟩
      rw [hq] at HQ HTK
      obtain ⟨c, hcd⟩ : ∃ c, L.getD k 0 = c := ⟨_, rfl⟩
      rw [hcd] at hcc hcz HTK
      have HCZ := Lib.hid hcz
      clear hq hcd hcz
      have c0 := (HT.out.node q n HQ.out).1.cell 0
      simp at c0
      have HB' := Lib.hid (show B ≤ wr.heap.size from Nat.le_trans hB HBe.out.size)
      have step : ∀ (F : List Nat) (w2 : World) (f2 : TF) (n2 : TN), Trie w2 B hb eb eo f2 (K + (k + 1)) → Turn F wr w2 → (∀ i, i ∈ F → B ≤ i ∧ ¬ CellsOf wr i 3 ∧ ¬ CellsOf wr i 33) → RootOf f2 hb rest typ → contT f2 = contT f' → f2 (q ++ [c]) = some n2 →
          ∃ (k1 : Nat) (f' : TF) (n : TN), k1 ≤ L.length ∧ Value.int .i64 ((k : Int) + 1) = .int .i64 (k1 : Int) ∧ Value.pointer (some ⟨n2.blk, 0, none⟩) = .pointer (some ⟨n.blk, 0, none⟩) ∧ Hid (Trie w2 B hb eb eo f' (K + k1)) ∧ Hid (f' (L.take k1) = some n) ∧ Hid (RootOf f' hb rest typ) ∧ Hid (contT f' = contT f) ∧ Hid (Below B w w2) ∧ Hid (IntRow w2 B (.slice (some ⟨g, off, none⟩) L.length cap') L) ∧ Hid (IntRow w2 B (.slice pao P.levels.length pcap) P.levels) ∧
            Hid (Blk w2 w.heap.size 33 #[.string ⟨P.letters.toArray⟩, (.slice pao P.levels.length pcap), .bool P.beg, .bool P.fin]) := by
        intro F w2 f2 n2 h1 h2 h3 h4 h5 h6
        refine ⟨k + 1, f2, n2, hlt, rfl, rfl, Lib.hid h1, Lib.hid (by rw [HTK.out]; exact h6), Lib.hid h4, Lib.hid (h5.trans HCo.out), Lib.hid (HBe.out.trans (h2.toBelow (fun i hi => (h3 i hi).1) HB'.out)), Lib.hid (HLr.out.turn h2 (fun i hi => (h3 i hi).2.1)), Lib.hid (HPr.out.turn h2 (fun i hi => (h3 i hi).2.1)), Lib.hid (HBl.out.turn h2 (fun hi => (h3 _ hi).2.2 HBl.out.cellsOf))⟩
      have STEP := Lib.hid step
      clear step
      cases hmb : n.mb with
      | none =>
        obtain ⟨W, hW⟩ : ∃ W, (wr.alloc (.map #[] 0)).setCell ⟨n.blk, 0, none⟩ (.map (some wr.heap.size)) = W := ⟨_, rfl⟩
        obtain ⟨t1, fz, cz, t3, t4, t5, t6⟩ := HT.out.mapstep (c := c) HQ.out hmb HB'.out W hW
        obtain ⟨kk, D, k1, k2, k3, k4, k5, k6⟩ := t1.kidstep t3 (nb := n.blk) rfl rfl t4 (by have := HB'.out; omega) HCZ.out
        have K1 := Lib.hid k1
        have K2 := Lib.hid k2
        have K6 := Lib.hid k6
        have T1 := Lib.hid t1
        have T3 := Lib.hid t3
        have T4 := Lib.hid t4
        have T5 := Lib.hid t5
        have T6 := Lib.hid t6
        have HMB := Lib.hid hmb
        rw [hmb] at c0
        clear t1 t3 t4 t5 t6 k1 k2 k6 hmb
        go_wp2_with (first
          | (at_mapUpdate; refine wpList_mapUpdate_in _ rfl _ _ _ 65 rfl 3 64 ckey Tryd.underlying65 _ wr.heap.size _ _ rfl K2.out (by have := K1.out; unfold maxLen; omega) _ _ _ rfl rfl (kkey HCZ.out) _ [] rfl ?_; intro w2 ho ht; obtain ⟨s1, s2, s3, s4⟩ := K6.out w2 ho ht; clear ho ht))
        go_roundw
        case rel =>
          have R1 : RootOf (updT f' q { n with mb := some wr.heap.size }) hb rest typ := HRo.out.upd HQ.out rfl rfl rfl
          exact STEP.out [n.blk, wr.heap.size] w2 _ (newTN W.heap.size) s1.out ((T6.out.mono (fun i hi => by rcases List.mem_cons.1 hi with rfl | hi; exact List.mem_cons_self; cases hi)).trans s4.out (fun i hi => .inr (by have e : i = wr.heap.size := (by simpa using hi); omega)))
            (fun i hi => by
              rcases List.mem_cons.1 hi with rfl | hi
              · exact ⟨(HT.out.node q n HQ.out).2.2, HT.out.blk_int HQ.out, HT.out.blk_row HQ.out⟩
              · obtain rfl : i = wr.heap.size := by simpa using hi
                exact ⟨HB'.out, cells_far wr _, cells_far wr _⟩)
            (RootOf.new R1 T4.out) ((contT_new T4.out _).trans (contT_set HQ.out _)) (updT_same _ _ _)
        case measure => simp [intOf]; omega
      | some m =>
        rw [hmb] at c0
        have HMB := Lib.hid hmb
        obtain ⟨kd, hmO, hmB⟩ : Hid (Kids wr f' q m (K + k)) ∧ Hid (MapOf wr m) ∧ Hid (B ≤ m) := ⟨Lib.hid (HT.out.map q n m HQ.out hmb).1, Lib.hid (HT.out.mb_kind HQ.out hmb), Lib.hid (HT.out.map q n m HQ.out hmb).2.1⟩
        have hl := kd.out.look HCZ.out
        cases hch : f' (q ++ [c]) with
        | some nc =>
          rw [kidP_some hch] at hl
          have HCH := Lib.hid hch
          clear hch hmb
          go_wp2_with fail
          go_roundw
          case rel => exact STEP.out [] wr _ nc (HT.out.mono (by omega)) (Turn.refl _ _) (fun i hi => by cases hi) HRo.out rfl HCH.out
          case measure => simp [intOf]; omega
        | none =>
          rw [kidP_none hch] at hl
          have HCH := Lib.hid hch
          obtain ⟨kk, D, k1, k2, k3, k4, k5, k6⟩ := HT.out.kidstep HQ.out (nb := n.blk) rfl hmb hch HB'.out HCZ.out
          have K1 := Lib.hid k1
          have K2 := Lib.hid k2
          have K6 := Lib.hid k6
          clear k1 k2 k6 hch hmb k3 k5
          go_wp2_with (first
            | (at_mapUpdate; refine wpList_mapUpdate_in _ rfl _ _ _ 65 rfl 3 64 ckey Tryd.underlying65 _ m _ _ rfl K2.out (by have := K1.out; unfold maxLen; omega) _ _ _ rfl rfl (kkey HCZ.out) _ [] rfl ?_; intro w2 ho ht; obtain ⟨s1, s2, s3, s4⟩ := K6.out w2 ho ht; clear ho ht))
          go_roundw
          case rel =>
            exact STEP.out [m] w2 _ (newTN wr.heap.size) s1.out s4.out (fun i hi => by have e : i = m := (by simpa using hi); subst e; exact ⟨hmB.out, fun hh => cells_map hh hmO.out, fun hh => cells_map hh hmO.out⟩)
              (HRo.out.new HCH.out) (contT_new HCH.out _) (updT_same _ _ _)
          case measure => simp [intOf]; omega
    · have hke : k = L.length := by omega
      subst hke
      have HQ := Lib.hid (show f' L = some n by have := HQ.out; rwa [List.take_length] at this)
      obtain ⟨xs, hrow, hpc⟩ := HT.out.row L n HQ.out
      have hn := (HT.out.node L n HQ.out).1
      have c1 := hn.cell 1
      simp at c1
      have f1 := hn.frozen 1
      have p0 := HBl.out.cell 0
      have p1 := HBl.out.cell 1
      have p2 := HBl.out.cell 2
      have p3 := HBl.out.cell 3
      simp at p0 p1 p2 p3
      have hlp : n.ps.length ≤ 1000000 := by
        have := HC.out
        rw [← HCo.out, contT_at HQ.out] at this
        exact this
      have hBw := Nat.le_trans hB HBe.out.size
      have HPC := Lib.hid hpc
      have HN := Lib.hid hn
      have hne : n.pv.ownBlock ≠ some n.blk := own_blk_ne hrow hn (by rcases (HT.out.node L n HQ.out).2.1 with e | e <;> rw [e] <;> decide)
      have hnl := hn.lt
      have ca := (hn.alloc (.cells #[.string ⟨P.letters.toArray⟩, (.slice pao P.levels.length pcap), .bool P.beg, .bool P.fin] 33)).cell 1
      have fa := (hn.alloc (.cells #[.string ⟨P.letters.toArray⟩, (.slice pao P.levels.length pcap), .bool P.beg, .bool P.fin] 33)).frozen 1
      simp at ca
      clear hpc hn
      go_wp2_with fail
      go_region_law (first
        | (refine step_append_lies _ (by rfl) _ _ _ (by rfl) B 33 i0 _ 4 48 Tryd.underlying66 hi0 hz0 hz1 hz2 rfl (by omega) n.pv n.ps.length xs (by rfl) (hrow.alloc _)
            ⟨wr.heap.size, 0, none⟩ 1 1 [.string ⟨P.letters.toArray⟩, (.slice pao P.levels.length pcap), .bool P.beg, .bool P.fin] (by rfl) (by rfl) (World.news_of_block (cs := #[.string ⟨P.letters.toArray⟩, (.slice pao P.levels.length pcap), .bool P.beg, .bool P.fin]) (t := 33) (fr := (0, 0)) (heap_alloc_new wr _)) (by simp [Value.oneCell'])
            (by omega) (by unfold maxLen; omega) (by omega) (by simp; omega) (wr.heap.size + 1) (by simp) ?_; intro g2 cap2 w2 hown hg hat hlt2; have c22 := (hg.cell_far ⟨n.blk, 1, none⟩ (by simp; omega) (Ne.symm hne)).trans ca; have f22 := (hg.frozen_far ⟨n.blk, 1, none⟩ (by simp; omega) (Ne.symm hne)).trans fa))
      all_goals
        have hcs : patCells wr B [.string ⟨P.letters.toArray⟩, (.slice pao P.levels.length pcap), .bool P.beg, .bool P.fin] [P] := ⟨rfl, HPr.out, rfl, rfl, trivial⟩
        have hg' : (wr.alloc (.cells #[.string ⟨P.letters.toArray⟩, (.slice pao P.levels.length pcap), .bool P.beg, .bool P.fin] 33)).grownBy w2 n.pv.ownBlock := ⟨hg.os, hg.tape, hg.output, hg.size, hg.block⟩
        have T := Lib.hid (HT.out.addpat HQ.out hcs HPC.out hown hg' (hat.elim (fun e => .inl e.symm) (fun e => .inr (by rw [e]; simp [Value.ownBlock]))))
        have R := Lib.hid (RootOf.upd (n' := { n with pv := .slice (some ⟨g2, 0, none⟩) (n.ps.length + 1) cap2, ps := n.ps ++ [P] }) HRo.out HQ.out rfl rfl rfl)
        have hbase : ∀ g, n.pv.ownBlock = some g → B ≤ g := row_base hrow
        have t1 : Turn (n.blk :: n.pv.ownBlock.toList) wr (w2.setCell ⟨n.blk, 1, none⟩ (.slice (some ⟨g2, 0, none⟩) (n.ps.length + 1) cap2)) :=
          (((Turn.refl _ _).alloc _).trans ((Turn.refl (n.blk :: n.pv.ownBlock.toList) _).grown hg' (fun g hg' => .inl (by rw [hg']; simp))) (fun i hi => .inl hi)).setCell (p := ⟨n.blk, 1, none⟩) (.inl List.mem_cons_self) _
        have hBe2 := Lib.hid (HBe.out.trans (t1.toBelow (fun i hi => by
          rcases List.mem_cons.1 hi with e | hi
          · rw [e]; exact (HT.out.node L n HQ.out).2.2
          · exact hbase i (by simpa using hi)) hBw))
        go_end0
        exact addPost_mk hBe2.out T.out R.out (fun q => by rw [contT_add HQ.out, HCo.out])

end Go.Proofs.YtdcdlmigagjbiaaDoor
