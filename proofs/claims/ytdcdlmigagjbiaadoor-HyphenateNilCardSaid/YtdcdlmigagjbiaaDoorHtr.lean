/- The trie in memory. -/
import Derived.Test.YtdcdlmigagjbiaaDoorHpa
import Derived.Test.YtdcdlmigagjbiaaDoorVmem
namespace Go.Proofs.YtdcdlmigagjbiaaDoor
open Go.RowKit Go.Maps

/-- an element of a map read as itself -/
def rawE (v : Value) : Option (DataW Value × List MemPlace) := some (.held v, [])
def kI (c : Int) : Lit := .int .i64 c
theorem kI_is (c : Int) : WideAt.IsKeyLit (kI c) := by trivial
theorem kI_inj {a b : Int} (h : kI a = kI b) : a = b := by unfold kI at h; injection h
/-- the object at a block is of cells of a type -/
def CellsOf (w : World) (i : Nat) (t : TypeId) : Prop := ∃ cs fz, w.heap[i]? = some (.cells cs t fz)
def MapOf (w : World) (i : Nat) : Prop := ∃ es k, w.heap[i]? = some (.map es k)
theorem cells_cells {w : World} {i : Nat} {t u : TypeId} (h : CellsOf w i t) (k : CellsOf w i u) : t = u := by
  obtain ⟨cs, fz, h⟩ := h
  obtain ⟨cs', fz', k⟩ := k
  rw [h] at k
  injection k with k
  injection k
theorem cells_map {w : World} {i : Nat} {t : TypeId} (h : CellsOf w i t) (k : MapOf w i) : False := by
  obtain ⟨cs, fz, h⟩ := h
  obtain ⟨es, c, k⟩ := k
  rw [h] at k
  injection k with k
  cases k
theorem Blk.cellsOf {w : World} {g : Nat} {t : TypeId} {cs : Array Value} (h : Blk w g t cs) : CellsOf w g t := ⟨_, _, h⟩
theorem row_cellsOf {w : World} {base : Nat} {e : TypeId} {size n : Nat} {v : Value} {xs : List Value} (h : w.ownsRow base e size v n xs) {g : Nat} (hg : v.ownBlock = some g) : CellsOf w g e := by
  rcases h.2 with ⟨rfl, _⟩ | ⟨g', cap, cur, rfl, _, hh, _⟩
  · simp [Value.ownBlock] at hg
  · simp [Value.ownBlock] at hg
    subst hg
    exact ⟨_, _, hh⟩
theorem map_mapOf {H : Type} {P : Program} {k : TypeId} {R : Value → Option (DataW H × List MemPlace)} {w : World} {b n : Nat} {D : DataW H} (h : w.ownsMap P k R b n D) : MapOf w b := by
  obtain ⟨es, c, hb, _⟩ := h
  exact ⟨es, c, hb⟩
/-- the rows of ints with a base -/
def IntRow (w : World) (B : Nat) (v : Value) (l : List Int) : Prop := w.ownsRow B 3 1 v l.length (l.map (Value.int .i64))
theorem IntRow.ints {w : World} {B : Nat} {v : Value} {l : List Int} (h : IntRow w B v l) : Ints w v l := Ints.of_owns h
/-- how the cells of a row of patterns read -/
def patCells (w : World) (B : Nat) : List Value → List Pat → Prop
  | [], [] => True
  | s :: v :: b :: f :: xs, P :: ps => s = .string ⟨P.letters.toArray⟩ ∧ IntRow w B v P.levels ∧ b = .bool P.beg ∧ f = .bool P.fin ∧ patCells w B xs ps
  | _, _ => False
/-- a node: its block, its map, its row, its patterns, the cells behind, its type -/
structure TN where
  blk : Nat
  mb : Option Nat
  pv : Value
  ps : List Pat
  rest : List Value
  typ : TypeId
abbrev TF := List Int → Option TN
def updT (f : TF) (q : List Int) (n : TN) : TF := fun x => if x = q then some n else f x
theorem updT_same (f : TF) (q : List Int) (n : TN) : updT f q n q = some n := if_pos rfl
theorem updT_other (f : TF) {q x : List Int} (n : TN) (h : x ≠ q) : updT f q n x = f x := if_neg h
/-- the map m reads as the children of node q -/
def Kids (w : World) (f : TF) (q : List Int) (m K : Nat) : Prop :=
  ∃ (n : Nat) (D : DataW Value), w.ownsMap (H := Value) Tryd.prog 3 rawE m n D ∧ n ≤ K ∧ ∀ c : Int, Maps.has D (kI c) = (f (q ++ [c])).isSome ∧ ∀ n', f (q ++ [c]) = some n' → ∀ z, D.atKey (kI c) z = .held (.pointer (some ⟨n'.blk, 0, none⟩))
structure Trie (w : World) (B hb eb : Nat) (eo : Option Obj) (f : TF) (K : Nat) : Prop where
  root : ∃ n, f [] = some n ∧ n.blk = hb
  closed : ∀ q c, (f (q ++ [c])).isSome = true → (f q).isSome = true
  node : ∀ q n, f q = some n → Blk w n.blk n.typ (#[.map n.mb, n.pv] ++ n.rest.toArray) ∧ (n.typ = 68 ∨ n.typ = 71) ∧ B ≤ n.blk
  row : ∀ q n, f q = some n → ∃ xs, w.ownsRow B 33 4 n.pv n.ps.length xs ∧ patCells w B xs n.ps
  nomap : ∀ q n, f q = some n → n.mb = none → ∀ c, f (q ++ [c]) = none
  map : ∀ q n m, f q = some n → n.mb = some m → Kids w f q m K ∧ B ≤ m ∧ m ≠ eb
  inj : ∀ q q' n n', f q = some n → f q' = some n' → n.blk = n'.blk → q = q'
  injm : ∀ q q' n n' m, f q = some n → f q' = some n' → n.mb = some m → n'.mb = some m → q = q'
  injr : ∀ q q' n n' g, f q = some n → f q' = some n' → n.pv.ownBlock = some g → n'.pv.ownBlock = some g → q = q'
  ex : MapOf w eb ∧ B ≤ eb ∧ w.heap[eb]? = eo

/-! ### kept while other blocks turn -/
theorem IntRow.turn {w w' : World} {B : Nat} {v : Value} {l : List Int} {F : List Nat} (h : IntRow w B v l) (ht : Turn F w w') (hF : ∀ i, i ∈ F → ¬ CellsOf w i 3) : IntRow w' B v l :=
  row_turn h ht (fun g hg hi => hF g hi (row_cellsOf h hg))
theorem patCells.turn {w w' : World} {B : Nat} {F : List Nat} (ht : Turn F w w') (hF : ∀ i, i ∈ F → ¬ CellsOf w i 3) : ∀ {xs : List Value} {ps : List Pat}, patCells w B xs ps → patCells w' B xs ps
  | [], [], _ => trivial
  | s :: v :: b :: f :: xs, P :: ps, ⟨h1, h2, h3, h4, h5⟩ => ⟨h1, h2.turn ht hF, h3, h4, patCells.turn ht hF h5⟩
  | [], _ :: _, h => h.elim
  | [_], _, h => by cases h
  | [_, _], _, h => by cases h
  | [_, _, _], _, h => by cases h
  | _ :: _ :: _ :: _ :: _, [], h => h.elim
theorem patCells.append {w : World} {B : Nat} : ∀ {xs ys : List Value} {ps qs : List Pat}, patCells w B xs ps → patCells w B ys qs → patCells w B (xs ++ ys) (ps ++ qs)
  | [], _, [], _, _, h => h
  | s :: v :: b :: f :: xs, _, P :: ps, _, ⟨h1, h2, h3, h4, h5⟩, h => ⟨h1, h2, h3, h4, patCells.append h5 h⟩
  | [], _, _ :: _, _, h, _ => h.elim
  | [_], _, _, _, h, _ => by cases h
  | [_, _], _, _, _, h, _ => by cases h
  | [_, _, _], _, _, _, h, _ => by cases h
  | _ :: _ :: _ :: _ :: _, _, [], _, h, _ => h.elim
theorem Kids.turn {w w' : World} {f : TF} {q : List Int} {m K : Nat} {F : List Nat} (h : Kids w f q m K) (ht : Turn F w w') (hn : m ∉ F) : Kids w' f q m K := by
  obtain ⟨n, D, h1, h2, h3⟩ := h
  exact ⟨n, D, map_turn h1 ht hn, h2, h3⟩
theorem Kids.mapOf {w : World} {f : TF} {q : List Int} {m K : Nat} (h : Kids w f q m K) : MapOf w m := by
  obtain ⟨n, D, h1, _⟩ := h
  exact map_mapOf h1
section
variable {w w' : World} {B hb eb K : Nat} {eo : Option Obj} {f : TF} {F : List Nat}
/-- a trie stays while blocks turn that are none of its own -/
theorem Trie.turn (h : Trie w B hb eb eo f K) (ht : Turn F w w') (hi : ∀ i, i ∈ F → ¬ CellsOf w i 3) (hblk : ∀ q n, f q = some n → n.blk ∉ F) (hmb : ∀ q n m, f q = some n → n.mb = some m → m ∉ F) (hpv : ∀ q n g, f q = some n → n.pv.ownBlock = some g → g ∉ F) (he : eb ∉ F) : Trie w' B hb eb eo f K := by
  refine ⟨h.root, h.closed, fun q n hq => ⟨(h.node q n hq).1.turn ht (hblk q n hq), (h.node q n hq).2⟩, fun q n hq => ?_, h.nomap, fun q n m hq hm => ⟨(h.map q n m hq hm).1.turn ht (hmb q n m hq hm), (h.map q n m hq hm).2⟩, h.inj, h.injm, h.injr, ?_, h.ex.2.1, ?_⟩
  · obtain ⟨xs, h1, h2⟩ := h.row q n hq
    exact ⟨xs, row_turn h1 ht (fun g hg => hpv q n g hq hg), h2.turn ht hi⟩
  · obtain ⟨es, k, hk⟩ := h.ex.1
    have : eb < w.heap.size := (Array.getElem?_eq_some_iff.1 hk).1
    exact ⟨es, k, (ht.block eb this he).trans hk⟩
  · obtain ⟨es, k, hk⟩ := h.ex.1
    exact (ht.block eb (Array.getElem?_eq_some_iff.1 hk).1 he).trans h.ex.2.2
theorem Trie.below (h : Trie w B hb eb eo f K) (hb' : Below w.heap.size w w') : Trie w' B hb eb eo f K :=
  h.turn (F := []) (Turn.ofBelow hb' (Nat.le_refl _)) (fun _ hi => by cases hi) (fun _ _ _ hi => by cases hi) (fun _ _ _ _ _ hi => by cases hi) (fun _ _ _ _ _ hi => by cases hi) (by simp)
theorem Trie.alloc (h : Trie w B hb eb eo f K) (o : Obj) : Trie (w.alloc o) B hb eb eo f K := h.below ((Below.refl _ w).alloc (Nat.le_refl _) _)
theorem Trie.mono (h : Trie w B hb eb eo f K) {K' : Nat} (hK : K ≤ K') : Trie w B hb eb eo f K' :=
  ⟨h.root, h.closed, h.node, h.row, h.nomap, fun q n m hq hm => by
    obtain ⟨⟨n', D, h1, h2, h3⟩, h4⟩ := h.map q n m hq hm
    exact ⟨⟨n', D, h1, Nat.le_trans h2 hK, h3⟩, h4⟩, h.inj, h.injm, h.injr, h.ex⟩
theorem Trie.blk_lt (h : Trie w B hb eb eo f K) {q : List Int} {n : TN} (hq : f q = some n) : n.blk < w.heap.size := (h.node q n hq).1.lt
theorem Trie.blk_kind (h : Trie w B hb eb eo f K) {q : List Int} {n : TN} (hq : f q = some n) : ∃ t, CellsOf w n.blk t ∧ (t = 68 ∨ t = 71) := ⟨n.typ, (h.node q n hq).1.cellsOf, (h.node q n hq).2.1⟩
theorem Trie.blk_int (h : Trie w B hb eb eo f K) {q : List Int} {n : TN} (hq : f q = some n) : ¬ CellsOf w n.blk 3 := fun k => by
  obtain ⟨t, h1, h2⟩ := h.blk_kind hq
  have := cells_cells h1 k
  subst this
  rcases h2 with h2 | h2 <;> exact absurd h2 (by decide)
theorem Trie.blk_row (h : Trie w B hb eb eo f K) {q : List Int} {n : TN} (hq : f q = some n) : ¬ CellsOf w n.blk 33 := fun k => by
  obtain ⟨t, h1, h2⟩ := h.blk_kind hq
  have := cells_cells h1 k
  subst this
  rcases h2 with h2 | h2 <;> exact absurd h2 (by decide)
theorem Trie.blk_map (h : Trie w B hb eb eo f K) {q : List Int} {n : TN} (hq : f q = some n) : ¬ MapOf w n.blk := fun k => by
  obtain ⟨t, h1, _⟩ := h.blk_kind hq
  exact cells_map h1 k
theorem Trie.row_kind (h : Trie w B hb eb eo f K) {q : List Int} {n : TN} (hq : f q = some n) {g : Nat} (hg : n.pv.ownBlock = some g) : CellsOf w g 33 := by
  obtain ⟨xs, h1, _⟩ := h.row q n hq
  exact row_cellsOf h1 hg
theorem Trie.mb_kind (h : Trie w B hb eb eo f K) {q : List Int} {n : TN} {m : Nat} (hq : f q = some n) (hm : n.mb = some m) : MapOf w m := (h.map q n m hq hm).1.mapOf
theorem Trie.mb_lt (h : Trie w B hb eb eo f K) {q : List Int} {n : TN} {m : Nat} (hq : f q = some n) (hm : n.mb = some m) : m < w.heap.size := by
  obtain ⟨es, k, hk⟩ := h.mb_kind hq hm
  exact (Array.getElem?_eq_some_iff.1 hk).1

/-! ### the three changes -/
/-- node q gets a map without entries -/
theorem Trie.setmap (h : Trie w B hb eb eo f K) {q : List Int} {n : TN} (hq : f q = some n) (hm : n.mb = none) (hB : B ≤ w.heap.size) :
    Trie ((w.alloc (.map #[] 0)).setCell ⟨n.blk, 0, none⟩ (.map (some w.heap.size))) B hb eb eo (updT f q { n with mb := some w.heap.size }) K := by
  have ha := h.alloc (.map #[] 0)
  obtain ⟨hnb, hnt, hnB⟩ := ha.node q n hq
  have ht : Turn [n.blk] (w.alloc (.map #[] 0)) ((w.alloc (.map #[] 0)).setCell ⟨n.blk, 0, none⟩ (.map (some w.heap.size))) := (Turn.refl _ _).setCell (p := ⟨n.blk, 0, none⟩) (.inl (by simp)) _
  have hlt := h.blk_lt hq
  have hebl : eb < w.heap.size := by
    obtain ⟨es, k, hk⟩ := h.ex.1
    exact (Array.getElem?_eq_some_iff.1 hk).1
  have hi : ∀ i, i ∈ [n.blk] → ¬ CellsOf (w.alloc (.map #[] 0)) i 3 := by
    intro i hi
    obtain rfl : i = n.blk := by simpa using hi
    exact ha.blk_int hq
  have hmade : ((w.alloc (.map #[] 0)).setCell ⟨n.blk, 0, none⟩ (.map (some w.heap.size))).ownsMap (H := Value) Tryd.prog 3 rawE w.heap.size 0 (.map []) :=
    map_turn (World.ownsMap_made w Tryd.prog 3 rawE) ht (by simp; omega)
  have hfq : ∀ c, updT f q { n with mb := some w.heap.size } (q ++ [c]) = f (q ++ [c]) := fun c => updT_other _ _ (by intro e; have := congrArg List.length e; simp at this)
  have hget : ∀ x y, updT f q { n with mb := some w.heap.size } x = some y → (x = q ∧ y = { n with mb := some w.heap.size }) ∨ (x ≠ q ∧ f x = some y) := by
    intro x y hx
    by_cases e : x = q
    · subst e
      rw [updT_same] at hx
      exact .inl ⟨rfl, (Option.some.inj hx).symm⟩
    · rw [updT_other _ _ e] at hx
      exact .inr ⟨e, hx⟩
  have hsome : ∀ x, (updT f q { n with mb := some w.heap.size } x).isSome = (f x).isSome := by
    intro x
    by_cases e : x = q
    · subst e; rw [updT_same, hq]; rfl
    · rw [updT_other _ _ e]
  have hold : ∀ x y, updT f q { n with mb := some w.heap.size } x = some y → ∃ z, f x = some z ∧ z.blk = y.blk ∧ z.pv = y.pv ∧ z.ps = y.ps := by
    intro x y hx
    rcases hget x y hx with ⟨rfl, rfl⟩ | ⟨_, hx⟩
    · exact ⟨n, hq, rfl, rfl, rfl⟩
    · exact ⟨y, hx, rfl, rfl, rfl⟩
  have hkid : ∀ x m, Kids (w.alloc (.map #[] 0)) f x m K → m ≠ n.blk → Kids ((w.alloc (.map #[] 0)).setCell ⟨n.blk, 0, none⟩ (.map (some w.heap.size))) (updT f q { n with mb := some w.heap.size }) x m K := by
    intro x m hk hne
    obtain ⟨k, D, k1, k2, k3⟩ := hk.turn ht (by simpa using hne)
    refine ⟨k, D, k1, k2, fun c => ⟨(k3 c).1.trans (hsome _).symm, fun n' hn' z => ?_⟩⟩
    obtain ⟨z', hz1, hz2, _⟩ := hold _ _ hn'
    rw [← hz2]
    exact (k3 c).2 z' hz1 z
  refine ⟨?_, fun x c => by rw [hsome, hsome]; exact h.closed x c, fun x y hx => ?_, fun x y hx => ?_, fun x y hx hy c => ?_, fun x y m hx hy => ?_, fun x x' y y' hx hx' e => ?_, fun x x' y y' m hx hx' e e' => ?_, fun x x' y y' g hx hx' e e' => ?_, ?_, h.ex.2.1, ?_⟩
  · obtain ⟨r, hr, hrb⟩ := h.root
    by_cases e : ([] : List Int) = q
    · subst e
      rw [hq] at hr
      obtain rfl := Option.some.inj hr
      exact ⟨_, updT_same _ _ _, hrb⟩
    · exact ⟨r, by rw [updT_other _ _ e]; exact hr, hrb⟩
  · rcases hget x y hx with ⟨rfl, rfl⟩ | ⟨hne, hx⟩
    · refine ⟨?_, hnt, hnB⟩
      have := hnb.set_ 0 (.map (some w.heap.size))
      simpa using this
    · obtain ⟨k1, k2, k3⟩ := ha.node x y hx
      exact ⟨k1.turn ht (by
        intro hm'
        have e : y.blk = n.blk := by simpa using hm'
        exact hne (h.inj x q y n hx hq e)), k2, k3⟩
  · obtain ⟨z, hz, _, hz2, hz3⟩ := hold x y hx
    obtain ⟨xs, k1, k2⟩ := ha.row x z hz
    rw [← hz2, ← hz3]
    exact ⟨xs, row_turn k1 ht (fun g hg hi' => by
      obtain rfl : g = n.blk := by simpa using hi'
      exact ha.blk_row hq (row_cellsOf k1 hg)), k2.turn ht hi⟩
  · rcases hget x y hx with ⟨rfl, rfl⟩ | ⟨hne, hx⟩
    · cases hy
    · have := h.nomap x y hx hy c
      have := hsome (x ++ [c])
      rw [h.nomap x y hx hy c] at this
      simpa using this
  · rcases hget x y hx with ⟨rfl, rfl⟩ | ⟨hne, hx⟩
    · obtain rfl : w.heap.size = m := by simpa using hy
      refine ⟨⟨0, .map [], hmade, Nat.zero_le _, fun c => ?_⟩, hB, by omega⟩
      have hnone := h.nomap x n hq hm c
      refine ⟨?_, fun n' hn' => ?_⟩
      · rw [hfq, hnone]; rfl
      · rw [hfq, hnone] at hn'; cases hn'
    · obtain ⟨k1, k2, k3⟩ := ha.map x y m hx hy
      exact ⟨hkid x m k1 (by
        rintro rfl
        exact ha.blk_map hq k1.mapOf), k2, k3⟩
  · obtain ⟨z, hz, hz1, _⟩ := hold x y hx
    obtain ⟨z', hz', hz1', _⟩ := hold x' y' hx'
    exact h.inj x x' z z' hz hz' (by rw [hz1, hz1', e])
  · rcases hget x y hx with ⟨ex1, ey1⟩ | ⟨hne, ho⟩
    · rcases hget x' y' hx' with ⟨ex2, ey2⟩ | ⟨hne', ho'⟩
      · rw [ex1, ex2]
      · rw [ey1] at e
        have e3 : w.heap.size = m := by simpa using e
        have := h.mb_lt ho' e'
        omega
    · rcases hget x' y' hx' with ⟨ex2, ey2⟩ | ⟨hne', ho'⟩
      · rw [ey2] at e'
        have e3 : w.heap.size = m := by simpa using e'
        have := h.mb_lt ho e
        omega
      · exact h.injm x x' y y' m ho ho' e e'
  · obtain ⟨z, hz, _, hz2, _⟩ := hold x y hx
    obtain ⟨z', hz', _, hz2', _⟩ := hold x' y' hx'
    exact h.injr x x' z z' g hz hz' (by rw [hz2]; exact e) (by rw [hz2']; exact e')
  · obtain ⟨es, k, hk⟩ := ha.ex.1
    exact ⟨es, k, (ht.block eb (by simp; omega) (by
      intro hm'
      obtain rfl : eb = n.blk := by simpa using hm'
      exact ha.blk_map hq ha.ex.1)).trans hk⟩
  · obtain ⟨es, k, hk⟩ := ha.ex.1
    exact ((ht.block eb (by simp; omega) (by
      intro hm'
      obtain rfl : eb = n.blk := by simpa using hm'
      exact ha.blk_map hq ha.ex.1)).trans ha.ex.2.2)
end
end Go.Proofs.YtdcdlmigagjbiaaDoor
