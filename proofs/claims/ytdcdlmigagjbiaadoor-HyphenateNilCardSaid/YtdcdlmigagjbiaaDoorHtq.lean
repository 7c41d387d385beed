/- The trie: a new child, a pattern more. -/
import Derived.Test.YtdcdlmigagjbiaaDoorHtr
namespace Go.Proofs.YtdcdlmigagjbiaaDoor
open Go.RowKit Go.Maps
theorem mapTurned_turn {w w' : World} {m : Nat} (h : w.mapTurned w' m) : Turn [m] w w' := (Turn.refl [m] w).grown h.grown (fun g hg => .inl (by simpa using hg.symm))
theorem snoc_inj {q x : List Int} {c d : Int} (h : x ++ [d] = q ++ [c]) : x = q ∧ d = c := by
  have := List.append_inj' h rfl
  exact ⟨this.1, by simpa using this.2⟩
section
variable {w w' : World} {B hb eb K : Nat} {eo : Option Obj} {f : TF}
def newTN (b : Nat) : TN := ⟨b, none, .slice none 0 0, [], [], 68⟩
theorem Trie.newkid (h : Trie w B hb eb eo f K) {q : List Int} {n : TN} {m : Nat} {c : Int} (hq : f q = some n) (hm : n.mb = some m) (hc : f (q ++ [c]) = none) (hB : B ≤ w.heap.size)
    {k : Nat} {D : DataW Value} (hk : k ≤ K) (hD : ∀ d : Int, Maps.has D (kI d) = (f (q ++ [d])).isSome ∧ ∀ n', f (q ++ [d]) = some n' → ∀ z, D.atKey (kI d) z = .held (.pointer (some ⟨n'.blk, 0, none⟩))) (hDm : IsMap D)
    {w2 : World} (ho : w2.ownsMap (H := Value) Tryd.prog 3 rawE m (k + 1) (D.put (kI c) (.held (.pointer (some ⟨w.heap.size, 0, none⟩)))))
    (ht0 : (w.alloc (.cells #[.map none, .slice none 0 0] 68)).mapTurned w2 m) :
    Trie w2 B hb eb eo (updT f (q ++ [c]) (newTN w.heap.size)) (K + 1) := by
  have ha := h.alloc (.cells #[.map none, .slice none 0 0] 68)
  have ht := mapTurned_turn ht0
  have hmk := h.map q n m hq hm
  have hmo := ha.mb_kind hq hm
  have hmlt := h.mb_lt hq hm
  have hnb : Blk w2 w.heap.size 68 #[.map none, .slice none 0 0] := (Blk.new w _ _).turn ht (by simp; omega)
  have hi : ∀ i, i ∈ [m] → ¬ CellsOf (w.alloc (.cells #[.map none, .slice none 0 0] 68)) i 3 := by
    intro i hi' k'
    obtain rfl : i = m := by simpa using hi'
    exact cells_map k' hmo
  have hget : ∀ x y, updT f (q ++ [c]) (newTN w.heap.size) x = some y → (x = q ++ [c] ∧ y = newTN w.heap.size) ∨ (x ≠ q ++ [c] ∧ f x = some y) := by
    intro x y hx
    by_cases e : x = q ++ [c]
    · subst e
      rw [updT_same] at hx
      exact .inl ⟨rfl, (Option.some.inj hx).symm⟩
    · rw [updT_other _ _ e] at hx
      exact .inr ⟨e, hx⟩
  have hup : ∀ x, (f x).isSome = true → (updT f (q ++ [c]) (newTN w.heap.size) x).isSome = true := by
    intro x hx
    by_cases e : x = q ++ [c]
    · subst e; rw [updT_same]; rfl
    · rw [updT_other _ _ e]; exact hx
  have hqs : (f q).isSome = true := by rw [hq]; rfl
  have hbeyond : ∀ d, f (q ++ [c] ++ [d]) = none := fun d => by
    have := h.closed (q ++ [c]) d
    rw [hc] at this
    cases hh : f (q ++ [c] ++ [d]) with
    | none => rfl
    | some y => rw [hh] at this; exact absurd (this rfl) (by simp)
  refine ⟨?_, fun x d hx => ?_, fun x y hx => ?_, fun x y hx => ?_, fun x y hx hy d => ?_, fun x y m' hx hy => ?_, fun x x' y y' hx hx' e => ?_, fun x x' y y' m' hx hx' e e' => ?_, fun x x' y y' g hx hx' e e' => ?_, ?_, h.ex.2.1, ?_⟩
  · obtain ⟨r, hr, hrb⟩ := h.root
    exact ⟨r, by rw [updT_other _ _ (by simp)]; exact hr, hrb⟩
  · by_cases e : x ++ [d] = q ++ [c]
    · obtain ⟨rfl, rfl⟩ := snoc_inj e
      exact hup _ hqs
    · rw [updT_other _ _ e] at hx
      exact hup _ (h.closed x d hx)
  · rcases hget x y hx with ⟨rfl, rfl⟩ | ⟨_, hx⟩
    · exact ⟨by simpa [newTN] using hnb, .inl rfl, hB⟩
    · obtain ⟨k1, k2, k3⟩ := ha.node x y hx
      exact ⟨k1.turn ht (by
        intro hm'
        have e : y.blk = m := by simpa using hm'
        rw [← e] at hmo
        exact ha.blk_map hx hmo), k2, k3⟩
  · rcases hget x y hx with ⟨rfl, rfl⟩ | ⟨_, hx⟩
    · exact ⟨[], World.ownsRow_nil _ _ _ _, trivial⟩
    · obtain ⟨xs, k1, k2⟩ := ha.row x y hx
      exact ⟨xs, row_turn k1 ht (fun g hg hi' => by
        obtain rfl : g = m := by simpa using hi'
        exact cells_map (row_cellsOf k1 hg) hmo), k2.turn ht hi⟩
  · rcases hget x y hx with ⟨rfl, rfl⟩ | ⟨_, hxo⟩
    · rw [updT_other _ _ (by intro e; have := congrArg List.length e; simp at this)]
      exact hbeyond d
    · by_cases e : x ++ [d] = q ++ [c]
      · obtain ⟨rfl, rfl⟩ := snoc_inj e
        rw [hq] at hxo
        obtain rfl := Option.some.inj hxo
        rw [hm] at hy
        cases hy
      · rw [updT_other _ _ e]
        exact h.nomap x y hxo hy d
  · rcases hget x y hx with ⟨rfl, rfl⟩ | ⟨hne, hxo⟩
    · cases hy
    · by_cases exq : x = q
      · subst exq
        rw [hq] at hxo
        obtain rfl := Option.some.inj hxo
        rw [hm] at hy
        obtain rfl := Option.some.inj hy
        refine ⟨⟨k + 1, _, ho, by omega, fun d => ?_⟩, hmk.2.1, hmk.2.2⟩
        by_cases e : d = c
        · subst e
          rw [updT_same, has_put_same hDm (kI_is d)]
          refine ⟨rfl, fun n' hn' z => ?_⟩
          obtain rfl := Option.some.inj hn'
          rw [atKey_put_same hDm (kI_is d)]
          rfl
        · have hne' : x ++ [d] ≠ x ++ [c] := fun e' => e (snoc_inj e').2
          rw [updT_other _ _ hne', has_put_other (fun e' => e (kI_inj e'))]
          refine ⟨(hD d).1, fun n' hn' z => ?_⟩
          rw [atKey_put_other (fun e' => e (kI_inj e'))]
          exact (hD d).2 n' hn' z
      · obtain ⟨k1, k2, k3⟩ := ha.map x y m' hxo hy
        have hmne : m' ≠ m := by
          rintro rfl
          exact exq (h.injm x q y n m' hxo hq hy hm)
        obtain ⟨k', D', j1, j2, j3⟩ := k1.turn ht (by simpa using hmne)
        refine ⟨⟨k', D', j1, by omega, fun d => ?_⟩, k2, k3⟩
        rw [updT_other _ _ (fun e => exq (snoc_inj e).1)]
        exact j3 d
  · rcases hget x y hx with ⟨ex1, ey1⟩ | ⟨hne, ho1⟩
    · rcases hget x' y' hx' with ⟨ex2, ey2⟩ | ⟨hne', ho2⟩
      · rw [ex1, ex2]
      · have h1 := h.blk_lt ho2
        rw [ey1] at e
        have h2 : w.heap.size = y'.blk := e
        omega
    · rcases hget x' y' hx' with ⟨ex2, ey2⟩ | ⟨hne', ho2⟩
      · have h1 := h.blk_lt ho1
        rw [ey2] at e
        have h2 : y.blk = w.heap.size := e
        omega
      · exact h.inj x x' y y' ho1 ho2 e
  · rcases hget x y hx with ⟨ex1, ey1⟩ | ⟨hne, ho1⟩
    · rw [ey1] at e; cases e
    · rcases hget x' y' hx' with ⟨ex2, ey2⟩ | ⟨hne', ho2⟩
      · rw [ey2] at e'; cases e'
      · exact h.injm x x' y y' m' ho1 ho2 e e'
  · rcases hget x y hx with ⟨ex1, ey1⟩ | ⟨hne, ho1⟩
    · rw [ey1] at e; cases e
    · rcases hget x' y' hx' with ⟨ex2, ey2⟩ | ⟨hne', ho2⟩
      · rw [ey2] at e'; cases e'
      · exact h.injr x x' y y' g ho1 ho2 e e'
  · obtain ⟨es, k', hk'⟩ := ha.ex.1
    exact ⟨es, k', (ht.block eb (Array.getElem?_eq_some_iff.1 hk').1 (by
      intro hm'
      have e : eb = m := by simpa using hm'
      exact hmk.2.2 e.symm)).trans hk'⟩
  · obtain ⟨es, k', hk'⟩ := ha.ex.1
    exact ((ht.block eb (Array.getElem?_eq_some_iff.1 hk').1 (by
      intro hm'
      have e : eb = m := by simpa using hm'
      exact hmk.2.2 e.symm)).trans ha.ex.2.2)

theorem Trie.addpat (h : Trie w B hb eb eo f K) {q : List Int} {n : TN} (hq : f q = some n) {P : Pat} {xs cs : List Value} (hcs : patCells w B cs [P])
    (hxs : patCells w B xs n.ps) {o : Obj} {v' : Value} {w1 : World} (ho : w1.ownsRow B 33 4 v' (n.ps.length + 1) (xs ++ cs)) (hg : (w.alloc o).grownBy w1 n.pv.ownBlock)
    (hv : v'.ownBlock = n.pv.ownBlock ∨ v'.ownBlock = some (w.alloc o).heap.size) :
    Trie (w1.setCell ⟨n.blk, 1, none⟩ v') B hb eb eo (updT f q { n with pv := v', ps := n.ps ++ [P] }) K := by
  have ha := h.alloc o
  -- everything but the row's old block and the node's block stays
  have hnl := ha.blk_lt hq
  have hks : ∀ g, n.pv.ownBlock = some g → CellsOf (w.alloc o) g 33 := fun g hg' => ha.row_kind hq hg'
  have hvo : ∀ g, v'.ownBlock = some g → n.pv.ownBlock = some g ∨ (w.alloc o).heap.size ≤ g := by
    intro g hg'
    rcases hv with e | e
    · exact .inl (by rw [← e]; exact hg')
    · rw [e] at hg'
      exact .inr (by have := Option.some.inj hg'; omega)
  have ht1 : Turn (n.pv.ownBlock.toList) (w.alloc o) w1 := (Turn.refl _ _).grown hg (fun g hg' => .inl (by rw [hg']; simp))
  have ht : Turn (n.blk :: n.pv.ownBlock.toList) (w.alloc o) (w1.setCell ⟨n.blk, 1, none⟩ v') := (ht1.mono (fun i hi => List.mem_cons_of_mem _ hi)).setCell (p := ⟨n.blk, 1, none⟩) (.inl List.mem_cons_self) v'
  have hF : ∀ i, i ∈ n.blk :: n.pv.ownBlock.toList → i = n.blk ∨ n.pv.ownBlock = some i := by
    intro i hi
    rcases List.mem_cons.1 hi with rfl | hi
    · exact .inl rfl
    · exact .inr (by simpa using hi)
  have hi : ∀ i, i ∈ n.blk :: n.pv.ownBlock.toList → ¬ CellsOf (w.alloc o) i 3 := by
    intro i hi' k
    rcases hF i hi' with rfl | hi'
    · exact ha.blk_int hq k
    · exact absurd (cells_cells k (hks i hi')) (by decide)
  have hget : ∀ x y, updT f q { n with pv := v', ps := n.ps ++ [P] } x = some y → (x = q ∧ y = { n with pv := v', ps := n.ps ++ [P] }) ∨ (x ≠ q ∧ f x = some y) := by
    intro x y hx
    by_cases e : x = q
    · subst e
      rw [updT_same] at hx
      exact .inl ⟨rfl, (Option.some.inj hx).symm⟩
    · rw [updT_other _ _ e] at hx
      exact .inr ⟨e, hx⟩
  have hsome : ∀ x, (updT f q { n with pv := v', ps := n.ps ++ [P] } x).isSome = (f x).isSome := by
    intro x
    by_cases e : x = q
    · subst e; rw [updT_same, hq]; rfl
    · rw [updT_other _ _ e]
  have hold : ∀ x y, updT f q { n with pv := v', ps := n.ps ++ [P] } x = some y → ∃ z, f x = some z ∧ z.blk = y.blk ∧ z.mb = y.mb := by
    intro x y hx
    rcases hget x y hx with ⟨rfl, rfl⟩ | ⟨_, hx⟩
    · exact ⟨n, hq, rfl, rfl⟩
    · exact ⟨y, hx, rfl, rfl⟩
  have hmap : ∀ m, MapOf (w.alloc o) m → m ∉ n.blk :: n.pv.ownBlock.toList := by
    intro m hm hi'
    rcases hF m hi' with rfl | hi'
    · exact ha.blk_map hq hm
    · exact cells_map (hks m hi') hm
  have hrowx : ∀ x y, x ≠ q → f x = some y → ∀ g, y.pv.ownBlock = some g → g ∉ n.blk :: n.pv.ownBlock.toList := by
    intro x y hne hx g hg' hi'
    rcases hF g hi' with rfl | hi'
    · exact ha.blk_row hq (ha.row_kind hx hg')
    · exact hne (h.injr x q y n g hx hq hg' hi')
  have hw1 : w1.heap.size ≥ (w.alloc o).heap.size := hg.size
  refine ⟨?_, fun x c => by rw [hsome, hsome]; exact h.closed x c, fun x y hx => ?_, fun x y hx => ?_, fun x y hx hy c => ?_, fun x y m hx hy => ?_, fun x x' y y' hx hx' e => ?_, fun x x' y y' m hx hx' e e' => ?_, fun x x' y y' g hx hx' e e' => ?_, ?_, h.ex.2.1, ?_⟩
  · obtain ⟨r, hr, hrb⟩ := h.root
    by_cases e : ([] : List Int) = q
    · subst e
      rw [hq] at hr
      obtain rfl := Option.some.inj hr
      exact ⟨_, updT_same _ _ _, hrb⟩
    · exact ⟨r, by rw [updT_other _ _ e]; exact hr, hrb⟩
  · rcases hget x y hx with ⟨rfl, rfl⟩ | ⟨hne, hx⟩
    · obtain ⟨k1, k2, k3⟩ := ha.node x n hq
      refine ⟨?_, k2, k3⟩
      have k1' := k1.turn ht1 (by
        intro hm
        have := hks n.blk (by simpa using hm)
        exact ha.blk_row hq this)
      have := k1'.set_ 1 v'
      simpa using this
    · obtain ⟨k1, k2, k3⟩ := ha.node x y hx
      exact ⟨k1.turn ht (by
        intro hm
        rcases hF _ hm with e | e
        · exact hne (h.inj x q y n hx hq e)
        · exact ha.blk_row hx (hks _ e)), k2, k3⟩
  · rcases hget x y hx with ⟨rfl, rfl⟩ | ⟨hne, hx⟩
    · refine ⟨xs ++ cs, ?_, ?_⟩
      · have := row_turn ho (F := [n.blk]) ((Turn.refl [n.blk] w1).setCell (p := ⟨n.blk, 1, none⟩) (.inl (by simp)) v') (fun g hg' hm => by
          obtain rfl : g = n.blk := by simpa using hm
          rcases hvo _ hg' with e | e
          · exact ha.blk_row hq (hks _ e)
          · omega)
        simpa using this
      · exact ((patCells.append hxs hcs).turn ((Turn.refl [] w).alloc o) (fun _ h => by cases h)).turn ht hi
    · obtain ⟨ys, k1, k2⟩ := ha.row x y hx
      exact ⟨ys, row_turn k1 ht (fun g hg' => hrowx x y hne hx g hg'), k2.turn ht hi⟩
  · obtain ⟨z, hz, hz1, hz2⟩ := hold x y hx
    have := hsome (x ++ [c])
    rw [h.nomap x z hz (by rw [hz2]; exact hy) c] at this
    simpa using this
  · obtain ⟨z, hz, hz1, hz2⟩ := hold x y hx
    obtain ⟨k1, k2, k3⟩ := ha.map x z m hz (by rw [hz2]; exact hy)
    obtain ⟨k, D, j1, j2, j3⟩ := k1.turn ht (hmap m k1.mapOf)
    refine ⟨⟨k, D, j1, j2, fun c => ⟨(j3 c).1.trans (hsome _).symm, fun n' hn' z' => ?_⟩⟩, k2, k3⟩
    obtain ⟨u, hu, hu1, _⟩ := hold _ _ hn'
    rw [← hu1]
    exact (j3 c).2 u hu z'
  · obtain ⟨z, hz, hz1, _⟩ := hold x y hx
    obtain ⟨z', hz', hz1', _⟩ := hold x' y' hx'
    exact h.inj x x' z z' hz hz' (by rw [hz1, hz1', e])
  · obtain ⟨z, hz, _, hz2⟩ := hold x y hx
    obtain ⟨z', hz', _, hz2'⟩ := hold x' y' hx'
    exact h.injm x x' z z' m hz hz' (by rw [hz2]; exact e) (by rw [hz2']; exact e')
  · rcases hget x y hx with ⟨ex1, ey1⟩ | ⟨hne, ho1⟩
    · rcases hget x' y' hx' with ⟨ex2, ey2⟩ | ⟨hne', ho2⟩
      · rw [ex1, ex2]
      · rw [ey1] at e
        rcases hvo g e with k | k
        · exact absurd (h.injr x' q y' n g ho2 hq e' k) hne'
        · obtain ⟨cs', fz, hcs'⟩ := ha.row_kind ho2 e'
          have := (Array.getElem?_eq_some_iff.1 hcs').1
          omega
    · rcases hget x' y' hx' with ⟨ex2, ey2⟩ | ⟨hne', ho2⟩
      · rw [ey2] at e'
        rcases hvo g e' with k | k
        · exact absurd (h.injr x q y n g ho1 hq e k) hne
        · obtain ⟨cs', fz, hcs'⟩ := ha.row_kind ho1 e
          have := (Array.getElem?_eq_some_iff.1 hcs').1
          omega
      · exact h.injr x x' y y' g ho1 ho2 e e'
  · obtain ⟨es, k, hk⟩ := ha.ex.1
    exact ⟨es, k, (ht.block eb (Array.getElem?_eq_some_iff.1 hk).1 (hmap eb ha.ex.1)).trans hk⟩
  · obtain ⟨es, k, hk⟩ := ha.ex.1
    exact ((ht.block eb (Array.getElem?_eq_some_iff.1 hk).1 (hmap eb ha.ex.1)).trans ha.ex.2.2)
end
end Go.Proofs.YtdcdlmigagjbiaaDoor
