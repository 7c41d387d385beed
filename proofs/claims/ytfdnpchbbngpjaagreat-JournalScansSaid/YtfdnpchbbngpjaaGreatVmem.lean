/- Worlds in which only some blocks have turned; blocks that are known whole; a map of strings that reads as a list; rows of pending writes. Nothing of the program stands here but type numbers. -/
import Derived.WalkKit
import Derived.WalkSpells
import Derived.WalkSmall
import Derived.Lib.Hide
import Derived.Maps.Ext
import Derived.Maps.OwnSet
import Derived.Maps.AppendAt
import Derived.Deep.AppendLies
import Derived.Deep.Draws
import Derived.Laws.OwnMore
import Derived.Laws.Rows
namespace Go.Proofs.YtfdnpchbbngpjaaGreat
open Go.RowKit Go.Maps

/-- w' is w with new blocks; of the old ones only those of F may have turned -/
structure Turn (F : List Nat) (w w' : World) : Prop where
  os : w'.os = w.os
  tape : w'.tape = w.tape
  output : w'.output = w.output
  size : w.heap.size ≤ w'.heap.size
  block : ∀ k, k < w.heap.size → k ∉ F → w'.heap[k]? = w.heap[k]?

section
variable {F G : List Nat} {a b c : World}
theorem Turn.refl (F : List Nat) (w : World) : Turn F w w := ⟨rfl, rfl, rfl, Nat.le_refl _, fun _ _ _ => rfl⟩
theorem Turn.trans (h : Turn F a b) (k : Turn G b c) (hG : ∀ i, i ∈ G → i ∈ F ∨ a.heap.size ≤ i) : Turn F a c :=
  ⟨k.os.trans h.os, k.tape.trans h.tape, k.output.trans h.output, Nat.le_trans h.size k.size, fun i hi hn =>
    (k.block i (Nat.lt_of_lt_of_le hi h.size) (fun hg => by rcases hG i hg with h1 | h1; exact hn h1; omega)).trans (h.block i hi hn)⟩
theorem Turn.mono (h : Turn F a b) (hF : ∀ i, i ∈ F → i ∈ G) : Turn G a b := ⟨h.os, h.tape, h.output, h.size, fun i hi hn => h.block i hi (fun hg => hn (hF i hg))⟩
theorem Turn.grown (h : Turn F a b) {row : Option Nat} (hg : b.grownBy c row) (hr : ∀ g, row = some g → g ∈ F ∨ a.heap.size ≤ g) : Turn F a c :=
  ⟨hg.os.trans h.os, hg.tape.trans h.tape, hg.output.trans h.output, Nat.le_trans h.size hg.size, fun i hi hn =>
    (hg.block i (Nat.lt_of_lt_of_le hi h.size) (fun e => by rcases hr i e.symm with h1 | h1; exact hn h1; omega)).trans (h.block i hi hn)⟩
theorem Turn.below (h : Turn F a b) {B : Nat} (hb : Below B b c) (hB : a.heap.size ≤ B) : Turn F a c :=
  ⟨hb.os.trans h.os, hb.tape.trans h.tape, hb.output.trans h.output, Nat.le_trans h.size hb.size, fun i hi hn => (hb.block i (by omega)).trans (h.block i hi hn)⟩
theorem Turn.alloc (h : Turn F a b) (o : Obj) : Turn F a (b.alloc o) := h.grown (World.grownBy_alloc b o none) (fun _ e => by cases e)
theorem Turn.drew (h : Turn F a b) : Turn F a b.drew := ⟨h.os, h.tape, h.output, h.size, h.block⟩
theorem Turn.drewN (h : Turn F a b) (n : Nat) : Turn F a (b.drewN n) := ⟨h.os, h.tape, h.output, h.size, h.block⟩
theorem Turn.setCell (h : Turn F a b) {p : Addr} (hp : p.block ∈ F ∨ a.heap.size ≤ p.block) (u : Value) : Turn F a (b.setCell p u) :=
  ⟨h.os, h.tape, h.output, by simpa [World.setCell] using h.size, fun i hi hn => (Below.heap_setCell b p u i (by
    rintro rfl
    rcases hp with hp | hp
    · exact hn hp
    · omega)).trans (h.block i hi hn)⟩
theorem Turn.toBelow (h : Turn F a b) {B : Nat} (hF : ∀ i, i ∈ F → B ≤ i) (hB : B ≤ a.heap.size) : Below B a b :=
  ⟨h.os, h.tape, h.output, h.size, fun i hi => h.block i (by omega) (fun hm => by have := hF i hm; omega)⟩
theorem Turn.ofBelow {B : Nat} (h : Below B a b) (hB : a.heap.size ≤ B) : Turn F a b := (Turn.refl F a).below h hB
theorem Turn.cell (h : Turn F a b) {p : Addr} (hp : p.block < a.heap.size) (hn : p.block ∉ F) : b.cell? p = a.cell? p := World.cell?_of_block (h.block _ hp hn)
theorem Turn.frozen (h : Turn F a b) {p : Addr} (hp : p.block < a.heap.size) (hn : p.block ∉ F) : b.frozen? p = a.frozen? p := World.frozen?_of_block (h.block _ hp hn)
end

/-- block g is just the cells cs of element type t, none frozen -/
def Blk (w : World) (g : Nat) (t : TypeId) (cs : Array Value) : Prop := w.heap[g]? = some (.cells cs t (0, 0))

section
variable {w w' : World} {g : Nat} {t : TypeId} {cs : Array Value}
theorem Blk.lt (h : Blk w g t cs) : g < w.heap.size := by
  rcases Nat.lt_or_ge g w.heap.size with hlt | hge
  · exact hlt
  · unfold Blk at h; rw [Array.getElem?_eq_none hge] at h; cases h
theorem Blk.cell (h : Blk w g t cs) (i : Nat) : w.cell? ⟨g, i, none⟩ = cs[i]? := cell_of_row w g i cs t (0, 0) h
theorem Blk.frozen (h : Blk w g t cs) (i : Nat) : w.frozen? ⟨g, i, none⟩ = false := by
  unfold Blk at h
  simp [World.frozen?, h]
theorem Blk.new (w : World) (t : TypeId) (cs : Array Value) : Blk (w.alloc (.cells cs t)) w.heap.size t cs := heap_alloc_new w _
theorem Blk.drew (h : Blk w g t cs) : Blk w.drew g t cs := h
theorem Blk.drewN (h : Blk w g t cs) (n : Nat) : Blk (w.drewN n) g t cs := h
theorem Blk.alloc (h : Blk w g t cs) (o : Obj) : Blk (w.alloc o) g t cs := (Below.heap_alloc w o g h.lt).trans h
theorem Blk.set_ (h : Blk w g t cs) (i : Nat) (u : Value) : Blk (w.setCell ⟨g, i, none⟩ u) g t (cs.setIfInBounds i u) := by
  unfold Blk at h ⊢
  simp [World.setCell, Array.getElem?_modify, h]
theorem Blk.far (h : Blk w g t cs) {p : Addr} (hp : g ≠ p.block) (u : Value) : Blk (w.setCell p u) g t cs := (Below.heap_setCell w p u g hp).trans h
theorem Blk.below {B : Nat} (h : Blk w g t cs) (hb : Below B w w') (hg : g < B) : Blk w' g t cs := (hb.block g hg).trans h
theorem Blk.grown {row : Option Nat} (h : Blk w g t cs) (hb : w.grownBy w' row) (hg : some g ≠ row) : Blk w' g t cs := (hb.block g h.lt hg).trans h
theorem Blk.turn {F : List Nat} (h : Blk w g t cs) (hb : Turn F w w') (hg : g ∉ F) : Blk w' g t cs := (hb.block g h.lt hg).trans h
theorem Blk.ne_ {g' : Nat} {t' : TypeId} {cs' : Array Value} (h : Blk w g t cs) (h' : Blk w g' t' cs') (hne : t ≠ t') : g ≠ g' := by
  rintro rfl
  unfold Blk at h h'
  rw [h] at h'
  injection h' with h'
  injection h' with _ ht
  exact hne ht
theorem own_blk_ne {base : Nat} {e : TypeId} {size n : Nat} {v : Value} {xs : List Value} (h : w.ownsRow base e size v n xs) (hg : Blk w g t cs) (hne : e ≠ t) : v.ownBlock ≠ some g := by
  rcases h.2 with ⟨rfl, _⟩ | ⟨g', cap, cur, rfl, _, hh, _⟩
  · simp [Value.ownBlock]
  · intro he
    have : g' = g := by simpa [Value.ownBlock] using he
    subst this
    exact Blk.ne_ (t := e) hh hg hne rfl
theorem map_blk_ne {H : Type} {P : Program} {k : TypeId} {R : Value → Option (DataW H × List MemPlace)} {b n : Nat} {D : DataW H} (h : w.ownsMap P k R b n D) (hg : Blk w g t cs) : b ≠ g := by
  rintro rfl
  obtain ⟨es, clock, hb, _⟩ := h
  unfold Blk at hg
  rw [hb] at hg
  cases hg
theorem map_row_ne {H : Type} {P : Program} {k : TypeId} {R : Value → Option (DataW H × List MemPlace)} {b n : Nat} {D : DataW H} (h : w.ownsMap P k R b n D) {base : Nat} {e : TypeId} {size m : Nat} {v : Value} {xs : List Value} (hr : w.ownsRow base e size v m xs) : v.ownBlock ≠ some b := by
  rcases hr.2 with ⟨rfl, _⟩ | ⟨g', cap, cur, rfl, _, hh, _⟩
  · simp [Value.ownBlock]
  · intro he
    have : g' = b := by simpa [Value.ownBlock] using he
    subst this
    exact map_blk_ne h (show Blk w g' e cur from hh) rfl
end

/-! ### kept while other blocks turn -/
theorem map_turn {H : Type} {P : Program} {k : TypeId} {R : Value → Option (DataW H × List MemPlace)} {b n : Nat} {D : DataW H} {w w' : World} {F : List Nat} (h : w.ownsMap P k R b n D) (ht : Turn F w w') (hn : b ∉ F) : w'.ownsMap P k R b n D := by
  have hlt := h.lt
  obtain ⟨es, clock, hb, r⟩ := h
  exact ⟨es, clock, (ht.block b hlt hn).trans hb, r⟩
theorem row_turn {base : Nat} {e : TypeId} {size m : Nat} {v : Value} {xs : List Value} {w w' : World} {F : List Nat} (h : w.ownsRow base e size v m xs) (ht : Turn F w w') (hn : ∀ g, v.ownBlock = some g → g ∉ F) : w'.ownsRow base e size v m xs := by
  obtain ⟨h1, h2⟩ := h
  refine ⟨h1, ?_⟩
  rcases h2 with h2 | ⟨g, cap, cur, rfl, hg, hh, r⟩
  · exact .inl h2
  · exact .inr ⟨g, cap, cur, rfl, hg, (ht.block g (Array.getElem?_eq_some_iff.1 hh).1 (hn g rfl)).trans hh, r⟩

/-! ### the content of new sectors, and the map that reads as the list of the contents -/
/-- 256 bytes zero -/
def zb : ByteArray := ⟨(List.replicate 256 0).toArray⟩
theorem zb_size : zb.size = 256 := by
  show (List.replicate 256 (0 : UInt8)).toArray.size = 256
  rw [List.size_toArray, List.length_replicate]
def litOf (s : ByteArray) : DataW Unit := .lit (.string s.data.toList)
def key (i : Nat) : Lit := .int .i64 (i : Int)
open Classical in
def mdL : List ByteArray → Nat → List (Lit × DataW Unit)
  | [], _ => []
  | d :: r, k => if d = zb then mdL r (k + 1) else (key k, litOf d) :: mdL r (k + 1)
def MD (ds : List ByteArray) : DataW Unit := .map (mdL ds 0)

theorem bytes_ext {a b : ByteArray} (h : a.data.toList = b.data.toList) : a = b := by
  cases a; cases b; simp at h; subst h; rfl
theorem mdL_len (ds : List ByteArray) (k : Nat) : (mdL ds k).length ≤ ds.length := by
  induction ds generalizing k with
  | nil => simp [mdL]
  | cons d r ih => unfold mdL; split <;> (have := ih (k + 1); simp; omega)
theorem mdL_mem {ds : List ByteArray} {k : Nat} {p : Lit × DataW Unit} (h : p ∈ mdL ds k) : ∃ i d, k ≤ i ∧ ds[i - k]? = some d ∧ d ≠ zb ∧ p = (key i, litOf d) := by
  induction ds generalizing k with
  | nil => simp [mdL] at h
  | cons d r ih =>
    unfold mdL at h
    have tail : p ∈ mdL r (k + 1) → ∃ i d', k ≤ i ∧ (d :: r)[i - k]? = some d' ∧ d' ≠ zb ∧ p = (key i, litOf d') := by
      intro hp
      obtain ⟨i, d', h1, h2, h3, h4⟩ := ih hp
      refine ⟨i, d', by omega, ?_, h3, h4⟩
      rw [show i - k = (i - (k + 1)) + 1 from by omega]
      simpa using h2
    split at h
    · exact tail h
    · rename_i hd
      rcases List.mem_cons.1 h with rfl | h
      · exact ⟨k, d, Nat.le_refl _, by simp, hd, rfl⟩
      · exact tail h
theorem mdL_of {ds : List ByteArray} {k i : Nat} {d : ByteArray} (hi : k ≤ i) (h : ds[i - k]? = some d) (hd : d ≠ zb) : (key i, litOf d) ∈ mdL ds k := by
  induction ds generalizing k with
  | nil => simp at h
  | cons x r ih =>
    unfold mdL
    by_cases e : i = k
    · subst e
      simp at h
      subst h
      rw [if_neg hd]
      exact List.mem_cons_self
    · have : (key i, litOf d) ∈ mdL r (k + 1) := ih (by omega) (by rw [show i - k = (i - (k + 1)) + 1 from by omega] at h; simpa using h)
      split
      · exact this
      · exact List.mem_cons_of_mem _ this
theorem mdL_rise (ds : List ByteArray) (k : Nat) : (mdL ds k).Pairwise (fun p q => p.1.before q.1 = true) := by
  induction ds generalizing k with
  | nil => simp [mdL]
  | cons d r ih =>
    unfold mdL
    split
    · exact ih (k + 1)
    · refine List.pairwise_cons.2 ⟨fun q hq => ?_, ih (k + 1)⟩
      obtain ⟨i, d', h1, _, _, rfl⟩ := mdL_mem hq
      simp [key, Lit.before]
      omega
theorem key_is (i : Nat) : WideAt.IsKeyLit (key i) := by trivial
theorem key_inj {i j : Nat} (h : key i = key j) : i = j := by
  unfold key at h
  injection h with _ h
  omega
theorem canon_MD (ds : List ByteArray) : Canon (MD ds) := ⟨_, rfl, mdL_rise ds 0, fun p hp => by
  obtain ⟨i, d, _, _, _, rfl⟩ := mdL_mem hp
  exact key_is i⟩
theorem size_MD (ds : List ByteArray) : Maps.size (MD ds) ≤ ds.length := mdL_len ds 0
theorem isMap_MD (ds : List ByteArray) : IsMap (MD ds) := ⟨_, rfl⟩
theorem has_MD_iff (ds : List ByteArray) (k : Lit) : Maps.has (MD ds) k = true ↔ ∃ i d, ds[i]? = some d ∧ d ≠ zb ∧ k = key i := by
  unfold MD Maps.has
  rw [List.any_eq_true]
  constructor
  · rintro ⟨p, hp, hs⟩
    obtain ⟨i, d, _, h2, h3, rfl⟩ := mdL_mem hp
    exact ⟨i, d, by simpa using h2, h3, (WideAt.sameKey_eq hs).symm⟩
  · rintro ⟨i, d, h1, h2, rfl⟩
    exact ⟨_, mdL_of (Nat.zero_le _) (by simpa using h1) h2, WideAt.sameKey_self (key_is i)⟩
theorem at_MD {ds : List ByteArray} {i : Nat} {d : ByteArray} (h : ds[i]? = some d) (hd : d ≠ zb) (z : DataW Unit) : (MD ds).atKey (key i) z = litOf d :=
  WideAt.atKey_mem z (key_is i) (apart_of_rising (mdL_rise ds 0)) (mdL_of (Nat.zero_le _) (by simpa using h) hd)
theorem has_MD_no {ds : List ByteArray} {i : Nat} (h : ∀ d, ds[i]? = some d → d = zb) : Maps.has (MD ds) (key i) = false := by
  cases hh : Maps.has (MD ds) (key i)
  · rfl
  · obtain ⟨j, d, h1, h2, h3⟩ := (has_MD_iff ds _).1 hh
    obtain rfl := key_inj h3
    exact absurd (h d h1) h2

open Go.WideShapes in
theorem canon_put {D : DataW Unit} (h : Canon D) {k : Lit} (hk : ∃ i, k = key i) (hD : ∀ p, Maps.has D p = true → ∃ i, p = key i) (d : DataW Unit) : Canon (D.put k d) := by
  obtain ⟨es, rfl, h1, h2⟩ := h
  have hall : ∀ p ∈ es, ∃ i, p.1 = key i := fun p hp => hD p.1 (List.any_eq_true.2 ⟨p, hp, WideAt.sameKey_self (h2 p hp)⟩)
  obtain ⟨i, rfl⟩ := hk
  let Kd : Lit → Prop := fun l => ∃ j, l = key j
  have O : OneKind Kd := ⟨fun ⟨j, e⟩ => e ▸ key_is j, fun ⟨j, e⟩ ⟨m, e'⟩ hne => by
    subst e; subst e'
    have : j ≠ m := fun h => hne (by rw [h])
    simp [key, Lit.before]
    omega⟩
  refine ⟨_, rfl, insert_sorted O ⟨i, rfl⟩ _ (h1.filter _) (fun p hp => hall p (List.mem_filter.1 hp).1) (fun p hp e => ?_), fun p hp => ?_⟩
  · have := (List.mem_filter.1 hp).2
    rw [e, WideAt.sameKey_self (key_is i)] at this
    cases this
  · rcases ChangeMaps.mem_insert_iff.1 hp with rfl | hp
    · exact key_is i
    · exact h2 p (List.mem_filter.1 hp).1
theorem canon_del {D : DataW Unit} (h : Canon D) (k : Lit) : Canon (D.del k) := by
  obtain ⟨es, rfl, h1, h2⟩ := h
  exact ⟨_, rfl, h1.filter _, fun p hp => h2 p (List.mem_filter.1 hp).1⟩
theorem put_MD {ds : List ByteArray} {i : Nat} {d : ByteArray} (hi : i < ds.length) (hd : d ≠ zb) : (MD ds).put (key i) (litOf d) = MD (ds.set i d) := by
  have hat : (ds.set i d)[i]? = some d := by simp [hi]
  refine Maps.ext (canon_put (canon_MD ds) ⟨i, rfl⟩ (fun p hp => by obtain ⟨j, _, _, _, e⟩ := (has_MD_iff ds p).1 hp; exact ⟨j, e⟩) _) (canon_MD _) (fun k => ?_) (fun k z hk => ?_)
  · by_cases e : k = key i
    · subst e
      rw [has_put_same (isMap_MD ds) (key_is i)]
      exact ((has_MD_iff _ _).2 ⟨i, d, hat, hd, rfl⟩).symm
    · rw [has_put_other e, Bool.eq_iff_iff, has_MD_iff, has_MD_iff]
      constructor
      · rintro ⟨j, d', h1, h2, rfl⟩
        exact ⟨j, d', by rw [List.getElem?_set_ne (fun h => e (by rw [h]))]; exact h1, h2, rfl⟩
      · rintro ⟨j, d', h1, h2, rfl⟩
        exact ⟨j, d', by rw [List.getElem?_set_ne (fun h => e (by rw [h]))] at h1; exact h1, h2, rfl⟩
  · by_cases e : k = key i
    · subst e
      rw [atKey_put_same (isMap_MD ds) (key_is i), at_MD hat hd]
    · rw [has_put_other e] at hk
      obtain ⟨j, d', h1, h2, rfl⟩ := (has_MD_iff _ _).1 hk
      rw [atKey_put_other e, at_MD h1 h2, at_MD (by rw [List.getElem?_set_ne (fun h => e (by rw [h]))]; exact h1) h2]
theorem del_MD (ds : List ByteArray) (i : Nat) : (MD ds).del (key i) = MD (ds.set i zb) := by
  refine Maps.ext (canon_del (canon_MD ds) _) (canon_MD _) (fun k => ?_) (fun k z hk => ?_)
  · by_cases e : k = key i
    · subst e
      rw [has_del_same, has_MD_no]
      intro d hd
      rw [List.getElem?_set] at hd
      simp at hd
      exact hd.2.symm
    · rw [has_del_other e, Bool.eq_iff_iff, has_MD_iff, has_MD_iff]
      constructor
      · rintro ⟨j, d', h1, h2, rfl⟩
        exact ⟨j, d', by rw [List.getElem?_set_ne (fun h => e (by rw [h]))]; exact h1, h2, rfl⟩
      · rintro ⟨j, d', h1, h2, rfl⟩
        exact ⟨j, d', by rw [List.getElem?_set_ne (fun h => e (by rw [h]))] at h1; exact h1, h2, rfl⟩
  · by_cases e : k = key i
    · subst e; rw [has_del_same] at hk; cases hk
    · rw [has_del_other e] at hk
      obtain ⟨j, d', h1, h2, rfl⟩ := (has_MD_iff _ _).1 hk
      rw [atKey_del_other e, at_MD h1 h2, at_MD (by rw [List.getElem?_set_ne (fun h => e (by rw [h]))]; exact h1) h2]
/-- two lists of contents that are of one length and read as one map are one list -/
theorem MD_inj {ds es : List ByteArray} (hl : ds.length = es.length) (h : MD ds = MD es) : ds = es := by
  apply List.ext_getElem? 
  intro i
  by_cases hi : i < ds.length
  · have h1 : ds[i]? = some ds[i] := List.getElem?_eq_getElem hi
    have h2 : es[i]? = some (es[i]'(by omega)) := List.getElem?_eq_getElem (by omega)
    rw [h1, h2]
    congr 1
    by_cases e1 : ds[i] = zb
    · by_cases e2 : es[i]'(by omega) = zb
      · rw [e1, e2]
      · have := (has_MD_iff es (key i)).2 ⟨i, _, h2, e2, rfl⟩
        rw [← h] at this
        obtain ⟨j, d, h3, h4, h5⟩ := (has_MD_iff ds _).1 this
        obtain rfl := key_inj h5
        rw [h1] at h3
        cases h3
        exact absurd e1 h4
    · have h3 := at_MD h1 e1 .nil
      have h4 := (has_MD_iff ds (key i)).2 ⟨i, _, h1, e1, rfl⟩
      rw [h] at h4
      obtain ⟨j, d, h5, h6, h7⟩ := (has_MD_iff es _).1 h4
      obtain rfl := key_inj h7
      have h8 := at_MD h5 h6 .nil
      rw [← h, h3] at h8
      rw [h2] at h5
      cases h5
      exact bytes_ext (by unfold litOf at h8; injection h8 with h8; injection h8)
  · rw [List.getElem?_eq_none (by omega), List.getElem?_eq_none (by omega)]

/-- a map of at most so many entries as its reading has -/
theorem ownsMap_fits {P : Program} {k : TypeId} {R : Value → Option (DataW Unit × List MemPlace)} {w : World} {b n m : Nat} {D : DataW Unit} (h : w.ownsMap P k R b n D) (hm : Maps.size D ≤ m) : w.ownsMap P k R b m D := by
  obtain ⟨es, clock, h1, h2, h3, rfl⟩ := h
  refine ⟨es, clock, h1, h2, ?_, rfl⟩
  simpa [Maps.size, length_sorted] using hm

theorem seq_t {a b : ByteArray} (h : a = b) : (a.toList == b.toList) = true := by rw [h]; simp
theorem seq_f {a b : ByteArray} (h : a ≠ b) : (a.toList == b.toList) = false := by
  rw [beq_eq_false_iff_ne]
  intro e
  rw [ByteArray.toList_eq, ByteArray.toList_eq] at e
  exact h (bytes_ext e)
theorem sne_t {a b : ByteArray} (h : a ≠ b) : (a.toList != b.toList) = true := by rw [bne, seq_f h]; rfl
theorem sne_f {a b : ByteArray} (h : a = b) : (a.toList != b.toList) = false := by rw [bne, seq_t h]; rfl

/-! ### rows of pending writes -/
def pcells (ps : List (Nat × ByteArray)) : List Value := ps.flatMap fun p => [.int .i64 (p.1 : Int), .string p.2]
theorem pcells_len (ps : List (Nat × ByteArray)) : (pcells ps).length = ps.length * 2 := by
  induction ps with
  | nil => rfl
  | cons p r ih => simp [pcells] at ih ⊢; omega
theorem pcells_append (ps qs : List (Nat × ByteArray)) : pcells (ps ++ qs) = pcells ps ++ pcells qs := by simp [pcells]
theorem pcells_at {ps : List (Nat × ByteArray)} {i : Nat} {p : Nat × ByteArray} (h : ps[i]? = some p) : (pcells ps)[2 * i]? = some (.int .i64 (p.1 : Int)) ∧ (pcells ps)[2 * i + 1]? = some (.string p.2) := by
  induction ps generalizing i with
  | nil => simp at h
  | cons q r ih =>
    cases i with
    | zero => simp at h; subst h; simp [pcells]
    | succ j =>
      have := ih (i := j) (by simpa using h)
      rw [show 2 * (j + 1) = 2 * j + 1 + 1 from by omega]
      simpa [pcells] using this
end Go.Proofs.YtfdnpchbbngpjaaGreat
