/- The ring of a commit in memory: the sectors that frames are written to. -/
import Derived.Test.YtfdnpchbbngpjaaGreatJaq
import Derived.Test.YtfdnpchbbngpjaaGreatJby
import Derived.Test.YtfdnpchbbngpjaaGreatJpb
import Derived.Lib.LazyBuf
import Derived.Laws.IdiomStrings
namespace Go.Proofs.YtfdnpchbbngpjaaGreat
open Go.RowKit Go.Maps

/-- how a value of the map reads: by its block -/
def RB : Value → Option (DataW Unit × List MemPlace)
  | .slice (some ⟨g, 0, none⟩) n cap => if n = 256 ∧ 256 ≤ cap then some (.lit (.int .i64 (g : Int)), []) else none
  | .slice none _ _ => some (.nil, [])
  | _ => none
theorem RB_yes {g cap : Nat} (h : 256 ≤ cap) : RB (.slice (some ⟨g, 0, none⟩) 256 cap) = some (.lit (.int .i64 (g : Int)), []) := by
  unfold RB
  exact if_pos ⟨rfl, h⟩
theorem RB_inv {v : Value} {g : Nat} {ps : List MemPlace} (h : RB v = some (.lit (.int .i64 (g : Int)), ps)) : ∃ cap, 256 ≤ cap ∧ v = .slice (some ⟨g, 0, none⟩) 256 cap := by
  unfold RB at h
  split at h
  · rename_i g' n cap
    split at h
    · rename_i hc
      obtain ⟨rfl, hc⟩ := hc
      simp at h
      have : g' = g := by omega
      subst this
      exact ⟨cap, hc, rfl⟩
    · cases h
  · simp at h
  · cases h
theorem RB_nil {v : Value} {ps : List MemPlace} (h : RB v = some (.nil, ps)) : ∃ n c, v = .slice none n c := by
  unfold RB at h
  split at h
  · split at h
    · simp at h
    · cases h
  · exact ⟨_, _, rfl⟩
  · cases h

/-- block g begins with the 256 bytes l, none of them frozen -/
def B256 (w : World) (g : Nat) (l : List UInt8) : Prop :=
  ∃ c fr, w.heap[g]? = some (.cells c 5 fr) ∧ (∀ j, j < 256 → c[j]? = some (.int .u8 ((l.getD j 0).toNat : Int))) ∧ 256 ≤ fr.1 ∧ l.length = 256
section
variable {w w' : World} {g : Nat} {l : List UInt8}
theorem B256.lt (h : B256 w g l) : g < w.heap.size := by
  obtain ⟨c, fr, h, _⟩ := h
  exact (Array.getElem?_eq_some_iff.1 h).1
theorem B256.cell (h : B256 w g l) {j : Nat} (hj : j < 256) : w.cell? ⟨g, j, none⟩ = some (.int .u8 ((l.getD j 0).toNat : Int)) := by
  obtain ⟨c, fr, h, hc, _⟩ := h
  simp [World.cell?, h, hc j hj]
theorem B256.frozen (h : B256 w g l) {j : Nat} (hj : j < 256) : w.frozen? ⟨g, j, none⟩ = false := by
  obtain ⟨c, fr, h, _, hf, _⟩ := h
  simp [World.frozen?, h]
  omega
theorem B256.turn {G : List Nat} (h : B256 w g l) (ht : Turn G w w') (hn : g ∉ G) : B256 w' g l := by
  have hlt := h.lt
  obtain ⟨c, fr, h, r⟩ := h
  exact ⟨c, fr, (ht.block g hlt hn).trans h, r⟩
theorem B256.ne {b : Nat} {t : TypeId} {cs : Array Value} (h : B256 w g l) (hb : Blk w b t cs) (hne : t ≠ 5) : b ≠ g := by
  rintro rfl
  obtain ⟨c, fr, h, _⟩ := h
  unfold Blk at hb
  rw [h] at hb
  injection hb with hb
  injection hb with _ ht
  exact hne ht.symm
theorem setCells_turn (b : Nat) : ∀ (vs : List Value) (o : Nat) (w : World), Turn [b] w (w.setCells b o vs)
  | [], _, w => Turn.refl _ w
  | v :: r, o, w => ((Turn.refl [b] w).setCell (p := ⟨b, o, none⟩) (.inl (by simp)) v).trans (setCells_turn b r (o + 1) _) (fun i hi => .inl hi)
theorem setCells_at (b : Nat) : ∀ (vs : List Value) (o : Nat) (w : World) (c : Array Value) (t : TypeId) (fr : Nat × Nat), w.heap[b]? = some (.cells c t fr) → o + vs.length ≤ c.size →
    ∃ c', (w.setCells b o vs).heap[b]? = some (.cells c' t fr) ∧ c'.size = c.size ∧ ∀ j, c'[j]? = if o ≤ j ∧ j < o + vs.length then vs[j - o]? else c[j]?
  | [], o, w, c, t, fr, h, _ => ⟨c, h, rfl, fun j => by rw [if_neg (by simp)]⟩
  | v :: r, o, w, c, t, fr, h, hl => by
    simp only [List.length_cons] at hl
    have h1 : (w.setCell ⟨b, o, none⟩ v).heap[b]? = some (.cells (c.setIfInBounds o v) t fr) := by simp [World.setCell, Array.getElem?_modify, h]
    obtain ⟨c', h2, h3, h4⟩ := setCells_at b r (o + 1) _ _ t fr h1 (by simp; omega)
    refine ⟨c', h2, by rw [h3]; simp, fun j => ?_⟩
    rw [h4 j]
    by_cases e : j = o
    · subst e
      rw [if_neg (by omega), if_pos (by simp), Nat.sub_self]
      simp [show j < c.size by omega]
    · by_cases e2 : o + 1 ≤ j ∧ j < o + 1 + r.length
      · rw [if_pos e2, if_pos (by simp; omega), show j - o = (j - (o + 1)) + 1 by omega, List.getElem?_cons_succ]
      · rw [if_neg e2, if_neg (by simp; omega)]
        simp [Ne.symm e]
theorem B256.copied (h : B256 w g l) (o : Nat) (d : List UInt8) (ho : o + d.length ≤ 256) :
    B256 (w.setCells g o (d.map fun x => Value.int .u8 (x.toNat : Int))) g (l.take o ++ d ++ l.drop (o + d.length)) := by
  obtain ⟨c, fr, h, hc, hf, hl⟩ := h
  have h255 := hc 255 (by omega)
  have hs : 255 < c.size := (Array.getElem?_eq_some_iff.1 h255).1
  obtain ⟨c', h1, h2, h3⟩ := setCells_at g (d.map fun x => Value.int .u8 (x.toNat : Int)) o w c _ fr h (by rw [List.length_map]; omega)
  refine ⟨c', fr, h1, fun j hj => ?_, hf, ?_⟩
  · rw [h3 j, List.length_map]
    by_cases e : o ≤ j ∧ j < o + d.length
    · rw [if_pos e, List.getElem?_map, List.getElem?_eq_getElem (by omega)]
      rw [List.getD_eq_getElem?_getD, List.append_assoc, List.getElem?_append_right (by rw [List.length_take]; omega), List.length_take, List.getElem?_append_left (by omega), show j - min o l.length = j - o by omega, List.getElem?_eq_getElem (by omega)]
      rfl
    · rw [if_neg e, hc j hj]
      congr 4
      by_cases e1 : j < o
      · rw [List.getD_eq_getElem?_getD, List.getD_eq_getElem?_getD, List.append_assoc, List.getElem?_append_left (by rw [List.length_take]; omega), List.getElem?_take_of_lt e1]
      · rw [List.getD_eq_getElem?_getD, List.getD_eq_getElem?_getD, List.getElem?_append_right (by rw [List.length_append, List.length_take]; omega), List.length_append, List.length_take, List.getElem?_drop]
        congr 2
        omega
  · rw [List.length_append, List.length_append, List.length_take, List.length_drop]
    omega
theorem B256.made (w : World) (s : ByteArray) (hs : s.size = 256) (cap : Nat) : B256 (w.alloc (.cells (bytesRow s cap) 5 ((bytesRow s cap).size, (bytesRow s cap).size + 1))) w.heap.size s.data.toList := by
  have hl : s.data.toList.length = 256 := by rw [Array.length_toList]; exact hs
  have hz : 256 ≤ (bytesRow s cap).size := by unfold bytesRow; simp; omega
  refine ⟨bytesRow s cap, ((bytesRow s cap).size, (bytesRow s cap).size + 1), by show (w.heap.push _)[w.heap.size]? = _; simp, fun j hj => ?_, hz, hl⟩
  unfold bytesRow
  rw [Array.getElem?_append_left (by rw [Array.size_map]; show j < s.size; omega), Array.getElem?_map, ← Array.getElem?_toList, List.getD_eq_getElem?_getD, List.getElem?_eq_getElem (by omega)]
  rfl
end

/-- the block of a sector -/
def rlook (os : List (Nat × Nat)) (k : Nat) : DataW Unit := match os.find? (fun p => p.1 == k) with | some p => .lit (.int .i64 (p.2 : Int)) | none => .nil
theorem find_mem {os : List (Nat × Nat)} (hn : (os.map (·.1)).Nodup) {k g : Nat} (h : (k, g) ∈ os) : os.find? (fun p => p.1 == k) = some (k, g) := by
  induction os with
  | nil => cases h
  | cons p r ih =>
    rw [List.map_cons, List.nodup_cons] at hn
    rcases List.mem_cons.1 h with e | h
    · subst e; simp
    · have hne : p.1 ≠ k := by
        rintro rfl
        exact hn.1 (List.mem_map.2 ⟨_, h, rfl⟩)
      rw [List.find?_cons_of_neg (by simpa using hne)]
      exact ih hn.2 h
theorem find_no {os : List (Nat × Nat)} {k : Nat} (h : k ∉ os.map (·.1)) : os.find? (fun p => p.1 == k) = none := by
  rw [List.find?_eq_none]
  intro p hp
  simp
  rintro rfl
  exact h (List.mem_map.2 ⟨p, hp, rfl⟩)
theorem rlook_yes {os : List (Nat × Nat)} (hn : (os.map (·.1)).Nodup) {k g : Nat} (h : (k, g) ∈ os) : rlook os k = .lit (.int .i64 (g : Int)) := by unfold rlook; rw [find_mem hn h]
theorem rlook_no {os : List (Nat × Nat)} {k : Nat} (h : k ∉ os.map (·.1)) : rlook os k = .nil := by unfold rlook; rw [find_no h]
theorem rlook_snoc {os : List (Nat × Nat)} {k g : Nat} (h : k ∉ os.map (·.1)) (j : Nat) : rlook (os ++ [(k, g)]) j = if j = k then .lit (.int .i64 (g : Int)) else rlook os j := by
  unfold rlook
  rw [List.find?_append]
  by_cases e : j = k
  · subst e
    rw [if_pos rfl, find_no h]
    simp
  · rw [if_neg e]
    cases hf : os.find? (fun p => p.1 == j) with
    | some p => simp
    | none => simp [Ne.symm e]

/-- block rb is a ring on the device vb; its sectors with their blocks are os, its blocks begin at B; the area was A0 and is Al where it writes -/
structure Rng (w : World) (B rb mb vb : Nat) (ov : Value) (os : List (Nat × Nat)) (A0 Al : List UInt8) (m : Nat) : Prop where
  blk : Blk w rb 93 #[.pointer (some ⟨vb, 0, none⟩), ov, .map (some mb), .int .i64 0]
  ord : w.ownsRow B 3 1 ov os.length (os.map fun p => Value.int .i64 (p.1 : Int))
  map : ∃ D, w.ownsMap (H := Unit) Tryz.prog 3 RB mb os.length D ∧ ∀ k, D.atKey (key k) .nil = rlook os k
  low : B ≤ rb ∧ B ≤ mb
  byt : ∀ p, p ∈ os → B ≤ p.2 ∧ B256 w p.2 (sec Al (p.1 - 2)) ∧ 2 ≤ p.1 ∧ p.1 < m + 2
  nd : (os.map (·.1)).Nodup
  ndb : (os.map (·.2)).Nodup
  rest : ∀ k, k < m → (2 + k) ∉ os.map (·.1) → sec Al k = sec A0 k
  alen0 : A0.length = 256 * m
  alen : Al.length = 256 * m
def rfoot (rb mb : Nat) (ov : Value) (os : List (Nat × Nat)) : List Nat := rb :: mb :: (ov.ownBlock.toList ++ os.map (·.2))
def ringL (os : List (Nat × Nat)) (Al : List UInt8) : List (Nat × ByteArray) := os.map fun p => (p.1, bytesOf (sec Al (p.1 - 2)))
theorem ringL_keys (os : List (Nat × Nat)) (Al : List UInt8) : (ringL os Al).map (·.1) = os.map (·.1) := by unfold ringL; rw [List.map_map]; rfl
theorem few_of (a m : Nat) : ∀ (l : List Nat), l.Nodup → (∀ k, k ∈ l → a ≤ k ∧ k < a + m) → l.length ≤ m := by
  induction m with
  | zero =>
    intro l _ h
    cases l with
    | nil => exact Nat.le_refl _
    | cons x r => have := h x (by simp); omega
  | succ m ih =>
    intro l hn h
    have h1 := ih (l.erase (a + m)) (hn.erase _) (fun k hk => by
      obtain ⟨h2, h3⟩ := (List.Nodup.mem_erase_iff hn).1 hk
      have := h k h3
      omega)
    have h2 := List.length_erase (l := l) (a := a + m)
    split at h2 <;> omega
section
variable {w w' : World} {B rb mb vb m : Nat} {ov : Value} {os : List (Nat × Nat)} {A0 Al : List UInt8}
theorem Rng.few (h : Rng w B rb mb vb ov os A0 Al m) : os.length ≤ m := by
  have := few_of 2 m (os.map (·.1)) h.nd (fun k hk => by
    obtain ⟨p, hp, rfl⟩ := List.mem_map.1 hk
    obtain ⟨_, _, h2, h3⟩ := h.byt p hp
    exact ⟨h2, by omega⟩)
  simpa using this
theorem Rng.ok (h : Rng w B rb mb vb ov os A0 Al m) : RingOK A0 Al m (ringL os Al) := by
  refine ⟨fun p hp => ?_, fun k hk hn => h.rest k hk (by rw [ringL_keys] at hn; exact hn), h.alen0, h.alen, by unfold ringL; rw [List.length_map]; exact h.few⟩
  unfold ringL at hp
  obtain ⟨q, hq, rfl⟩ := List.mem_map.1 hp
  obtain ⟨_, _, h2, h3⟩ := h.byt q hq
  exact ⟨h2, h3, bytesOf_list _⟩
theorem Rng.lt (h : Rng w B rb mb vb ov os A0 Al m) : ∀ i, i ∈ rfoot rb mb ov os → B ≤ i ∧ i < w.heap.size := by
  intro i hi
  obtain ⟨D, hD, _⟩ := h.map
  unfold rfoot at hi
  rcases List.mem_cons.1 hi with rfl | hi
  · exact ⟨h.low.1, h.blk.lt⟩
  rcases List.mem_cons.1 hi with rfl | hi
  · exact ⟨h.low.2, hD.lt⟩
  rcases List.mem_append.1 hi with hi | hi
  · exact h.ord.lt i (by simpa using hi)
  · obtain ⟨p, hp, rfl⟩ := List.mem_map.1 hi
    exact ⟨(h.byt p hp).1, (h.byt p hp).2.1.lt⟩
theorem Rng.turn (h : Rng w B rb mb vb ov os A0 Al m) {G : List Nat} (ht : Turn G w w') (hn : ∀ i, i ∈ rfoot rb mb ov os → i ∉ G) : Rng w' B rb mb vb ov os A0 Al m := by
  obtain ⟨D, hD, hl⟩ := h.map
  exact ⟨h.blk.turn ht (hn _ (by simp [rfoot])), row_turn h.ord ht (fun g hg => hn g (by simp [rfoot, hg])), ⟨D, map_turn hD ht (hn _ (by simp [rfoot])), hl⟩, h.low,
    fun p hp => ⟨(h.byt p hp).1, (h.byt p hp).2.1.turn ht (hn _ (by
      have : p.2 ∈ os.map (·.2) := List.mem_map.2 ⟨p, hp, rfl⟩
      unfold rfoot
      exact List.mem_cons_of_mem _ (List.mem_cons_of_mem _ (List.mem_append_right _ this)))), (h.byt p hp).2.2⟩, h.nd, h.ndb, h.rest, h.alen0, h.alen⟩
theorem Rng.below (h : Rng w B rb mb vb ov os A0 Al m) (hb : Below w.heap.size w w') : Rng w' B rb mb vb ov os A0 Al m := h.turn (G := []) (Turn.ofBelow hb (Nat.le_refl _)) (fun _ _ => by simp)
theorem Rng.rb_mb (h : Rng w B rb mb vb ov os A0 Al m) : mb ≠ rb := by
  obtain ⟨D, hD, _⟩ := h.map
  exact map_blk_ne hD h.blk
theorem Rng.ov_ne (h : Rng w B rb mb vb ov os A0 Al m) : ov.ownBlock ≠ some rb := own_blk_ne h.ord h.blk (by decide)
theorem Rng.ov_mb (h : Rng w B rb mb vb ov os A0 Al m) : ov.ownBlock ≠ some mb := by
  obtain ⟨D, hD, _⟩ := h.map
  exact map_row_ne hD h.ord
theorem map_b256_ne {b n : Nat} {D : DataW Unit} {P : Program} {k : TypeId} {R : Value → Option (DataW Unit × List MemPlace)} {g : Nat} {l : List UInt8} (h : w.ownsMap P k R b n D) (hg : B256 w g l) : b ≠ g := by
  rintro rfl
  obtain ⟨es, clock, hb, _⟩ := h
  obtain ⟨c, fr, hg, _⟩ := hg
  rw [hb] at hg
  cases hg
theorem row_b256_ne {base e size n : Nat} {v : Value} {xs : List Value} {g : Nat} {l : List UInt8} (h : w.ownsRow base e size v n xs) (hg : B256 w g l) (hne : e ≠ 5) : v.ownBlock ≠ some g := by
  rcases h.2 with ⟨rfl, _⟩ | ⟨g', cap, cur, rfl, _, hh, _⟩
  · simp [Value.ownBlock]
  · intro he
    have : g' = g := by simpa [Value.ownBlock] using he
    subst this
    exact hg.ne (show Blk w g' e cur from hh) hne rfl
theorem rmap_und : Tryz.prog.underlying 90 = some (.map 3 31) := Tryz.underlying90
theorem rmap_zero (w : World) : (zeroValue 31).run Tryz.prog w = .ok (.slice none 0 0) w := by go_simp
/-- the map is read -/
theorem Rng.get (h : Rng w B rb mb vb ov os A0 Al m) {k g : Nat} (hk : (k, g) ∈ os) (hb : k ≤ 65537) : ∃ cap, 256 ≤ cap ∧ (Instr.lookup 90 (.map (some mb)) (.int .i64 (k : Int)) false).run Tryz.prog w = .ok (.slice (some ⟨g, 0, none⟩) 256 cap) w := by
  obtain ⟨D, hD, hl⟩ := h.map
  obtain ⟨v, ps, hrun, hR⟩ := hD.lookup ckey rmap_und (rmap_zero w) (zd := .nil) (zp := []) rfl (key := .int .i64 (k : Int)) (kl := key k) (keyOf_int_mk Tryz.underlying3 (WalkArith.wf_i64 (by omega)))
  rw [hl k, rlook_yes h.nd hk] at hR
  obtain ⟨cap, hc, rfl⟩ := RB_inv hR
  exact ⟨cap, hc, hrun⟩
theorem Rng.get_no (h : Rng w B rb mb vb ov os A0 Al m) {k : Nat} (hk : k ∉ os.map (·.1)) (hb : k ≤ 65537) : ∃ n c, (Instr.lookup 90 (.map (some mb)) (.int .i64 (k : Int)) false).run Tryz.prog w = .ok (.slice none n c) w := by
  obtain ⟨D, hD, hl⟩ := h.map
  obtain ⟨v, ps, hrun, hR⟩ := hD.lookup ckey rmap_und (rmap_zero w) (zd := .nil) (zp := []) rfl (key := .int .i64 (k : Int)) (kl := key k) (keyOf_int_mk Tryz.underlying3 (WalkArith.wf_i64 (by omega)))
  rw [hl k, rlook_no hk] at hR
  obtain ⟨n, c, rfl⟩ := RB_nil hR
  exact ⟨n, c, hrun⟩
theorem Rng.apart (h : Rng w B rb mb vb ov os A0 Al m) {p : Nat × Nat} (hp : p ∈ os) : p.2 ≠ rb ∧ p.2 ≠ mb ∧ p.2 ∉ ov.ownBlock.toList := by
  obtain ⟨_, hb, _⟩ := h.byt p hp
  obtain ⟨D, hD, _⟩ := h.map
  exact ⟨(hb.ne h.blk (by decide)).symm, (map_b256_ne hD hb).symm, fun hi => row_b256_ne h.ord hb (by decide) (by simpa using hi)⟩
/-- a sector is taken into the ring -/
theorem Rng.added (h : Rng w B rb mb vb ov os A0 Al m) {k g : Nat} (hk : k ∉ os.map (·.1)) (h2 : 2 ≤ k) (h3 : k < m + 2) {w2 w3 w4 w5 : World} (hb : Below w.heap.size w w2) (hg : B256 w2 g (sec Al (k - 2))) (hgn : w.heap.size ≤ g) (hB : B ≤ w.heap.size)
    {D : DataW Unit} (hD : IsMap D) (hl : ∀ j, D.atKey (key j) .nil = rlook os j) (hm : w3.ownsMap (H := Unit) Tryz.prog 3 RB mb (os.length + 1) (D.put (key k) (.lit (.int .i64 (g : Int))))) (hgr : w2.grownBy w3 (some mb))
    (hb4 : Below w3.heap.size w3 w4) {g2 cap : Nat} (hord : w5.ownsRow B 3 1 (.slice (some ⟨g2, 0, none⟩) (os.length + 1) cap) (os.length + 1) ((os.map fun p => Value.int .i64 (p.1 : Int)) ++ [.int .i64 (k : Int)])) (hg5 : w4.grownBy w5 ov.ownBlock) (hat : ov.ownBlock = some g2 ∨ w.heap.size ≤ g2) :
    Rng (w5.setCell ⟨rb, 1, none⟩ (.slice (some ⟨g2, 0, none⟩) (os.length + 1) cap)) B rb mb vb (.slice (some ⟨g2, 0, none⟩) (os.length + 1) cap) (os ++ [(k, g)]) A0 Al m ∧ Turn (rfoot rb mb ov os) w (w5.setCell ⟨rb, 1, none⟩ (.slice (some ⟨g2, 0, none⟩) (os.length + 1) cap)) ∧
      ∀ i, i ∈ rfoot rb mb (.slice (some ⟨g2, 0, none⟩) (os.length + 1) cap) (os ++ [(k, g)]) → i ∈ rfoot rb mb ov os ∨ w.heap.size ≤ i := by
  obtain ⟨D0, hD0, _⟩ := h.map
  have hmlt := hD0.lt
  have hrlt := h.blk.lt
  have t3 : Turn [mb] w w3 := (Turn.ofBelow hb (Nat.le_refl _)).grown hgr (fun x hx => .inl (by simpa using hx.symm))
  have t5 : Turn (mb :: ov.ownBlock.toList) w w5 := ((t3.below hb4 t3.size).mono (fun i hi => by simp at hi; simp [hi])).grown hg5 (fun x hx => .inl (by simp [hx]))
  have u5 : Turn (mb :: ov.ownBlock.toList) w2 w5 := ((((Turn.refl [mb] w2).grown hgr (fun x hx => .inl (by simpa using hx.symm))).below hb4 hgr.size).mono (fun i hi => by simp at hi; simp [hi])).grown hg5 (fun x hx => .inl (by simp [hx]))
  have v5 : Turn ov.ownBlock.toList w3 w5 := (Turn.ofBelow hb4 (Nat.le_refl _)).grown hg5 (fun x hx => .inl (by simp [hx]))
  have hrn : rb ∉ mb :: ov.ownBlock.toList := by
    intro hi
    rcases List.mem_cons.1 hi with e | hi
    · exact h.rb_mb e.symm
    · exact h.ov_ne (by simpa using hi)
  have hblk := h.blk.turn t5 hrn
  have hmap := map_turn hm v5 (fun hi => h.ov_mb (by simpa using hi))
  have hgl : g ∉ mb :: ov.ownBlock.toList := by
    intro hi
    rcases List.mem_cons.1 hi with e | hi
    · omega
    · have := (h.ord.lt g (by simpa using hi)).2
      omega
  have ts : Turn [rb] w5 (w5.setCell ⟨rb, 1, none⟩ (.slice (some ⟨g2, 0, none⟩) (os.length + 1) cap)) := (Turn.refl _ _).setCell (p := ⟨rb, 1, none⟩) (.inl (by simp)) _
  have hg2 : g2 ≠ rb := by
    have := own_blk_ne hord hblk (by decide)
    intro e; apply this; simp [Value.ownBlock, e]
  have hnew : g ∉ os.map (·.2) := by
    intro hi
    obtain ⟨p, hp, e⟩ := List.mem_map.1 hi
    have := (h.byt p hp).2.1.lt
    omega
  refine ⟨⟨?_, ?_, ⟨D.put (key k) (.lit (.int .i64 (g : Int))), ?_, fun j => ?_⟩, h.low, ?_, ?_, ?_, ?_, h.alen0, h.alen⟩, ?_, ?_⟩
  · exact hblk.set_ 1 _
  · have := row_turn hord ts (fun x hx => by
      have : x = g2 := by simpa [Value.ownBlock] using hx.symm
      subst this
      simpa using hg2)
    rw [List.length_append, List.map_append]
    exact this
  · rw [List.length_append]
    exact map_turn hmap ts (by simpa using h.rb_mb)
  · rw [rlook_snoc hk]
    by_cases e : j = k
    · subst e
      rw [if_pos rfl, atKey_put_same hD (key_is j)]
    · rw [if_neg e, atKey_put_other (fun h => e (key_inj h)), hl]
  · intro p hp
    rcases List.mem_append.1 hp with hp | hp
    · obtain ⟨a1, a2, a3⟩ := h.byt p hp
      obtain ⟨b1, b2, b3⟩ := h.apart hp
      exact ⟨a1, (a2.turn t5 (by simp [b2]; simpa using b3)).turn ts (by simpa using b1), a3⟩
    · simp at hp
      subst hp
      refine ⟨by show B ≤ g; omega, (hg.turn u5 hgl).turn ts ?_, h2, h3⟩
      show g ∉ [rb]
      simp
      omega
  · rw [List.map_append, List.nodup_append]
    exact ⟨h.nd, by simp, fun a ha b hb e => by simp at hb; subst hb; subst e; exact hk ha⟩
  · rw [List.map_append, List.nodup_append]
    exact ⟨h.ndb, by simp, fun a ha b hb e => by simp at hb; subst hb; subst e; exact hnew ha⟩
  · intro j hj hn
    refine h.rest j hj (fun hi => hn ?_)
    rw [List.map_append]
    exact List.mem_append_left _ hi
  · refine (t5.mono (fun i hi => ?_)).setCell (p := ⟨rb, 1, none⟩) (.inl (by simp [rfoot])) _
    unfold rfoot
    rcases List.mem_cons.1 hi with rfl | hi
    · simp
    · exact List.mem_cons_of_mem _ (List.mem_cons_of_mem _ (List.mem_append_left _ hi))
  · intro i hi
    unfold rfoot at hi ⊢
    rcases List.mem_cons.1 hi with rfl | hi
    · exact .inl (by simp)
    rcases List.mem_cons.1 hi with rfl | hi
    · exact .inl (by simp)
    rcases List.mem_append.1 hi with hi | hi
    · have e : i = g2 := by simpa [Value.ownBlock] using hi
      subst e
      rcases hat with e | e
      · exact .inl (by simp [e])
      · exact .inr e
    · rw [List.map_append] at hi
      rcases List.mem_append.1 hi with hi | hi
      · exact .inl (List.mem_cons_of_mem _ (List.mem_cons_of_mem _ (List.mem_append_right _ hi)))
      · simp at hi
        subst hi
        exact .inr hgn
/-- bytes are copied into a sector of the ring -/
theorem Rng.copied (h : Rng w B rb mb vb ov os A0 Al m) (hm : 0 < m) {p g : Nat} {d : List UInt8} (hk : (2 + p % (256 * m) / 256, g) ∈ os) (hd : p % (256 * m) % 256 + d.length ≤ 256) :
    Rng (w.setCells g (p % (256 * m) % 256) (d.map fun x => Value.int .u8 (x.toNat : Int))) B rb mb vb ov os A0 (wr Al p d) m ∧ Turn (rfoot rb mb ov os) w (w.setCells g (p % (256 * m) % 256) (d.map fun x => Value.int .u8 (x.toNat : Int))) := by
  have t := setCells_turn g (d.map fun x => Value.int .u8 (x.toNat : Int)) (p % (256 * m) % 256) w
  obtain ⟨b1, b2, b3⟩ := h.apart hk
  simp only at b1 b2 b3
  obtain ⟨D, hD, hl⟩ := h.map
  have hA := h.alen
  refine ⟨⟨h.blk.turn t (by simpa using b1.symm), row_turn h.ord t (fun x hx => by simp; rintro rfl; exact b3 (by simp [hx])), ⟨D, map_turn hD t (by simpa using b2.symm), hl⟩, h.low, ?_, h.nd, h.ndb, ?_, h.alen0, by rw [wr_length]; exact h.alen⟩, ?_⟩
  · intro q hq
    obtain ⟨a1, a2, a3, a4⟩ := h.byt q hq
    refine ⟨a1, ?_, a3, a4⟩
    by_cases e : q.2 = g
    · have hqg : q = (2 + p % (256 * m) / 256, g) := by
        have hi := List.pairwise_iff_getElem.1 (List.nodup_iff_pairwise_ne.1 h.ndb)
        obtain ⟨i, hi1, hi2⟩ := List.getElem_of_mem hq
        obtain ⟨j, hj1, hj2⟩ := List.getElem_of_mem hk
        rcases Nat.lt_trichotomy i j with hlt | heq | hgt
        · exact absurd (by rw [List.getElem_map, List.getElem_map, hi2, hj2]; exact e) (hi i j (by rw [List.length_map]; exact hi1) (by rw [List.length_map]; exact hj1) hlt)
        · subst heq; rw [← hi2, hj2]
        · exact absurd (by rw [List.getElem_map, List.getElem_map, hi2, hj2]; exact e.symm) (hi j i (by rw [List.length_map]; exact hj1) (by rw [List.length_map]; exact hi1) hgt)
      subst hqg
      have hs := wr_sec_same hA hm (p := p) (l := d) (by rw [hA]; exact hd)
      rw [hA] at hs
      show B256 _ g (sec (wr Al p d) (2 + p % (256 * m) / 256 - 2))
      rw [show 2 + p % (256 * m) / 256 - 2 = p % (256 * m) / 256 by omega, hs]
      have a2' : B256 w g (sec Al (p % (256 * m) / 256)) := by
        have : 2 + p % (256 * m) / 256 - 2 = p % (256 * m) / 256 := by omega
        rw [← this]; exact a2
      exact a2'.copied _ d hd
    · have hne : q.1 ≠ 2 + p % (256 * m) / 256 := by
        intro e1
        have f1 := find_mem h.nd hk
        have f2 := find_mem h.nd (show (q.1, q.2) ∈ os from hq)
        rw [e1, f1] at f2
        simp at f2
        exact e f2.symm
      have := wr_sec_far hA hm (p := p) (l := d) (by rw [hA]; exact hd) (k := q.1 - 2) (by omega) (by rw [hA]; omega)
      rw [this]
      exact a2.turn t (by simpa using e)
  · intro j hj hn
    have := wr_sec_far hA hm (p := p) (l := d) (by rw [hA]; exact hd) (k := j) hj (by
      rw [hA]
      intro e
      subst e
      exact hn (List.mem_map.2 ⟨_, hk, rfl⟩))
    rw [this]
    exact h.rest j hj hn
  · refine t.mono (fun i hi => ?_)
    simp at hi
    subst hi
    unfold rfoot
    exact List.mem_cons_of_mem _ (List.mem_cons_of_mem _ (List.mem_append_right _ (List.mem_map.2 ⟨_, hk, rfl⟩)))
end
end Go.Proofs.YtfdnpchbbngpjaaGreat
