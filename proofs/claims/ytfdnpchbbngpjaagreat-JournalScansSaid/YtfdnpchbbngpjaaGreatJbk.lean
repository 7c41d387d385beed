/- The law's book in memory; its small methods. -/
import Derived.Test.YtfdnpchbbngpjaaGreatJlf
import Derived.Test.YtfdnpchbbngpjaaGreatJpb
import Derived.BigQuiet
import Derived.BigRegion
namespace Go.Proofs.YtfdnpchbbngpjaaGreat
attribute [local go_sem ↓] Go.wp_at_zero Go.wp_at_succ
open Go.RowKit Go.Maps

/-- the cells of the records, of which the first c are committed -/
def bcells (c : Nat) : List Rc → List Value
  | [] => []
  | r :: t => .string r.2 :: .int .i64 (r.1 : Int) :: .bool (decide (0 < c)) :: bcells (c - 1) t
theorem bcells_len (c : Nat) (l : List Rc) : (bcells c l).length = l.length * 3 := by
  induction l generalizing c with
  | nil => rfl
  | cons r t ih => simp only [bcells, List.length_cons]; rw [ih]; omega
theorem bcells_at {c : Nat} {l : List Rc} {i : Nat} {r : Rc} (h : l[i]? = some r) : (bcells c l)[3 * i]? = some (.string r.2) ∧ (bcells c l)[3 * i + 1]? = some (.int .i64 (r.1 : Int)) ∧ (bcells c l)[3 * i + 2]? = some (.bool (decide (i < c))) := by
  induction l generalizing c i with
  | nil => simp at h
  | cons q t ih =>
    cases i with
    | zero =>
      simp at h
      subst h
      simp [bcells]
    | succ i =>
      obtain ⟨h1, h2, h3⟩ := ih (c := c - 1) (i := i) (by simpa using h)
      rw [show 3 * (i + 1) = 3 * i + 1 + 1 + 1 by omega, show 3 * i + 1 + 1 + 1 + 1 = (3 * i + 1) + 1 + 1 + 1 by omega, show 3 * i + 1 + 1 + 1 + 2 = (3 * i + 2) + 1 + 1 + 1 by omega]
      simp only [bcells, List.getElem?_cons_succ]
      refine ⟨h1, h2, h3.trans ?_⟩
      congr 2
      exact decide_eq_decide.2 (by omega)
/-- block g begins with the 256 bytes l -/
def H256 (w : World) (g : Nat) (l : List UInt8) : Prop := ∃ c fr, w.heap[g]? = some (.cells c 5 fr) ∧ (∀ j, j < 256 → c[j]? = some (.int .u8 ((l.getD j 0).toNat : Int))) ∧ l.length = 256
theorem H256.lt {w : World} {g : Nat} {l : List UInt8} (h : H256 w g l) : g < w.heap.size := by
  obtain ⟨c, fr, h, _⟩ := h
  exact (Array.getElem?_eq_some_iff.1 h).1
theorem H256.turn {w w' : World} {g : Nat} {l : List UInt8} {G : List Nat} (h : H256 w g l) (ht : Turn G w w') (hn : g ∉ G) : H256 w' g l := by
  have hlt := h.lt
  obtain ⟨c, fr, h, r⟩ := h
  exact ⟨c, fr, (ht.block g hlt hn).trans h, r⟩
theorem H256.ne {w : World} {g b : Nat} {l : List UInt8} {t : TypeId} {cs : Array Value} (h : H256 w g l) (hb : Blk w b t cs) (hne : t ≠ 5) : g ≠ b := by
  rintro rfl
  obtain ⟨c, fr, h, _⟩ := h
  unfold Blk at hb
  rw [h] at hb
  injection hb with hb
  injection hb with _ ht
  exact hne ht.symm
theorem H256.byts {w : World} {g cap : Nat} {l : List UInt8} (h : H256 w g l) (_hc : 256 ≤ cap) : Byts w (.slice (some ⟨g, 0, none⟩) 256 cap) l := by
  have hlt := h.lt
  obtain ⟨c, fr, h, hj, hl⟩ := h
  refine ⟨some ⟨g, 0, none⟩, cap, by rw [hl], by omega, fun _ => ⟨g, 0, rfl, hlt, fun j hj2 => ?_⟩⟩
  rw [Nat.zero_add]
  simp [World.cell?, h, hj j (by omega)]
/-- block bb is the book B: its heads are the blocks g0 and g1, its area ga, its records the slice vr -/
structure Bk (w : World) (bb g0 g1 ga c0 c1 ca : Nat) (vr : Value) (B : BS) : Prop where
  blk : Blk w bb 36 #[.slice (some ⟨g0, 0, none⟩) 256 c0, .slice (some ⟨g1, 0, none⟩) 256 c1, .slice (some ⟨ga, 0, none⟩) B.area.length ca, .int .i64 (B.s.h : Int), .int .i64 (B.s.first : Int), .int .i64 (B.s.beg : Int), vr]
  h0 : H256 w g0 B.h0
  h1 : H256 w g1 B.h1
  k0 : 256 ≤ c0
  k1 : 256 ≤ c1
  ar : w.ownsRow 0 5 1 (.slice (some ⟨ga, 0, none⟩) B.area.length ca) B.area.length (Lib.byteCells B.area)
  rs : w.ownsRow 0 82 3 vr B.s.recs.length (bcells B.s.comm B.s.recs)
  n0 : g0 ≠ ga
  n1 : g1 ≠ ga
def bfoot (bb g0 g1 ga : Nat) (vr : Value) : List Nat := bb :: g0 :: g1 :: ga :: vr.ownBlock.toList
def BkF (w : World) (bb : Nat) (B : BS) (G : List Nat) : Prop := ∃ g0 g1 ga c0 c1 ca vr, Bk w bb g0 g1 ga c0 c1 ca vr B ∧ G = bfoot bb g0 g1 ga vr
def BStep (G : List Nat) (w w' : World) (bb : Nat) (B : BS) : Prop := ∃ G', BkF w' bb B G' ∧ Turn G w w' ∧ ∀ i, i ∈ G' → i ∈ G ∨ w.heap.size ≤ i
section
variable {w w' : World} {bb g0 g1 ga c0 c1 ca : Nat} {vr : Value} {B : BS} {G : List Nat}
theorem Bk.lt (h : Bk w bb g0 g1 ga c0 c1 ca vr B) : ∀ i, i ∈ bfoot bb g0 g1 ga vr → i < w.heap.size := by
  intro i hi
  unfold bfoot at hi
  rcases List.mem_cons.1 hi with rfl | hi
  · exact h.blk.lt
  rcases List.mem_cons.1 hi with rfl | hi
  · exact h.h0.lt
  rcases List.mem_cons.1 hi with rfl | hi
  · exact h.h1.lt
  rcases List.mem_cons.1 hi with rfl | hi
  · exact (h.ar.lt _ rfl).2
  · exact (h.rs.lt i (by simpa using hi)).2
theorem Bk.turn (h : Bk w bb g0 g1 ga c0 c1 ca vr B) {F : List Nat} (ht : Turn F w w') (hn : ∀ i, i ∈ bfoot bb g0 g1 ga vr → i ∉ F) : Bk w' bb g0 g1 ga c0 c1 ca vr B :=
  ⟨h.blk.turn ht (hn _ (by simp [bfoot])), h.h0.turn ht (hn _ (by simp [bfoot])), h.h1.turn ht (hn _ (by simp [bfoot])), h.k0, h.k1, row_turn h.ar ht (fun g hg => hn g (by
    have : g = ga := by simpa [Value.ownBlock] using hg.symm
    subst this
    simp [bfoot])), row_turn h.rs ht (fun g hg => hn g (by simp [bfoot, hg])), h.n0, h.n1⟩
theorem Bk.below (h : Bk w bb g0 g1 ga c0 c1 ca vr B) (hb : Below w.heap.size w w') : Bk w' bb g0 g1 ga c0 c1 ca vr B := h.turn (F := []) (Turn.ofBelow hb (Nat.le_refl _)) (fun _ _ => by simp)
theorem Bk.ar_ne (h : Bk w bb g0 g1 ga c0 c1 ca vr B) : ga ≠ bb := fun e => own_blk_ne h.ar h.blk (by decide) (by simp [Value.ownBlock, e])
theorem Bk.rs_ne (h : Bk w bb g0 g1 ga c0 c1 ca vr B) : vr.ownBlock ≠ some bb := own_blk_ne h.rs h.blk (by decide)
theorem BkF.lt (h : BkF w bb B G) : ∀ i, i ∈ G → i < w.heap.size := by
  obtain ⟨_, _, _, _, _, _, _, h, rfl⟩ := h; exact h.lt
theorem BkF.turn (h : BkF w bb B G) {F : List Nat} (ht : Turn F w w') (hn : ∀ i, i ∈ G → i ∉ F) : BkF w' bb B G := by
  obtain ⟨_, _, _, _, _, _, _, h, rfl⟩ := h; exact ⟨_, _, _, _, _, _, _, h.turn ht hn, rfl⟩
theorem BkF.below (h : BkF w bb B G) (hb : Below w.heap.size w w') : BkF w' bb B G := h.turn (F := []) (Turn.ofBelow hb (Nat.le_refl _)) (fun _ _ => by simp)
/-- a record's cells -/
theorem rec_cells {ao : Option Addr} {n cap c : Nat} {l : List Rc} (h : w.ownsRow 0 82 3 (.slice ao n cap) n (bcells c l)) {j : Nat} {r : Rc} (hj : l[j]? = some r) (hjn : j < n) :
    ∃ g, ao = some ⟨g, 0, none⟩ ∧ w.cell? ⟨g, j * 3, none⟩ = some (.string r.2) ∧ w.cell? ⟨g, j * 3 + 1, none⟩ = some (.int .i64 (r.1 : Int)) ∧ w.cell? ⟨g, j * 3 + 2, none⟩ = some (.bool (decide (j < c))) := by
  rcases h.2 with ⟨h1, h2⟩ | ⟨g, cc, cur, h1, _⟩
  · omega
  · injection h1 with h1 h2 h3
    subst h1 h3
    obtain ⟨b1, b2, b3⟩ := bcells_at (c := c) hj
    refine ⟨g, rfl, ?_, ?_, ?_⟩
    · rw [h.cellAt (j * 3) (by omega), Nat.mul_comm]; exact b1
    · rw [h.cellAt (j * 3 + 1) (by omega), Nat.mul_comm]; exact b2
    · rw [h.cellAt (j * 3 + 2) (by omega), Nat.mul_comm]; exact b3
theorem brow_shape {base e size n : Nat} {v : Value} {xs : List Value} (h : w.ownsRow base e size v n xs) : ∃ ao cap, v = .slice ao n cap := by
  rcases h.2 with ⟨h1, h2⟩ | ⟨g, cap, cur, h1, _⟩
  · exact ⟨none, 0, by rw [h1, h2]⟩
  · exact ⟨_, _, h1⟩
theorem rend_take {q : Nat} {l : List Rc} {k : Nat} {r : Rc} (h : l[k]? = some r) : rend q (l.take (k + 1)) = r.1 + 16 + r.2.size := by
  rw [List.take_add_one, h]
  exact rend_snoc _ _ _
theorem blast_any (h : Bk w bb g0 g1 ga c0 c1 ca vr B) (hb1 : B.s.first ≤ 281474976710656) (hb2 : B.s.recs.length ≤ 281474976710656) :
    Calls Tryz.prog 45 #[.pointer (some ⟨bb, 0, none⟩)] w fun e w' => e = .returned (.int .i64 B.s.last) ∧ ∃ n, w' = w.drewN n := by
  obtain ⟨ao, cap, rfl⟩ := brow_shape h.rs
  have c4 := h.blk.cell 4
  have c6 := h.blk.cell 6
  simp at c4 c6
  clear h
  go_enter Tryz.func45, Tryz.ntmps45
  go_wp2_with fail
  go_quiet (fail)
  go_wp2_with fail
  go_ret
  exact ⟨rfl, _, rfl⟩
set_option maxRecDepth 100000 in
theorem bend_any (h : Bk w bb g0 g1 ga c0 c1 ca vr B) (hc : B.s.comm ≤ B.s.recs.length) (hlen : B.s.recs.length ≤ 1048576) (hch : ∀ r, r ∈ B.s.recs → r.1 + 16 + r.2.size ≤ 1125899906842624) :
    Calls Tryz.prog 68 #[.pointer (some ⟨bb, 0, none⟩)] w fun e w' => e = .returned (.int .i64 (B.s.en : Int)) ∧ ∃ n, w' = w.drewN n := by
  obtain ⟨n, hn⟩ : ∃ n, B.s.recs.length = n := ⟨_, rfl⟩
  obtain ⟨ao, cap, rfl⟩ := brow_shape h.rs
  rw [hn] at h hc hlen
  have c5 := h.blk.cell 5
  simp at c5
  have HB := Lib.hid h
  have HC := Lib.hid hch
  clear h hch
  go_enter Tryz.func68, Tryz.ntmps68
  go_wp2
  go_loopw [3, 4] (fun a i wr => (∃ m, wr = w.drewN m) ∧ ∃ k : Nat, k ≤ n ∧ i = .int .i64 (k : Int) ∧ a = .int .i64 ((rend B.s.beg (B.s.recs.take (min k B.s.comm)) : Nat) : Int)) (fun _ i _ => n - (intOf i).toNat)
  case atStart => exact ⟨⟨0, rfl⟩, 0, Nat.zero_le _, rfl, by simp [rend]⟩
  case round =>
    obtain ⟨⟨m, hwm⟩, k, hk, rfl, rfl⟩ := hrel
    have h1 := HB.out.below (below_drewN (n := m) (Below.refl _ w))
    rw [← hwm] at h1
    have HWM := Lib.hid hwm
    clear hwm
    have c6 : wr.cell? ⟨bb, 6, none⟩ = some (.slice ao n cap) := h1.blk.cell 6
    by_cases hkn : k < n
    · obtain ⟨r, hr⟩ : ∃ r, B.s.recs[k]? = some r := ⟨_, List.getElem?_eq_getElem (by omega)⟩
      have hrow := h1.rs
      rw [hn] at hrow
      obtain ⟨g, rfl, d0, d1, d2⟩ := rec_cells hrow hr hkn
      have hrb := HC.out r (List.mem_of_getElem? hr)
      by_cases hkc : k < B.s.comm
      · rw [decide_eq_true hkc] at d2
        have e1 : rend B.s.beg (B.s.recs.take (min (k + 1) B.s.comm)) = r.1 + 16 + r.2.size := by rw [Nat.min_eq_left (by omega)]; exact rend_take hr
        have E1 := Lib.hid e1
        clear e1 hrow h1
        go_wp2_with fail
        go_quiet (fail)
        go_wp2_with fail
        go_roundw
        case rel => exact ⟨⟨_, by rw [HWM.out]; exact World.drewN_drewN ..⟩, k + 1, by omega, by go_num, by rw [E1.out]; go_num⟩
        case measure => simp [intOf]; omega
      · rw [decide_eq_false hkc] at d2
        have e1 : rend B.s.beg (B.s.recs.take (min (k + 1) B.s.comm)) = rend B.s.beg (B.s.recs.take (min k B.s.comm)) := by rw [Nat.min_eq_right (by omega), Nat.min_eq_right (by omega)]
        have E1 := Lib.hid e1
        clear e1 hrow h1
        go_wp2_with fail
        go_roundw
        case rel => exact ⟨⟨_, HWM.out⟩, k + 1, by omega, by go_num, by rw [E1.out]⟩
        case measure => simp [intOf]; omega
    · have e1 : rend B.s.beg (B.s.recs.take (min k B.s.comm)) = B.s.en := by rw [Nat.min_eq_right (by omega)]; rfl
      rw [e1]
      clear h1
      go_wp2_with fail
      go_ret
      exact ⟨rfl, _, HWM.out⟩
set_option maxRecDepth 100000 in
theorem bdurable_any (h : Bk w bb g0 g1 ga c0 c1 ca vr B) (hc : B.s.comm ≤ B.s.recs.length) (hlen : B.s.recs.length ≤ 1048576) (hf : B.s.first ≤ 281474976710656) :
    Calls Tryz.prog 42 #[.pointer (some ⟨bb, 0, none⟩)] w fun e w' => e = .returned (.int .i64 B.s.durable) ∧ ∃ n, w' = w.drewN n := by
  obtain ⟨n, hn⟩ : ∃ n, B.s.recs.length = n := ⟨_, rfl⟩
  obtain ⟨ao, cap, rfl⟩ := brow_shape h.rs
  rw [hn] at h hc hlen
  have c4 := h.blk.cell 4
  simp at c4
  have HB := Lib.hid h
  clear h
  go_enter Tryz.func42, Tryz.ntmps42
  go_wp2
  go_loopw [3, 4] (fun a i wr => (∃ m, wr = w.drewN m) ∧ ∃ k : Nat, k ≤ n ∧ i = .int .i64 (k : Int) ∧ a = .int .i64 ((B.s.first : Int) - 1 + ((min k B.s.comm : Nat) : Int))) (fun _ i _ => n - (intOf i).toNat)
  case atStart => exact ⟨⟨0, rfl⟩, 0, Nat.zero_le _, rfl, by simp⟩
  case round =>
    obtain ⟨⟨m, hwm⟩, k, hk, rfl, rfl⟩ := hrel
    have h1 := HB.out.below (below_drewN (n := m) (Below.refl _ w))
    rw [← hwm] at h1
    have HWM := Lib.hid hwm
    clear hwm
    have c6 : wr.cell? ⟨bb, 6, none⟩ = some (.slice ao n cap) := h1.blk.cell 6
    have c4 : wr.cell? ⟨bb, 4, none⟩ = some (.int .i64 (B.s.first : Int)) := h1.blk.cell 4
    by_cases hkn : k < n
    · obtain ⟨r, hr⟩ : ∃ r, B.s.recs[k]? = some r := ⟨_, List.getElem?_eq_getElem (by omega)⟩
      have hrow := h1.rs
      rw [hn] at hrow
      obtain ⟨g, rfl, d0, d1, d2⟩ := rec_cells hrow hr hkn
      clear hrow h1
      by_cases hkc : k < B.s.comm
      · rw [decide_eq_true hkc] at d2
        go_wp2_with fail
        go_roundw
        case rel => exact ⟨⟨_, HWM.out⟩, k + 1, by omega, by go_num, by go_num⟩
        case measure => simp [intOf]; omega
      · rw [decide_eq_false hkc] at d2
        go_wp2_with fail
        go_roundw
        case rel => exact ⟨⟨_, HWM.out⟩, k + 1, by omega, by go_num, by go_num⟩
        case measure => simp [intOf]; omega
    · have e1 : (B.s.first : Int) - 1 + ((min k B.s.comm : Nat) : Int) = B.s.durable := by rw [Nat.min_eq_right (by omega)]; unfold JS.durable; omega
      rw [e1]
      clear h1
      go_wp2_with fail
      go_ret
      exact ⟨rfl, _, HWM.out⟩
/-- next lays one block -/
theorem bnext_any (h : Bk w bb g0 g1 ga c0 c1 ca vr B) (hlen : B.s.recs.length ≤ 1048576) (hch : ∀ r, r ∈ B.s.recs → r.1 + 16 + r.2.size ≤ 1125899906842624) :
    Calls Tryz.prog 57 #[.pointer (some ⟨bb, 0, none⟩)] w fun e w' => e = .returned (.int .i64 (B.s.next : Int)) ∧ Below w.heap.size w w' := by
  obtain ⟨n, hn⟩ : ∃ n, B.s.recs.length = n := ⟨_, rfl⟩
  obtain ⟨ao, cap, rfl⟩ := brow_shape h.rs
  rw [hn] at h hlen
  have c6 : w.cell? ⟨bb, 6, none⟩ = some (.slice ao n cap) := h.blk.cell 6
  have c5 := h.blk.cell 5
  simp at c5
  by_cases hn0 : n = 0
  · have e : B.s.next = B.s.beg := by
      have : B.s.recs = [] := List.eq_nil_of_length_eq_zero (by omega)
      unfold JS.next
      rw [this]; rfl
    rw [e]
    subst hn0
    clear h
    go_enter Tryz.func57, Tryz.ntmps57
    go_wp2
    go_ret
    exact ⟨rfl, Below.refl _ _⟩
  · obtain ⟨r, hr⟩ : ∃ r, B.s.recs[n - 1]? = some r := ⟨_, List.getElem?_eq_getElem (by omega)⟩
    have hrow := h.rs
    rw [hn] at hrow
    obtain ⟨g, rfl, d0, d1, d2⟩ := rec_cells hrow hr (by omega)
    have hrb := hch r (List.mem_of_getElem? hr)
    obtain ⟨cm, hcm⟩ : ∃ cm, decide (n - 1 < B.s.comm) = cm := ⟨_, rfl⟩
    rw [hcm] at d2
    have e : B.s.next = r.1 + 16 + r.2.size := by
      unfold JS.next
      have := rend_take (q := B.s.beg) hr
      rw [show n - 1 + 1 = n by omega, List.take_of_length_le (by omega)] at this
      exact this
    rw [e]
    obtain ⟨j, hj⟩ : ∃ j, n - 1 = j := ⟨_, rfl⟩
    rw [hj] at d0 d1 d2
    have hj1 : n = j + 1 := by omega
    have ew : IntKind.i64.wrap (j : Int) = (j : Int) := by rw [IntKind.wrap_i64]; omega
    have e1 : (n : Int) - 1 = (j : Int) := by omega
    have e2 : (n == 0) = false := by rw [beq_eq_false_iff_ne]; exact hn0
    have e3 : ((n : Int) == 0) = false := by rw [beq_eq_false_iff_ne]; omega
    have elt : (j : Int) < (j : Int) + 1 := by omega
    clear h hrow hr hcm e hn e1 hj hn0
    subst hj1
    go_enter Tryz.func57, Tryz.ntmps57
    go_wp2_with fail
    have hlg : g < w.heap.size := by
      rcases Nat.lt_or_ge g w.heap.size with hlt | hge
      · exact hlt
      · exfalso
        simp [World.cell?, Array.getElem?_eq_none hge] at d0
    have hlb : bb < w.heap.size := by
      rcases Nat.lt_or_ge bb w.heap.size with hlt | hge
      · exact hlt
      · exfalso
        simp [World.cell?, Array.getElem?_eq_none hge] at c6
    go_region_held3 (fun w' => w'.cell? ⟨bb, 6, none⟩ = some (Value.slice (some ⟨g, 0, none⟩) (j + 1) cap) ∧ w'.cell? ⟨g, j * 3, none⟩ = some (Value.string r.2) ∧ w'.cell? ⟨g, j * 3 + 1, none⟩ = some (Value.int .i64 (r.1 : Int)) ∧ w'.cell? ⟨g, j * 3 + 2, none⟩ = some (Value.bool cm))
      (first | go_keep) (fail)
    have hB : Below w.heap.size w (w.alloc (.cells #[.string r.2, .int .i64 (r.1 : Int), .bool cm] 82)).drew := ((Below.refl _ w).alloc (Nat.le_refl _) _).drew
    go_wp2_with fail
    go_ret
    exact ⟨rfl, hB⟩
set_option maxRecDepth 100000 in
theorem bfree_any (h : Bk w bb g0 g1 ga c0 c1 ca vr B) (hlen : B.s.recs.length ≤ 1048576) (hch : ∀ r, r ∈ B.s.recs → r.1 + 16 + r.2.size ≤ 1125899906842624) (hA : B.area.length ≤ 1048576) (hb1 : B.s.beg ≤ 1125899906842624) (hb2 : B.s.next ≤ 1125899906842624) :
    Calls Tryz.prog 27 #[.pointer (some ⟨bb, 0, none⟩)] w fun e w' => e = .returned (.int .i64 (B.s.free B.area.length)) ∧ Below w.heap.size w w' := by
  have hlb := h.blk.lt
  have hnx := fun (w' : World) (hb : Below w.heap.size w w') => bnext_any (h.below hb) hlen hch
  obtain ⟨al, hal⟩ : ∃ al, B.area.length = al := ⟨_, rfl⟩
  obtain ⟨nx, hnxe⟩ : ∃ nx, B.s.next = nx := ⟨_, rfl⟩
  obtain ⟨bg, hbg⟩ : ∃ bg, B.s.beg = bg := ⟨_, rfl⟩
  have hfr : B.s.free al = max (-1) (min 65536 ((al : Int) - 16 - ((nx : Int) - (bg : Int)))) := by unfold JS.free; rw [hnxe, hbg]; omega
  have d2 : w.drew.cell? ⟨bb, 2, none⟩ = some (.slice (some ⟨ga, 0, none⟩) al ca) := by rw [← hal]; exact h.blk.cell 2
  have d5 : w.drew.cell? ⟨bb, 5, none⟩ = some (.int .i64 (bg : Int)) := by rw [← hbg]; exact h.blk.cell 5
  rw [hnxe] at hnx hb2
  rw [hbg] at hb1
  rw [hal] at hA
  rw [hal, hfr]
  have HNX := Lib.hid hnx
  have w1 : IntKind.i64.wrap ((al : Int) - 16) = (al : Int) - 16 := by rw [IntKind.wrap_i64]; omega
  have w2 : IntKind.i64.wrap ((nx : Int) - (bg : Int)) = (nx : Int) - (bg : Int) := by rw [IntKind.wrap_i64]; omega
  have w3 : IntKind.i64.wrap ((al : Int) - 16 - ((nx : Int) - (bg : Int))) = (al : Int) - 16 - ((nx : Int) - (bg : Int)) := by rw [IntKind.wrap_i64]; omega
  clear hnx h hlen hch hal hnxe hbg hfr
  go_enter Tryz.func27, Tryz.ntmps27
  go_wp2_with fail
  go_region_held3 (fun w' => w'.cell? ⟨bb, 2, none⟩ = some (Value.slice (some ⟨ga, 0, none⟩) al ca) ∧ w'.cell? ⟨bb, 5, none⟩ = some (Value.int .i64 (bg : Int)))
    (with_reducible exact ⟨d2, d5⟩)
    (first
      | (go_at_call 57; refine (HNX.out w.drew (Below.refl _ w).drew).mono ?_; rintro e w4 ⟨rfl, hb4⟩; have d2 := (hb4.cell (p := ⟨bb, 2, none⟩) hlb).trans d2; have d5 := (hb4.cell (p := ⟨bb, 5, none⟩) hlb).trans d5))
  all_goals
    go_wp2_with fail
    go_ret
    exact ⟨rfl, ((Below.refl w.heap.size w).drew).trans hb4⟩
end
end Go.Proofs.YtfdnpchbbngpjaaGreat
