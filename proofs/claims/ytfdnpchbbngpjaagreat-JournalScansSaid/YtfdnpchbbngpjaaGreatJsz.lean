/- The plain readers of scan; parse; the record appended. -/
import Derived.Test.YtfdnpchbbngpjaaGreatJbc
import Derived.Test.YtfdnpchbbngpjaaGreatJlf
import Derived.Test.YtfdnpchbbngpjaaGreatJpu
import Derived.Test.YtfdnpchbbngpjaaGreatJrg
import Derived.Test.YtfdnpchbbngpjaaGreatJtk
import Derived.Deep.DeepCutAuto
import Derived.Test.YtfdnpchbbngpjaaGreatJbi
import Derived.Test.YtfdnpchbbngpjaaGreatJbl
import Derived.Test.YtfdnpchbbngpjaaGreatJoq
import Derived.Test.YtfdnpchbbngpjaaGreatJpb
import Derived.Test.YtfdnpchbbngpjaaGreatJxa
namespace Go.Proofs.YtfdnpchbbngpjaaGreat
attribute [local go_sem ↓] Go.wp_at_zero Go.wp_at_succ
open Go.RowKit Go.Maps

def isSmall (x : Int) : Bool := decide (0 ≤ x) && decide (x < 281474976710656)
theorem small_any (x : Int) (w : World) : Calls Tryz.prog 79 #[.int .i64 x] w fun e w' => e = .returned (.bool (isSmall x)) ∧ w = w' := by
  unfold isSmall
  cases h1 : decide (0 ≤ x) with
  | true =>
    cases h2 : decide (x < 281474976710656) with
    | true =>
      go_enter Tryz.func79, Tryz.ntmps79
      go_wp2
      go_ret
      exact ⟨rfl, rfl⟩
    | false =>
      go_enter Tryz.func79, Tryz.ntmps79
      go_wp2
      go_ret
      exact ⟨rfl, rfl⟩
  | false =>
    go_enter Tryz.func79, Tryz.ntmps79
    go_wp2
    go_ret
    exact ⟨rfl, rfl⟩
set_option maxRecDepth 100000 in
set_option maxHeartbeats 4000000 in
theorem bbytes_any {w : World} {bb g0 g1 ga c0 c1 ca : Nat} {vr : Value} {B : BS} (h : Bk w bb g0 g1 ga c0 c1 ca vr B) (p n : Nat) (hp : p ≤ 1125899906842624) (hn : n ≤ 1048576) (hA0 : 0 < B.area.length) (hA : B.area.length ≤ 1048576) :
    Calls Tryz.prog 58 #[.pointer (some ⟨bb, 0, none⟩), .int .i64 (p : Int), .int .i64 (n : Int)] w fun e w' => ∃ v, e = .returned v ∧ w'.ownsRow w.heap.size 5 1 v n (Lib.byteCells (rd B.area p n)) ∧ Below w.heap.size w w' := by
  obtain ⟨i0, hi, hz0, hz1, hz2⟩ := info_parts ju8_info
  have HB := Lib.hid h
  obtain ⟨A, hAe⟩ : ∃ A, B.area = A := ⟨_, rfl⟩
  rw [hAe] at hA0 hA ⊢
  have HAE := Lib.hid hAe
  clear h hAe
  go_enter Tryz.func58, Tryz.ntmps58
  go_wp2
  go_loopw [7, 8] (fun v i wr => ∃ (k : Nat) (ao : Option Addr) (cap : Nat), k ≤ n ∧ i = .int .i64 (k : Int) ∧ v = .slice ao k cap ∧ wr.ownsRow w.heap.size 5 1 (.slice ao k cap) k (Lib.byteCells (rd A p k)) ∧ Below w.heap.size w wr) (fun _ i _ => n - (intOf i).toNat)
  case atStart => exact ⟨0, none, 0, Nat.zero_le _, rfl, rfl, World.ownsRow_nil _ _ _ _, Below.refl _ _⟩
  case round =>
    obtain ⟨k, ao, cap0, hk, rfl, rfl, hrow, hbel⟩ := hrel
    by_cases hkn : k < n
    · have h1 := HB.out.below hbel
      obtain ⟨o, ho⟩ : ∃ o, (p + k) % A.length = o := ⟨_, rfl⟩
      have hol : o < A.length := by rw [← ho]; exact Nat.mod_lt _ hA0
      have hsn := rd_snoc A p k
      rw [ho] at hsn
      obtain ⟨x, hx⟩ : ∃ x, A.getD o 0 = x := ⟨_, rfl⟩
      rw [hx] at hsn
      obtain ⟨al, hal⟩ : ∃ al, A.length = al := ⟨_, rfl⟩
      have c2 : wr.cell? ⟨bb, 2, none⟩ = some (.slice (some ⟨ga, 0, none⟩) al ca) := by rw [← hal, ← HAE.out]; exact h1.blk.cell 2
      have cx : wr.cell? ⟨ga, o, none⟩ = some (.int .u8 (x.toNat : Int)) := by
        have har := h1.ar
        rw [HAE.out] at har
        rw [har.cellAt o (by omega), bcell_atJ A o hol, ← hx, List.getD_eq_getElem?_getD, List.getElem?_eq_getElem hol]
        rfl
      have em : ((p : Int) + (k : Int)) % (al : Int) = (o : Int) := by rw [← ho, ← hal]; rfl
      have em2 : ((p : Int) + (k : Int)).tmod (al : Int) = (o : Int) := by rw [Int.tmod_eq_emod_of_nonneg (by omega)]; exact em
      have hwp : IntKind.i64.wrap ((p : Int) + (k : Int)) = (p : Int) + (k : Int) := by rw [IntKind.wrap_i64]; omega
      rw [hal] at hol hA0 hA
      have hale0 : (al == 0) = false := by rw [beq_eq_false_iff_ne]; omega
      have hale1 : ¬ ((al : Int) = 0) := by omega
      have hsz := hbel.size
      have HN := Lib.hid (show Lib.byteCells (rd A p (k + 1)) = Lib.byteCells (rd A p k) ++ [.int .u8 (x.toNat : Int)] by rw [hsn, byteCells_app]; rfl)
      have HW := Lib.hid hbel
      have hr1 : (wr.alloc (.cells #[.int .u8 (x.toNat : Int)] 5)).drew.ownsRow w.heap.size 5 1 (.slice ao k cap0) k (Lib.byteCells (rd A p k)) := row_turn hrow (((Turn.refl [] wr).alloc _).drew) (fun _ _ => by simp)
      have hnw : (wr.alloc (.cells #[.int .u8 (x.toNat : Int)] 5)).drew.heap[wr.heap.size]? = some (.cells #[.int .u8 (x.toNat : Int)] 5 (0, 0)) := heap_alloc_new wr _
      have hba : Below w.heap.size w (wr.alloc (.cells #[.int .u8 (x.toNat : Int)] 5)).drew := below_drewN (n := 1) (hbel.alloc hsz _)
      have hsa : (wr.alloc (.cells #[.int .u8 (x.toNat : Int)] 5)).drew.heap.size = wr.heap.size + 1 := by simp
      have HA := Lib.hid (And.intro hnw hba)
      have HRW := Lib.hid hrow
      have hx2 : x.toNat < 256 := UInt8.toNat_lt x
      have c2d : wr.drew.cell? ⟨bb, 2, none⟩ = some (.slice (some ⟨ga, 0, none⟩) al ca) := c2
      have cxd : wr.drew.cell? ⟨ga, o, none⟩ = some (.int .u8 (x.toNat : Int)) := cx
      have lb : bb < wr.heap.size := h1.blk.lt
      have lga : ga < wr.heap.size := h1.lt ga (by simp [bfoot])
      have c2a : (wr.alloc (.cells #[.int .u8 (x.toNat : Int)] 5)).drew.cell? ⟨bb, 2, none⟩ = some (.slice (some ⟨ga, 0, none⟩) al ca) := (World.cell?_of_block (a := ⟨bb, 2, none⟩) (Below.heap_alloc wr _ bb lb)).trans c2
      have cxa : (wr.alloc (.cells #[.int .u8 (x.toNat : Int)] 5)).drew.cell? ⟨ga, o, none⟩ = some (.int .u8 (x.toNat : Int)) := (World.cell?_of_block (a := ⟨ga, o, none⟩) (Below.heap_alloc wr _ ga lga)).trans cx
      have hale3 : ¬ (al = 0) := by omega
      have hne : some bb ≠ (Value.slice ao k cap0).ownBlock ∧ some ga ≠ (Value.slice ao k cap0).ownBlock := by
        have l1 := HB.out.blk.lt
        have l2 := HB.out.lt ga (by simp [bfoot])
        constructor
        · intro e; have := (hrow.lt bb e.symm).1; omega
        · intro e; have := (hrow.lt ga e.symm).1; omega
      have HNE := Lib.hid hne
      clear hsn ho hx hal h1 hbel hrow hnw hba hne
      go_wp2_with fail
      go_region_held3 (fun w' => w'.cell? ⟨bb, 2, none⟩ = some (Value.slice (some ⟨ga, 0, none⟩) al ca) ∧ w'.cell? ⟨ga, o, none⟩ = some (Value.int .u8 (x.toNat : Int)))
        (first | with_reducible exact ⟨c2d, cxd⟩ | with_reducible exact ⟨c2w, cxw⟩ | with_reducible exact ⟨c2a, cxa⟩)
        ((refine step_append_lies _ (by rfl) _ _ _ (by rfl) w.heap.size 5 i0 _ 1 1 Tryz.underlying31 hi hz0 hz1 hz2 rfl (by decide) (.slice ao k cap0) k (Lib.byteCells (rd A p k)) (by rfl) hr1 ⟨wr.heap.size, 0, none⟩ 1 1 [.int .u8 (x.toNat : Int)] (by rfl) (by rfl) (World.news_of_block (cs := #[.int .u8 (x.toNat : Int)]) (t := 5) (fr := (0, 0)) HA.out.1) (by simp [Value.oneCell']) (by omega) (by unfold maxLen; omega) (by omega) (by have := HA.out.2.size; exact this) (wr.heap.size + 1) hsa ?_; intro g cap w2 hown hg hat hlt; have c2w := (hg.cell_far ⟨bb, 2, none⟩ (by show bb < _; rw [hsa]; omega) HNE.out.1).trans c2a; have cxw := (hg.cell_far ⟨ga, o, none⟩ (by show ga < _; rw [hsa]; omega) HNE.out.2).trans cxa))
      all_goals
        have hB2 := HW.out
        have hown2 : w2.ownsRow w.heap.size 5 1 (.slice (some ⟨g, 0, none⟩) (k + 1) cap) (k + 1) (Lib.byteCells (rd A p (k + 1))) := by rw [HN.out]; exact hown
        have hb2 : Below w.heap.size w w2 := HA.out.2.grown hg HA.out.2.size (fun y hy => (HRW.out.lt y hy).1)
        have HO := Lib.hid (And.intro hown2 hb2)
        clear hown hown2 hb2 hg c2w cxw c2d cxd c2a cxa hr1 hB2
        go_wp2_with fail
        go_roundw
        case rel => exact ⟨k + 1, _, _, by omega, by go_num, rfl, HO.out.1, HO.out.2⟩
        case measure => simp [intOf]; omega
    · obtain rfl : k = n := by omega
      go_wp2
      go_ret
      exact ⟨_, rfl, hrow, hbel⟩
/-! ### what parse reads, in plain words -/
theorem lread_spec (l : List UInt8) (n : Nat) (h : n < 288230376151711744) : lread l n = ((256 ^ l.length * n + beV l : Nat) : Int) ∨ (lread l n = -1 ∧ 288230376151711744 ≤ 256 ^ l.length * n + beV l) := by
  induction l generalizing n with
  | nil => left; unfold lread beV; simp
  | cons b r ih =>
    have hb := UInt8.toNat_lt b
    have e : 256 ^ (b :: r).length * n + beV (b :: r) = 256 ^ r.length * (256 * n + b.toNat) + beV r := by
      rw [beV_cons, List.length_cons, Nat.pow_succ, Nat.mul_add]
      have : 256 ^ r.length * 256 * n = 256 ^ r.length * (256 * n) := Nat.mul_assoc _ _ _
      omega
    unfold lread
    by_cases hbig : 1125899906842624 ≤ n
    · right
      rw [if_pos hbig, e]
      refine ⟨rfl, ?_⟩
      have h1 : 1 ≤ 256 ^ r.length := Nat.one_le_pow _ _ (by decide)
      have h2 : 1 * (256 * n + b.toNat) ≤ 256 ^ r.length * (256 * n + b.toNat) := Nat.mul_le_mul_right _ h1
      omega
    · rw [if_neg hbig, e]
      exact ih _ (by omega)
theorem lread_low (l : List UInt8) (h : beV l < 288230376151711744) : lread l 0 = (beV l : Int) := by
  rcases lread_spec l 0 (by decide) with e | ⟨_, e⟩
  · rw [e, Nat.mul_zero, Nat.zero_add]
  · rw [Nat.mul_zero, Nat.zero_add] at e; omega
theorem lread_small (l : List UInt8) : isSmall (lread l 0) = decide (beV l < 281474976710656) := by
  unfold isSmall
  rcases lread_spec l 0 (by decide) with e | ⟨e, e2⟩
  · rw [e, Nat.mul_zero, Nat.zero_add, Bool.eq_iff_iff]
    simp
    omega
  · rw [Nat.mul_zero, Nat.zero_add] at e2
    rw [e, Bool.eq_iff_iff]
    simp
    omega
theorem isSmall_iff {x : Int} : isSmall x = true ↔ 0 ≤ x ∧ x < 281474976710656 := by
  unfold isSmall
  simp
def sg (L : List UInt8) (a n : Nat) : List UInt8 := (L.drop a).take n
def parseOk (x0 x1 x2 x3 : Int) (k n : Nat) : Bool := isSmall x0 && isSmall x1 && isSmall x2 && isSmall x3 && (x0.tmod 2 == (k : Int)) && decide (x2 ≤ x3) && decide (x3 ≤ x2 + (n : Int))
theorem parse_hd {L : List UInt8} (hg : hdGood L = true) (k n : Nat) :
    parseOk (lread (sg L 4 8) 0) (lread (sg L 12 8) 0) (lread (sg L 20 8) 0) (lread (sg L 28 8) 0) k n = (readHd L k n).2 ∧
      ((readHd L k n).2 = true → lread (sg L 4 8) 0 = ((readHd L k n).1.num : Int) ∧ lread (sg L 12 8) 0 = ((readHd L k n).1.first : Int) ∧ lread (sg L 20 8) 0 = ((readHd L k n).1.beg : Int) ∧ lread (sg L 28 8) 0 = ((readHd L k n).1.en : Int)) := by
  have f0 : (hdOf L).num = beV (sg L 4 8) := rfl
  have f1 : (hdOf L).first = beV (sg L 12 8) := rfl
  have f2 : (hdOf L).beg = beV (sg L 20 8) := rfl
  have f3 : (hdOf L).en = beV (sg L 28 8) := rfl
  by_cases hs : (hdOf L).small
  · obtain ⟨s0, s1, s2, s3⟩ := hs
    have hr : readHd L k n = (hdOf L, hdFits (hdOf L) k n) := by unfold readHd; rw [if_neg (by rw [hg]; decide), if_neg (fun h => h ⟨s0, s1, s2, s3⟩)]
    rw [f0] at s0
    rw [f1] at s1
    rw [f2] at s2
    rw [f3] at s3
    have l0 := lread_low (sg L 4 8) (by omega)
    have l1 := lread_low (sg L 12 8) (by omega)
    have l2 := lread_low (sg L 20 8) (by omega)
    have l3 := lread_low (sg L 28 8) (by omega)
    rw [hr]
    refine ⟨?_, fun _ => ⟨by rw [l0, f0], by rw [l1, f1], by rw [l2, f2], by rw [l3, f3]⟩⟩
    unfold parseOk
    rw [lread_small, lread_small, lread_small, lread_small, l0, l2, l3]
    simp only [s0, s1, s2, s3, decide_true, Bool.true_and]
    unfold hdFits
    rw [f0, f2, f3, show ((beV (sg L 4 8) : Int)).tmod 2 = ((beV (sg L 4 8) % 2 : Nat) : Int) from rfl]
    congr 1
    · congr 1
      · rw [Bool.eq_iff_iff, beq_iff_eq, beq_iff_eq]; omega
      · rw [decide_eq_decide]; omega
    · rw [decide_eq_decide]; omega
  · have hr : readHd L k n = (Hd.nil, false) := by unfold readHd; rw [if_neg (by rw [hg]; decide), if_pos hs]
    rw [hr]
    refine ⟨?_, fun h => by cases h⟩
    unfold parseOk
    rw [lread_small, lread_small, lread_small, lread_small]
    have : ¬ (beV (sg L 4 8) < 281474976710656 ∧ beV (sg L 12 8) < 281474976710656 ∧ beV (sg L 20 8) < 281474976710656 ∧ beV (sg L 28 8) < 281474976710656) := fun h => hs h
    by_cases a0 : beV (sg L 4 8) < 281474976710656
    · by_cases a1 : beV (sg L 12 8) < 281474976710656
      · by_cases a2 : beV (sg L 20 8) < 281474976710656
        · have a3 : ¬ beV (sg L 28 8) < 281474976710656 := fun a3 => this ⟨a0, a1, a2, a3⟩
          simp [a3]
        · simp [a2]
      · simp [a1]
    · simp [a0]
theorem Byts.below {w w' : World} {v : Value} {l : List UInt8} (h : Byts w v l) (hb : Below w.heap.size w w') : Byts w' v l := h.turn (F := []) (Turn.ofBelow hb (Nat.le_refl _)) (fun _ _ => by simp)
theorem B256.sub {w : World} {g : Nat} {l : List UInt8} (h : B256 w g l) (a n cap : Nat) (ha : a + n ≤ 256) : Byts w (.slice (some ⟨g, a, none⟩) n cap) (sg l a n) := by
  have hl : l.length = 256 := by obtain ⟨_, _, _, _, _, h⟩ := h; exact h
  have hn : (sg l a n).length = n := by unfold sg; rw [List.length_take, List.length_drop]; omega
  refine ⟨some ⟨g, a, none⟩, cap, by rw [hn], by omega, fun _ => ⟨g, a, rfl, h.lt, fun j hj => ?_⟩⟩
  rw [hn] at hj
  rw [h.cell (by omega)]
  unfold sg
  rw [List.getD_eq_getElem?_getD, List.getD_eq_getElem?_getD, List.getElem?_take_of_lt hj, List.getElem?_drop]
end Go.Proofs.YtfdnpchbbngpjaaGreat
namespace Go.Proofs.YtfdnpchbbngpjaaGreat
attribute [local go_sem ↓] Go.wp_at_zero Go.wp_at_succ
open Go.RowKit Go.Maps

def ParsePost (L : List UInt8) (k n : Nat) (w : World) (e : Ending) (w' : World) : Prop :=
  ∃ x0 x1 x2 x3 : Int, e = .returned (.tuple #[.agg #[.int .i64 x0, .int .i64 x1, .int .i64 x2, .int .i64 x3], .bool (readHd L k n).2]) ∧
    ((readHd L k n).2 = true → x0 = ((readHd L k n).1.num : Int) ∧ x1 = ((readHd L k n).1.first : Int) ∧ x2 = ((readHd L k n).1.beg : Int) ∧ x3 = ((readHd L k n).1.en : Int)) ∧ Below w.heap.size w w'
theorem keep4s {W : World} {p q : Nat} (h : p ≠ q) {v0 v1 v2 v3 : Value} (c0 : W.drew.cell? ⟨p, 0, none⟩ = some v0) (c1 : W.drew.cell? ⟨p, 1, none⟩ = some v1) (c2 : W.drew.cell? ⟨p, 2, none⟩ = some v2) (c3 : W.drew.cell? ⟨p, 3, none⟩ = some v3) (u0 u1 u2 u3 : Value) :
    ((((W.setCell ⟨q, 0, none⟩ u0).setCell ⟨q, 1, none⟩ u1).setCell ⟨q, 2, none⟩ u2).setCell ⟨q, 3, none⟩ u3).drew.cell? ⟨p, 0, none⟩ = some v0 ∧ ((((W.setCell ⟨q, 0, none⟩ u0).setCell ⟨q, 1, none⟩ u1).setCell ⟨q, 2, none⟩ u2).setCell ⟨q, 3, none⟩ u3).drew.cell? ⟨p, 1, none⟩ = some v1 ∧
      ((((W.setCell ⟨q, 0, none⟩ u0).setCell ⟨q, 1, none⟩ u1).setCell ⟨q, 2, none⟩ u2).setCell ⟨q, 3, none⟩ u3).drew.cell? ⟨p, 2, none⟩ = some v2 ∧ ((((W.setCell ⟨q, 0, none⟩ u0).setCell ⟨q, 1, none⟩ u1).setCell ⟨q, 2, none⟩ u2).setCell ⟨q, 3, none⟩ u3).drew.cell? ⟨p, 3, none⟩ = some v3 := by
  have hb : ((((W.setCell ⟨q, 0, none⟩ u0).setCell ⟨q, 1, none⟩ u1).setCell ⟨q, 2, none⟩ u2).setCell ⟨q, 3, none⟩ u3).drew.heap[p]? = W.drew.heap[p]? :=
    (Below.heap_setCell _ ⟨q, 3, none⟩ u3 p h).trans ((Below.heap_setCell _ ⟨q, 2, none⟩ u2 p h).trans ((Below.heap_setCell _ ⟨q, 1, none⟩ u1 p h).trans (Below.heap_setCell _ ⟨q, 0, none⟩ u0 p h)))
  exact ⟨(World.cell?_of_block (a := ⟨p, 0, none⟩) hb).trans c0, (World.cell?_of_block (a := ⟨p, 1, none⟩) hb).trans c1, (World.cell?_of_block (a := ⟨p, 2, none⟩) hb).trans c2, (World.cell?_of_block (a := ⟨p, 3, none⟩) hb).trans c3⟩
set_option maxRecDepth 100000 in
set_option maxHeartbeats 4000000 in
theorem parse_any (s : ByteArray) (hs : s.size = 256) (k n : Nat) (_hn : n ≤ 1048576) (w : World) :
    Calls Tryz.prog 56 #[.string s, .int .i64 (k : Int), .int .i64 (n : Int)] w (ParsePost s.data.toList k n w) := by
  obtain ⟨L, hL⟩ : ∃ L, s.data.toList = L := ⟨_, rfl⟩
  have e4 := magic_eq (s := s)
  obtain ⟨cap, W2, hcap, hconv, hB, hbel⟩ := conv_bytes (w.alloc (.cells #[.int .i64 0, .int .i64 0, .int .i64 0, .int .i64 0] 106)) s hs
  rw [hL] at e4 hB ⊢
  have b0 : Blk (w.alloc (.cells #[.int .i64 0, .int .i64 0, .int .i64 0, .int .i64 0] 106)) w.heap.size 106 #[.int .i64 0, .int .i64 0, .int .i64 0, .int .i64 0] := Blk.new _ _ _
  have b2 := b0.below hbel b0.lt
  have hbw : Below w.heap.size w W2 := ((Below.refl _ w).alloc (Nat.le_refl _) _).trans (hbel.mono (by simp))
  have HBY := Lib.hid (fun (a n cap : Nat) (ha : a + n ≤ 256) => hB.sub a n cap ha)
  have c0 := b2.cell 0
  have c1 := b2.cell 1
  have c2 := b2.cell 2
  have c3 := b2.cell 3
  have f0 := b2.frozen 0
  have f1 := b2.frozen 1
  have f2 := b2.frozen 2
  have f3 := b2.frozen 3
  simp at c0 c1 c2 c3
  have h1 : (w.alloc (.cells #[.int .i64 0, .int .i64 0, .int .i64 0, .int .i64 0] 106)).heap.size = w.heap.size + 1 := by simp
  rw [h1] at hconv HBY
  have i40 : (40 : Int) ≤ (cap : Int) := by omega
  have i36 : (36 : Int) ≤ (cap : Int) := by omega
  have i28 : (28 : Int) ≤ (cap : Int) := by omega
  have i20 : (20 : Int) ≤ (cap : Int) := by omega
  have i12 : (12 : Int) ≤ (cap : Int) := by omega
  have j36 : ¬ cap = 36 := by omega
  have j28 : ¬ cap = 28 := by omega
  have j20 : ¬ cap = 20 := by omega
  have j12 : ¬ cap = 12 := by omega
  have j4 : ¬ cap = 4 := by omega
  have j0 : ¬ cap = 0 := by omega
  unfold ParsePost
  by_cases hg4 : (L.take 4 == magicL) = true
  case' neg =>
    have hg4 : (L.take 4 == magicL) = false := by simpa using hg4
    rw [hg4] at e4
    have hrd : readHd L k n = (Hd.nil, false) := by unfold readHd hdGood; rw [hg4]; rfl
    rw [hrd]
  case neg =>
    go_enter Tryz.func56, Tryz.ntmps56
    go_wp2_with fail
    go_quiet (fail)
    go_wp2_with fail
    have hbF := ((((below_drewN (n := nq) hbw).setCell (p := ⟨w.heap.size, 0, none⟩) (Nat.le_refl _) (.int .i64 0)).setCell (p := ⟨w.heap.size, 1, none⟩) (Nat.le_refl _) (.int .i64 0)).setCell (p := ⟨w.heap.size, 2, none⟩) (Nat.le_refl _) (.int .i64 0)).setCell (p := ⟨w.heap.size, 3, none⟩) (Nat.le_refl _) (.int .i64 0)
    refine bodyPost_ret (v := .tuple #[.agg #[.int .i64 0, .int .i64 0, .int .i64 0, .int .i64 0], .bool false]) (by simp [results, Tryz.f56, go_sem, c0, c1, c2, c3]) rfl ⟨0, 0, 0, 0, rfl, fun h => (by cases h), hbF⟩
  case pos =>
    rw [hg4] at e4
    have hgd : hdGood L = (field L 36 4 == crc (L.take 36)) := by unfold hdGood; rw [hg4]; rfl
    have hLl : L.length = 256 := by obtain ⟨_, _, _, _, _, h⟩ := hB; exact h
    have hl36 := lread_low (sg L 36 4) (by have := beV_lt (sg L 36 4); have e : (sg L 36 4).length = 4 := by unfold sg; rw [List.length_take, List.length_drop]; omega
                                           rw [e] at this; omega)
    have e36 : field L 36 4 = beV (sg L 36 4) := rfl
    have e0 : sg L 0 36 = L.take 36 := rfl
    have HRD := Lib.hid (fun (w' : World) (hb : Below W2.heap.size W2 w') (a n' cap' : Nat) (ha : a + n' ≤ 256) => lread_any (Byts.below (HBY.out a n' cap' ha) hb))
    have HCR := Lib.hid (fun (w' : World) (hb : Below W2.heap.size W2 w') (a n' cap' : Nat) (ha : a + n' ≤ 256) => lcrc_any (Byts.below (HBY.out a n' cap' ha) hb) (by unfold sg; rw [List.length_take, List.length_drop]; omega))
    have hb : Below W2.heap.size W2 W2.drew := (Below.refl _ _).drew
    by_cases hcr : field L 36 4 = crc (L.take 36)
    case' neg =>
      have e5 : (lread (sg L 36 4) 0 != ((crc (sg L 0 36) : Nat) : Int)) = true := by rw [hl36, e0, bne_iff_ne]; rw [e36] at hcr; omega
      have hrd : readHd L k n = (Hd.nil, false) := by unfold readHd; rw [if_pos (by rw [hgd, beq_eq_false_iff_ne]; exact hcr)]
      rw [hrd]
    case' pos =>
      have e5 : (lread (sg L 36 4) 0 != ((crc (sg L 0 36) : Nat) : Int)) = false := by rw [hl36, e0, bne_eq_false_iff_eq]; rw [e36] at hcr; omega
      obtain ⟨hph1, hph2⟩ := parse_hd (L := L) (by rw [hgd, beq_iff_eq]; exact hcr) k n
      have HPH := Lib.hid (And.intro hph1 hph2)
      clear hph1 hph2
    all_goals
      clear hgd hl36 e36 e0 hcr
      go_enter Tryz.func56, Tryz.ntmps56
      go_wp2_with fail
      go_region_held3 (fun w' => Below W2.heap.size W2 w') (with_reducible exact hb)
        (first
          | (go_at_call 59; refine (HRD.out _ hb 36 4 (cap - 36) (show 36 + 4 ≤ 256 by decide)).mono ?_; rintro e w5 ⟨rfl, rfl⟩)
          | (go_at_call 60; refine (HCR.out _ hb 0 36 cap (show 0 + 36 ≤ 256 by decide)).mono ?_; rintro e w5 ⟨rfl, rfl⟩))
      go_wp2_with fail
    ·
      have b2' := b2.drew
      have hbw' := hbw.drew
      obtain ⟨W3, hW3⟩ : ∃ W3, W2.drew = W3 := ⟨_, rfl⟩
      rw [hW3] at b2' hbw' hb ⊢
      have hb2x := hb
      have HR3 := Lib.hid (fun (w' : World) (hb : Below W3.heap.size W3 w') (a n' cap' : Nat) (ha : a + n' ≤ 256) => lread_any (Byts.below (HBY.out a n' cap' ha) (hb2x.trans (hb.mono hb2x.size))))
      have hb : Below W3.heap.size W3 W3.drew := (Below.refl _ _).drew
      have hba : ∀ v0 v1 v2 v3 : Value, Below W3.heap.size W3 (W3.alloc (.cells #[v0, v1, v2, v3] 106)).drew := fun v0 v1 v2 v3 => ((Below.refl _ _).alloc (Nat.le_refl _) _).drew
      clear hW3 c0 c1 c2 c3 f0 f1 f2 f3 b2 hbw hb2x hB hbel hconv
      go_cut [9] (fun v w' => v = .pointer (some ⟨W3.heap.size, 0, none⟩) ∧ w' = (W3.alloc (.cells #[.int .i64 (lread (sg L 4 8) 0), .int .i64 (lread (sg L 12 8) 0), .int .i64 (lread (sg L 20 8) 0), .int .i64 (lread (sg L 28 8) 0)] 106)).drew)
      case first =>
        go_region_held3 (fun w' => Below W3.heap.size W3 w') (first | with_reducible exact hb | with_reducible exact hba _ _ _ _)
          ((go_at_call 59; refine Calls.mono (HR3.out _ ?hw _ _ _ ?hh) ?_; (case hw => first | with_reducible exact hb | with_reducible exact hba _ _ _ _); (case hh => decide); rintro e w5 ⟨rfl, rfl⟩))
        all_goals go_wp2_with fail
        all_goals go_meet
        all_goals exact ⟨rfl, rfl⟩
      obtain ⟨rfl, rfl⟩ := hcut
      --GEN--
      have b9 : Blk (W3.alloc (.cells #[.int .i64 (lread (sg L 4 8) 0), .int .i64 (lread (sg L 12 8) 0), .int .i64 (lread (sg L 20 8) 0), .int .i64 (lread (sg L 28 8) 0)] 106)).drew W3.heap.size 106 #[.int .i64 (lread (sg L 4 8) 0), .int .i64 (lread (sg L 12 8) 0), .int .i64 (lread (sg L 20 8) 0), .int .i64 (lread (sg L 28 8) 0)] := (Blk.new _ _ _).drew
      have b6 := (b2'.alloc (.cells #[.int .i64 (lread (sg L 4 8) 0), .int .i64 (lread (sg L 12 8) 0), .int .i64 (lread (sg L 20 8) 0), .int .i64 (lread (sg L 28 8) 0)] 106)).drew
      have hbw4 : Below w.heap.size w (W3.alloc (.cells #[.int .i64 (lread (sg L 4 8) 0), .int .i64 (lread (sg L 12 8) 0), .int .i64 (lread (sg L 20 8) 0), .int .i64 (lread (sg L 28 8) 0)] 106)).drew := (hbw'.alloc hbw'.size _).drew
      have hph1 := HPH.out.1
      have hph2 := HPH.out.2
      have hne : W3.heap.size ≠ w.heap.size := by have := b2'.lt; omega
      obtain ⟨x0, hx0⟩ : ∃ x, lread (sg L 4 8) 0 = x := ⟨_, rfl⟩
      obtain ⟨x1, hx1⟩ : ∃ x, lread (sg L 12 8) 0 = x := ⟨_, rfl⟩
      obtain ⟨x2, hx2⟩ : ∃ x, lread (sg L 20 8) 0 = x := ⟨_, rfl⟩
      obtain ⟨x3, hx3⟩ : ∃ x, lread (sg L 28 8) 0 = x := ⟨_, rfl⟩
      rw [hx0, hx1, hx2, hx3] at b9 b6 hbw4 hph1 hph2 ⊢
      obtain ⟨W4, hW4⟩ : ∃ W4, (W3.alloc (.cells #[.int .i64 x0, .int .i64 x1, .int .i64 x2, .int .i64 x3] 106)).drew = W4 := ⟨_, rfl⟩
      rw [hW4] at b9 b6 hbw4 ⊢
      obtain ⟨P9, hP9⟩ : ∃ P9, W3.heap.size = P9 := ⟨_, rfl⟩
      rw [hP9] at b9 hne ⊢
      have HPQ := Lib.hid hph2
      unfold parseOk at hph1
      obtain ⟨r0, hr0⟩ : ∃ r, x0.tmod 2 = r := ⟨_, rfl⟩
      rw [hr0] at hph1
      have c0 : W4.drew.cell? ⟨P9, 0, none⟩ = some (.int .i64 x0) := b9.cell 0
      have c1 : W4.drew.cell? ⟨P9, 1, none⟩ = some (.int .i64 x1) := b9.cell 1
      have c2 : W4.drew.cell? ⟨P9, 2, none⟩ = some (.int .i64 x2) := b9.cell 2
      have c3 : W4.drew.cell? ⟨P9, 3, none⟩ = some (.int .i64 x3) := b9.cell 3
      have r0d : W4.drew.cell? ⟨w.heap.size, 0, none⟩ = some (.int .i64 0) := b6.cell 0
      have r0c : W4.cell? ⟨w.heap.size, 0, none⟩ = some (.int .i64 0) := b6.cell 0
      have r1d : W4.drew.cell? ⟨w.heap.size, 1, none⟩ = some (.int .i64 0) := b6.cell 1
      have r1c : W4.cell? ⟨w.heap.size, 1, none⟩ = some (.int .i64 0) := b6.cell 1
      have r2d : W4.drew.cell? ⟨w.heap.size, 2, none⟩ = some (.int .i64 0) := b6.cell 2
      have r2c : W4.cell? ⟨w.heap.size, 2, none⟩ = some (.int .i64 0) := b6.cell 2
      have r3d : W4.drew.cell? ⟨w.heap.size, 3, none⟩ = some (.int .i64 0) := b6.cell 3
      have r3c : W4.cell? ⟨w.heap.size, 3, none⟩ = some (.int .i64 0) := b6.cell 3
      have f0 : W4.drew.frozen? ⟨w.heap.size, 0, none⟩ = false := b6.frozen 0
      have f0c : W4.frozen? ⟨w.heap.size, 0, none⟩ = false := b6.frozen 0
      have f1 : W4.drew.frozen? ⟨w.heap.size, 1, none⟩ = false := b6.frozen 1
      have f1c : W4.frozen? ⟨w.heap.size, 1, none⟩ = false := b6.frozen 1
      have f2 : W4.drew.frozen? ⟨w.heap.size, 2, none⟩ = false := b6.frozen 2
      have f2c : W4.frozen? ⟨w.heap.size, 2, none⟩ = false := b6.frozen 2
      have f3 : W4.drew.frozen? ⟨w.heap.size, 3, none⟩ = false := b6.frozen 3
      have f3c : W4.frozen? ⟨w.heap.size, 3, none⟩ = false := b6.frozen 3
      have hks := keep4s hne c0 c1 c2 c3 (.int .i64 x0) (.int .i64 x1) (.int .i64 x2) (.int .i64 x3)
      have hbF := ((((hbw4.setCell (p := ⟨w.heap.size, 0, none⟩) (Nat.le_refl _) (.int .i64 x0)).setCell (p := ⟨w.heap.size, 1, none⟩) (Nat.le_refl _) (.int .i64 x1)).setCell (p := ⟨w.heap.size, 2, none⟩) (Nat.le_refl _) (.int .i64 x2)).setCell (p := ⟨w.heap.size, 3, none⟩) (Nat.le_refl _) (.int .i64 x3)).drew
      clear hb hba HR3 HCR HRD HBY HPH hx0 hx1 hx2 hx3 hW4 hP9 b9 b6 hbw4 hph2 b2' hbw'
      go_wp2_with fail
      cases hs0 : isSmall x0 with
      | false =>
        have hfin : (readHd L k n).2 = false := by rw [← hph1]; simp [hs0]
        have HFIN := Lib.hid hfin
        have HS0 := Lib.hid (fun (w' : World) => (small_any x0 w'))
        rw [hs0] at HS0
        clear hph1 hfin
        refine startH (S := (fun w' => w'.cell? ⟨P9, 0, none⟩ = some (Value.int .i64 x0) ∧ w'.cell? ⟨P9, 1, none⟩ = some (Value.int .i64 x1) ∧ w'.cell? ⟨P9, 2, none⟩ = some (Value.int .i64 x2) ∧ w'.cell? ⟨P9, 3, none⟩ = some (Value.int .i64 x3))) 44 (by kernel_rfl) (by kernel_rfl) ⟨c0, c1, c2, c3⟩ (fun hHeld => ?_)
        simp only [List.replicate_succ, List.replicate_zero]
        refine takeH (i := 0) (v := .agg #[.int .i64 x0, .int .i64 x1, .int .i64 x2, .int .i64 x3]) rfl rfl (by kernel_rfl) (by kernel_rfl) (by kernel_rfl) (fun _ _ _ h => h) (Or.inl ⟨rfl, by intro w' hSw; generalize hE : Act.eval _ = ρ; have e9 : ρ (.tmp 9) = .pointer (some ⟨P9, 0, none⟩) := (by rw [← hE]; rfl); clear hE; go_simp⟩) hHeld ?_
        simp only [List.set_cons_zero, List.set_cons_succ]
        refine takeH (i := 1) (v := .pointer (some ⟨P9, 0, none⟩)) rfl rfl (by kernel_rfl) (by kernel_rfl) (by kernel_rfl) (fun _ _ _ h => h) (Or.inl ⟨rfl, by intro w' hSw; generalize hE : Act.eval _ = ρ; have e9 : ρ (.tmp 9) = .pointer (some ⟨P9, 0, none⟩) := (by rw [← hE]; rfl); clear hE; go_simp⟩) hHeld ?_
        simp only [List.set_cons_zero, List.set_cons_succ]
        refine takeH (i := 2) (v := .int .i64 x0) rfl rfl (by kernel_rfl) (by kernel_rfl) (by kernel_rfl) (fun _ _ _ h => h) (Or.inl ⟨rfl, by intro w' hSw; generalize hE : Act.eval _ = ρ; have e44 : ρ (.tmp 44) = .pointer (some ⟨P9, 0, none⟩) := (by rw [← hE]; rfl); clear hE; go_simp⟩) hHeld ?_
        simp only [List.set_cons_zero, List.set_cons_succ]
        refine wpAnyH_ready (rs := [3]) (by kernel_rfl) (by simp) ?_
        refine AllReadyH.cons (nthL_get rfl) (fun K hK => ?_) AllReadyH.nil
        go_simp
        refine (HS0.out _).mono ?_
        rintro e w5 ⟨rfl, rfl⟩
        refine hK.out _ _ ⟨c0, c1, c2, c3⟩ (fun hHeld => ?_)
        clear hK K
        simp only [List.setIfInBounds_toArray, List.set_cons_zero, List.set_cons_succ]
        refine takeH (i := 4) (v := .bool false) rfl rfl (by kernel_rfl) (by kernel_rfl) (by kernel_rfl) (fun _ _ _ h => h) (Or.inl ⟨rfl, fun _ _ => rfl⟩) hHeld ?_
        simp only [List.set_cons_zero, List.set_cons_succ]
        refine takeH (i := 5) (v := undef) rfl rfl (by kernel_rfl) (by kernel_rfl) (by kernel_rfl) (fun _ _ _ h => h) (Or.inr ⟨rfl, rfl⟩) hHeld ?_
        simp only [List.set_cons_zero, List.set_cons_succ]
        refine takeH (i := 6) (v := undef) rfl rfl (by kernel_rfl) (by kernel_rfl) (by kernel_rfl) (fun _ _ _ h => h) (Or.inr ⟨rfl, rfl⟩) hHeld ?_
        simp only [List.set_cons_zero, List.set_cons_succ]
        refine takeH (i := 7) (v := undef) rfl rfl (by kernel_rfl) (by kernel_rfl) (by kernel_rfl) (fun _ _ _ h => h) (Or.inr ⟨rfl, rfl⟩) hHeld ?_
        simp only [List.set_cons_zero, List.set_cons_succ]
        refine takeH (i := 8) (v := .bool false) rfl rfl (by kernel_rfl) (by kernel_rfl) (by kernel_rfl) (fun _ _ _ h => h) (Or.inl ⟨rfl, by intro w' hSw; generalize hE : Act.eval _ = ρ; have e47 : ρ (.tmp 47) = .bool false := (by rw [← hE]; rfl); have e50 : ρ (.tmp 50) = undef := (by rw [← hE]; rfl); have ec : ρ (.const (.bool false)) = .bool false := (by rw [← hE]; rfl); clear hE; go_simp⟩) hHeld ?_
        simp only [List.set_cons_zero, List.set_cons_succ]
        refine takeH (i := 9) (v := .bool false) rfl rfl (by kernel_rfl) (by kernel_rfl) (by kernel_rfl) (fun _ _ _ h => h) (Or.inl ⟨rfl, fun _ _ => rfl⟩) hHeld ?_
        simp only [List.set_cons_zero, List.set_cons_succ]
        refine takeH (i := 10) (v := undef) rfl rfl (by kernel_rfl) (by kernel_rfl) (by kernel_rfl) (fun _ _ _ h => h) (Or.inr ⟨rfl, rfl⟩) hHeld ?_
        simp only [List.set_cons_zero, List.set_cons_succ]
        refine takeH (i := 11) (v := undef) rfl rfl (by kernel_rfl) (by kernel_rfl) (by kernel_rfl) (fun _ _ _ h => h) (Or.inr ⟨rfl, rfl⟩) hHeld ?_
        simp only [List.set_cons_zero, List.set_cons_succ]
        refine takeH (i := 12) (v := undef) rfl rfl (by kernel_rfl) (by kernel_rfl) (by kernel_rfl) (fun _ _ _ h => h) (Or.inr ⟨rfl, rfl⟩) hHeld ?_
        simp only [List.set_cons_zero, List.set_cons_succ]
        refine takeH (i := 13) (v := .bool false) rfl rfl (by kernel_rfl) (by kernel_rfl) (by kernel_rfl) (fun _ _ _ h => h) (Or.inl ⟨rfl, by intro w' hSw; generalize hE : Act.eval _ = ρ; have e52 : ρ (.tmp 52) = .bool false := (by rw [← hE]; rfl); have e55 : ρ (.tmp 55) = undef := (by rw [← hE]; rfl); have ec : ρ (.const (.bool false)) = .bool false := (by rw [← hE]; rfl); clear hE; go_simp⟩) hHeld ?_
        simp only [List.set_cons_zero, List.set_cons_succ]
        refine takeH (i := 14) (v := .bool false) rfl rfl (by kernel_rfl) (by kernel_rfl) (by kernel_rfl) (fun _ _ _ h => h) (Or.inl ⟨rfl, fun _ _ => rfl⟩) hHeld ?_
        simp only [List.set_cons_zero, List.set_cons_succ]
        refine takeH (i := 15) (v := undef) rfl rfl (by kernel_rfl) (by kernel_rfl) (by kernel_rfl) (fun _ _ _ h => h) (Or.inr ⟨rfl, rfl⟩) hHeld ?_
        simp only [List.set_cons_zero, List.set_cons_succ]
        refine takeH (i := 16) (v := undef) rfl rfl (by kernel_rfl) (by kernel_rfl) (by kernel_rfl) (fun _ _ _ h => h) (Or.inr ⟨rfl, rfl⟩) hHeld ?_
        simp only [List.set_cons_zero, List.set_cons_succ]
        refine takeH (i := 17) (v := undef) rfl rfl (by kernel_rfl) (by kernel_rfl) (by kernel_rfl) (fun _ _ _ h => h) (Or.inr ⟨rfl, rfl⟩) hHeld ?_
        simp only [List.set_cons_zero, List.set_cons_succ]
        refine takeH (i := 18) (v := .bool false) rfl rfl (by kernel_rfl) (by kernel_rfl) (by kernel_rfl) (fun _ _ _ h => h) (Or.inl ⟨rfl, by intro w' hSw; generalize hE : Act.eval _ = ρ; have e57 : ρ (.tmp 57) = .bool false := (by rw [← hE]; rfl); have e60 : ρ (.tmp 60) = undef := (by rw [← hE]; rfl); have ec : ρ (.const (.bool false)) = .bool false := (by rw [← hE]; rfl); clear hE; go_simp⟩) hHeld ?_
        simp only [List.set_cons_zero, List.set_cons_succ]
        refine takeH (i := 19) (v := .bool false) rfl rfl (by kernel_rfl) (by kernel_rfl) (by kernel_rfl) (fun _ _ _ h => h) (Or.inl ⟨rfl, fun _ _ => rfl⟩) hHeld ?_
        simp only [List.set_cons_zero, List.set_cons_succ]
        refine takeH (i := 20) (v := undef) rfl rfl (by kernel_rfl) (by kernel_rfl) (by kernel_rfl) (fun _ _ _ h => h) (Or.inr ⟨rfl, rfl⟩) hHeld ?_
        simp only [List.set_cons_zero, List.set_cons_succ]
        refine takeH (i := 21) (v := undef) rfl rfl (by kernel_rfl) (by kernel_rfl) (by kernel_rfl) (fun _ _ _ h => h) (Or.inr ⟨rfl, rfl⟩) hHeld ?_
        simp only [List.set_cons_zero, List.set_cons_succ]
        refine takeH (i := 22) (v := undef) rfl rfl (by kernel_rfl) (by kernel_rfl) (by kernel_rfl) (fun _ _ _ h => h) (Or.inr ⟨rfl, rfl⟩) hHeld ?_
        simp only [List.set_cons_zero, List.set_cons_succ]
        refine takeH (i := 23) (v := undef) rfl rfl (by kernel_rfl) (by kernel_rfl) (by kernel_rfl) (fun _ _ _ h => h) (Or.inr ⟨rfl, rfl⟩) hHeld ?_
        simp only [List.set_cons_zero, List.set_cons_succ]
        refine takeH (i := 24) (v := undef) rfl rfl (by kernel_rfl) (by kernel_rfl) (by kernel_rfl) (fun _ _ _ h => h) (Or.inr ⟨rfl, rfl⟩) hHeld ?_
        simp only [List.set_cons_zero, List.set_cons_succ]
        refine takeH (i := 25) (v := .bool false) rfl rfl (by kernel_rfl) (by kernel_rfl) (by kernel_rfl) (fun _ _ _ h => h) (Or.inl ⟨rfl, by intro w' hSw; generalize hE : Act.eval _ = ρ; have e62 : ρ (.tmp 62) = .bool false := (by rw [← hE]; rfl); have e67 : ρ (.tmp 67) = undef := (by rw [← hE]; rfl); have ec : ρ (.const (.bool false)) = .bool false := (by rw [← hE]; rfl); clear hE; go_simp⟩) hHeld ?_
        simp only [List.set_cons_zero, List.set_cons_succ]
        refine takeH (i := 26) (v := .bool false) rfl rfl (by kernel_rfl) (by kernel_rfl) (by kernel_rfl) (fun _ _ _ h => h) (Or.inl ⟨rfl, fun _ _ => rfl⟩) hHeld ?_
        simp only [List.set_cons_zero, List.set_cons_succ]
        refine takeH (i := 27) (v := undef) rfl rfl (by kernel_rfl) (by kernel_rfl) (by kernel_rfl) (fun _ _ _ h => h) (Or.inr ⟨rfl, rfl⟩) hHeld ?_
        simp only [List.set_cons_zero, List.set_cons_succ]
        refine takeH (i := 28) (v := undef) rfl rfl (by kernel_rfl) (by kernel_rfl) (by kernel_rfl) (fun _ _ _ h => h) (Or.inr ⟨rfl, rfl⟩) hHeld ?_
        simp only [List.set_cons_zero, List.set_cons_succ]
        refine takeH (i := 29) (v := undef) rfl rfl (by kernel_rfl) (by kernel_rfl) (by kernel_rfl) (fun _ _ _ h => h) (Or.inr ⟨rfl, rfl⟩) hHeld ?_
        simp only [List.set_cons_zero, List.set_cons_succ]
        refine takeH (i := 30) (v := undef) rfl rfl (by kernel_rfl) (by kernel_rfl) (by kernel_rfl) (fun _ _ _ h => h) (Or.inr ⟨rfl, rfl⟩) hHeld ?_
        simp only [List.set_cons_zero, List.set_cons_succ]
        refine takeH (i := 31) (v := undef) rfl rfl (by kernel_rfl) (by kernel_rfl) (by kernel_rfl) (fun _ _ _ h => h) (Or.inr ⟨rfl, rfl⟩) hHeld ?_
        simp only [List.set_cons_zero, List.set_cons_succ]
        refine takeH (i := 32) (v := .bool false) rfl rfl (by kernel_rfl) (by kernel_rfl) (by kernel_rfl) (fun _ _ _ h => h) (Or.inl ⟨rfl, by intro w' hSw; generalize hE : Act.eval _ = ρ; have e69 : ρ (.tmp 69) = .bool false := (by rw [← hE]; rfl); have e74 : ρ (.tmp 74) = undef := (by rw [← hE]; rfl); have ec : ρ (.const (.bool false)) = .bool false := (by rw [← hE]; rfl); clear hE; go_simp⟩) hHeld ?_
        simp only [List.set_cons_zero, List.set_cons_succ]
        refine takeH (i := 33) (v := .bool false) rfl rfl (by kernel_rfl) (by kernel_rfl) (by kernel_rfl) (fun _ _ _ h => h) (Or.inl ⟨rfl, fun _ _ => rfl⟩) hHeld ?_
        simp only [List.set_cons_zero, List.set_cons_succ]
        refine takeH (i := 34) (v := undef) rfl rfl (by kernel_rfl) (by kernel_rfl) (by kernel_rfl) (fun _ _ _ h => h) (Or.inr ⟨rfl, rfl⟩) hHeld ?_
        simp only [List.set_cons_zero, List.set_cons_succ]
        refine takeH (i := 35) (v := undef) rfl rfl (by kernel_rfl) (by kernel_rfl) (by kernel_rfl) (fun _ _ _ h => h) (Or.inr ⟨rfl, rfl⟩) hHeld ?_
        simp only [List.set_cons_zero, List.set_cons_succ]
        refine takeH (i := 36) (v := undef) rfl rfl (by kernel_rfl) (by kernel_rfl) (by kernel_rfl) (fun _ _ _ h => h) (Or.inr ⟨rfl, rfl⟩) hHeld ?_
        simp only [List.set_cons_zero, List.set_cons_succ]
        refine takeH (i := 37) (v := undef) rfl rfl (by kernel_rfl) (by kernel_rfl) (by kernel_rfl) (fun _ _ _ h => h) (Or.inr ⟨rfl, rfl⟩) hHeld ?_
        simp only [List.set_cons_zero, List.set_cons_succ]
        refine takeH (i := 38) (v := undef) rfl rfl (by kernel_rfl) (by kernel_rfl) (by kernel_rfl) (fun _ _ _ h => h) (Or.inr ⟨rfl, rfl⟩) hHeld ?_
        simp only [List.set_cons_zero, List.set_cons_succ]
        refine takeH (i := 39) (v := undef) rfl rfl (by kernel_rfl) (by kernel_rfl) (by kernel_rfl) (fun _ _ _ h => h) (Or.inr ⟨rfl, rfl⟩) hHeld ?_
        simp only [List.set_cons_zero, List.set_cons_succ]
        refine takeH (i := 40) (v := undef) rfl rfl (by kernel_rfl) (by kernel_rfl) (by kernel_rfl) (fun _ _ _ h => h) (Or.inr ⟨rfl, rfl⟩) hHeld ?_
        simp only [List.set_cons_zero, List.set_cons_succ]
        refine takeH (i := 41) (v := .bool false) rfl rfl (by kernel_rfl) (by kernel_rfl) (by kernel_rfl) (fun _ _ _ h => h) (Or.inl ⟨rfl, by intro w' hSw; generalize hE : Act.eval _ = ρ; have e76 : ρ (.tmp 76) = .bool false := (by rw [← hE]; rfl); have e83 : ρ (.tmp 83) = undef := (by rw [← hE]; rfl); have ec : ρ (.const (.bool false)) = .bool false := (by rw [← hE]; rfl); clear hE; go_simp⟩) hHeld ?_
        simp only [List.set_cons_zero, List.set_cons_succ]
        refine wpAnyH_ready (rs := [42]) (by kernel_rfl) (by simp) ?_
        refine AllReadyH.cons (nthL_get rfl) (fun K hK => ?_) AllReadyH.nil
        go_simp
        refine hK.out _ _ ?_ (fun hHeld => ?_)
        · with_reducible exact hks
        clear hK K
        simp only [List.setIfInBounds_toArray, List.set_cons_zero, List.set_cons_succ]
        refine takeH (i := 43) (v := .bool false) rfl rfl (by kernel_rfl) (by kernel_rfl) (by kernel_rfl) (fun _ _ _ h => h) (Or.inl ⟨rfl, fun _ _ => rfl⟩) hHeld ?_
        simp only [List.set_cons_zero, List.set_cons_succ]
        refine wpAnyH_done (by kernel_rfl) ?_ _
        go_wp2_with fail
        refine bodyPost_ret (v := .tuple #[.agg #[.int .i64 x0, .int .i64 x1, .int .i64 x2, .int .i64 x3], .bool false]) (by simp [results, Tryz.f56, go_sem, r0c, r1c, r2c, r3c]) rfl ⟨x0, x1, x2, x3, by rw [HFIN.out], HPQ.out, hbF⟩
      | true =>
        cases hs1 : isSmall x1 with
        | false =>
          have hfin : (readHd L k n).2 = false := by rw [← hph1]; simp [hs0, hs1]
          have HFIN := Lib.hid hfin
          have HS0 := Lib.hid (fun (w' : World) => (small_any x0 w'))
          rw [hs0] at HS0
          have HS1 := Lib.hid (fun (w' : World) => (small_any x1 w'))
          rw [hs1] at HS1
          clear hph1 hfin
          refine startH (S := (fun w' => w'.cell? ⟨P9, 0, none⟩ = some (Value.int .i64 x0) ∧ w'.cell? ⟨P9, 1, none⟩ = some (Value.int .i64 x1) ∧ w'.cell? ⟨P9, 2, none⟩ = some (Value.int .i64 x2) ∧ w'.cell? ⟨P9, 3, none⟩ = some (Value.int .i64 x3))) 44 (by kernel_rfl) (by kernel_rfl) ⟨c0, c1, c2, c3⟩ (fun hHeld => ?_)
          simp only [List.replicate_succ, List.replicate_zero]
          refine takeH (i := 0) (v := .agg #[.int .i64 x0, .int .i64 x1, .int .i64 x2, .int .i64 x3]) rfl rfl (by kernel_rfl) (by kernel_rfl) (by kernel_rfl) (fun _ _ _ h => h) (Or.inl ⟨rfl, by intro w' hSw; generalize hE : Act.eval _ = ρ; have e9 : ρ (.tmp 9) = .pointer (some ⟨P9, 0, none⟩) := (by rw [← hE]; rfl); clear hE; go_simp⟩) hHeld ?_
          simp only [List.set_cons_zero, List.set_cons_succ]
          refine takeH (i := 1) (v := .pointer (some ⟨P9, 0, none⟩)) rfl rfl (by kernel_rfl) (by kernel_rfl) (by kernel_rfl) (fun _ _ _ h => h) (Or.inl ⟨rfl, by intro w' hSw; generalize hE : Act.eval _ = ρ; have e9 : ρ (.tmp 9) = .pointer (some ⟨P9, 0, none⟩) := (by rw [← hE]; rfl); clear hE; go_simp⟩) hHeld ?_
          simp only [List.set_cons_zero, List.set_cons_succ]
          refine takeH (i := 2) (v := .int .i64 x0) rfl rfl (by kernel_rfl) (by kernel_rfl) (by kernel_rfl) (fun _ _ _ h => h) (Or.inl ⟨rfl, by intro w' hSw; generalize hE : Act.eval _ = ρ; have e44 : ρ (.tmp 44) = .pointer (some ⟨P9, 0, none⟩) := (by rw [← hE]; rfl); clear hE; go_simp⟩) hHeld ?_
          simp only [List.set_cons_zero, List.set_cons_succ]
          refine wpAnyH_ready (rs := [3]) (by kernel_rfl) (by simp) ?_
          refine AllReadyH.cons (nthL_get rfl) (fun K hK => ?_) AllReadyH.nil
          go_simp
          refine (HS0.out _).mono ?_
          rintro e w5 ⟨rfl, rfl⟩
          refine hK.out _ _ ⟨c0, c1, c2, c3⟩ (fun hHeld => ?_)
          clear hK K
          simp only [List.setIfInBounds_toArray, List.set_cons_zero, List.set_cons_succ]
          refine takeH (i := 4) (v := .bool true) rfl rfl (by kernel_rfl) (by kernel_rfl) (by kernel_rfl) (fun _ _ _ h => h) (Or.inl ⟨rfl, fun _ _ => rfl⟩) hHeld ?_
          simp only [List.set_cons_zero, List.set_cons_succ]
          refine takeH (i := 5) (v := .pointer (some ⟨P9, 1, none⟩)) rfl rfl (by kernel_rfl) (by kernel_rfl) (by kernel_rfl) (fun _ _ _ h => h) (Or.inl ⟨rfl, by intro w' hSw; generalize hE : Act.eval _ = ρ; have e9 : ρ (.tmp 9) = .pointer (some ⟨P9, 0, none⟩) := (by rw [← hE]; rfl); clear hE; go_simp⟩) hHeld ?_
          simp only [List.set_cons_zero, List.set_cons_succ]
          refine takeH (i := 6) (v := .int .i64 x1) rfl rfl (by kernel_rfl) (by kernel_rfl) (by kernel_rfl) (fun _ _ _ h => h) (Or.inl ⟨rfl, by intro w' hSw; generalize hE : Act.eval _ = ρ; have e48 : ρ (.tmp 48) = .pointer (some ⟨P9, 1, none⟩) := (by rw [← hE]; rfl); clear hE; go_simp⟩) hHeld ?_
          simp only [List.set_cons_zero, List.set_cons_succ]
          refine wpAnyH_ready (rs := [7]) (by kernel_rfl) (by simp) ?_
          refine AllReadyH.cons (nthL_get rfl) (fun K hK => ?_) AllReadyH.nil
          go_simp
          refine (HS1.out _).mono ?_
          rintro e w5 ⟨rfl, rfl⟩
          refine hK.out _ _ ⟨c0, c1, c2, c3⟩ (fun hHeld => ?_)
          clear hK K
          simp only [List.setIfInBounds_toArray, List.set_cons_zero, List.set_cons_succ]
          refine takeH (i := 8) (v := .bool false) rfl rfl (by kernel_rfl) (by kernel_rfl) (by kernel_rfl) (fun _ _ _ h => h) (Or.inl ⟨rfl, by intro w' hSw; generalize hE : Act.eval _ = ρ; have e47 : ρ (.tmp 47) = .bool true := (by rw [← hE]; rfl); have e50 : ρ (.tmp 50) = .bool false := (by rw [← hE]; rfl); have ec : ρ (.const (.bool false)) = .bool false := (by rw [← hE]; rfl); clear hE; go_simp⟩) hHeld ?_
          simp only [List.set_cons_zero, List.set_cons_succ]
          refine takeH (i := 9) (v := .bool false) rfl rfl (by kernel_rfl) (by kernel_rfl) (by kernel_rfl) (fun _ _ _ h => h) (Or.inl ⟨rfl, fun _ _ => rfl⟩) hHeld ?_
          simp only [List.set_cons_zero, List.set_cons_succ]
          refine takeH (i := 10) (v := undef) rfl rfl (by kernel_rfl) (by kernel_rfl) (by kernel_rfl) (fun _ _ _ h => h) (Or.inr ⟨rfl, rfl⟩) hHeld ?_
          simp only [List.set_cons_zero, List.set_cons_succ]
          refine takeH (i := 11) (v := undef) rfl rfl (by kernel_rfl) (by kernel_rfl) (by kernel_rfl) (fun _ _ _ h => h) (Or.inr ⟨rfl, rfl⟩) hHeld ?_
          simp only [List.set_cons_zero, List.set_cons_succ]
          refine takeH (i := 12) (v := undef) rfl rfl (by kernel_rfl) (by kernel_rfl) (by kernel_rfl) (fun _ _ _ h => h) (Or.inr ⟨rfl, rfl⟩) hHeld ?_
          simp only [List.set_cons_zero, List.set_cons_succ]
          refine takeH (i := 13) (v := .bool false) rfl rfl (by kernel_rfl) (by kernel_rfl) (by kernel_rfl) (fun _ _ _ h => h) (Or.inl ⟨rfl, by intro w' hSw; generalize hE : Act.eval _ = ρ; have e52 : ρ (.tmp 52) = .bool false := (by rw [← hE]; rfl); have e55 : ρ (.tmp 55) = undef := (by rw [← hE]; rfl); have ec : ρ (.const (.bool false)) = .bool false := (by rw [← hE]; rfl); clear hE; go_simp⟩) hHeld ?_
          simp only [List.set_cons_zero, List.set_cons_succ]
          refine takeH (i := 14) (v := .bool false) rfl rfl (by kernel_rfl) (by kernel_rfl) (by kernel_rfl) (fun _ _ _ h => h) (Or.inl ⟨rfl, fun _ _ => rfl⟩) hHeld ?_
          simp only [List.set_cons_zero, List.set_cons_succ]
          refine takeH (i := 15) (v := undef) rfl rfl (by kernel_rfl) (by kernel_rfl) (by kernel_rfl) (fun _ _ _ h => h) (Or.inr ⟨rfl, rfl⟩) hHeld ?_
          simp only [List.set_cons_zero, List.set_cons_succ]
          refine takeH (i := 16) (v := undef) rfl rfl (by kernel_rfl) (by kernel_rfl) (by kernel_rfl) (fun _ _ _ h => h) (Or.inr ⟨rfl, rfl⟩) hHeld ?_
          simp only [List.set_cons_zero, List.set_cons_succ]
          refine takeH (i := 17) (v := undef) rfl rfl (by kernel_rfl) (by kernel_rfl) (by kernel_rfl) (fun _ _ _ h => h) (Or.inr ⟨rfl, rfl⟩) hHeld ?_
          simp only [List.set_cons_zero, List.set_cons_succ]
          refine takeH (i := 18) (v := .bool false) rfl rfl (by kernel_rfl) (by kernel_rfl) (by kernel_rfl) (fun _ _ _ h => h) (Or.inl ⟨rfl, by intro w' hSw; generalize hE : Act.eval _ = ρ; have e57 : ρ (.tmp 57) = .bool false := (by rw [← hE]; rfl); have e60 : ρ (.tmp 60) = undef := (by rw [← hE]; rfl); have ec : ρ (.const (.bool false)) = .bool false := (by rw [← hE]; rfl); clear hE; go_simp⟩) hHeld ?_
          simp only [List.set_cons_zero, List.set_cons_succ]
          refine takeH (i := 19) (v := .bool false) rfl rfl (by kernel_rfl) (by kernel_rfl) (by kernel_rfl) (fun _ _ _ h => h) (Or.inl ⟨rfl, fun _ _ => rfl⟩) hHeld ?_
          simp only [List.set_cons_zero, List.set_cons_succ]
          refine takeH (i := 20) (v := undef) rfl rfl (by kernel_rfl) (by kernel_rfl) (by kernel_rfl) (fun _ _ _ h => h) (Or.inr ⟨rfl, rfl⟩) hHeld ?_
          simp only [List.set_cons_zero, List.set_cons_succ]
          refine takeH (i := 21) (v := undef) rfl rfl (by kernel_rfl) (by kernel_rfl) (by kernel_rfl) (fun _ _ _ h => h) (Or.inr ⟨rfl, rfl⟩) hHeld ?_
          simp only [List.set_cons_zero, List.set_cons_succ]
          refine takeH (i := 22) (v := undef) rfl rfl (by kernel_rfl) (by kernel_rfl) (by kernel_rfl) (fun _ _ _ h => h) (Or.inr ⟨rfl, rfl⟩) hHeld ?_
          simp only [List.set_cons_zero, List.set_cons_succ]
          refine takeH (i := 23) (v := undef) rfl rfl (by kernel_rfl) (by kernel_rfl) (by kernel_rfl) (fun _ _ _ h => h) (Or.inr ⟨rfl, rfl⟩) hHeld ?_
          simp only [List.set_cons_zero, List.set_cons_succ]
          refine takeH (i := 24) (v := undef) rfl rfl (by kernel_rfl) (by kernel_rfl) (by kernel_rfl) (fun _ _ _ h => h) (Or.inr ⟨rfl, rfl⟩) hHeld ?_
          simp only [List.set_cons_zero, List.set_cons_succ]
          refine takeH (i := 25) (v := .bool false) rfl rfl (by kernel_rfl) (by kernel_rfl) (by kernel_rfl) (fun _ _ _ h => h) (Or.inl ⟨rfl, by intro w' hSw; generalize hE : Act.eval _ = ρ; have e62 : ρ (.tmp 62) = .bool false := (by rw [← hE]; rfl); have e67 : ρ (.tmp 67) = undef := (by rw [← hE]; rfl); have ec : ρ (.const (.bool false)) = .bool false := (by rw [← hE]; rfl); clear hE; go_simp⟩) hHeld ?_
          simp only [List.set_cons_zero, List.set_cons_succ]
          refine takeH (i := 26) (v := .bool false) rfl rfl (by kernel_rfl) (by kernel_rfl) (by kernel_rfl) (fun _ _ _ h => h) (Or.inl ⟨rfl, fun _ _ => rfl⟩) hHeld ?_
          simp only [List.set_cons_zero, List.set_cons_succ]
          refine takeH (i := 27) (v := undef) rfl rfl (by kernel_rfl) (by kernel_rfl) (by kernel_rfl) (fun _ _ _ h => h) (Or.inr ⟨rfl, rfl⟩) hHeld ?_
          simp only [List.set_cons_zero, List.set_cons_succ]
          refine takeH (i := 28) (v := undef) rfl rfl (by kernel_rfl) (by kernel_rfl) (by kernel_rfl) (fun _ _ _ h => h) (Or.inr ⟨rfl, rfl⟩) hHeld ?_
          simp only [List.set_cons_zero, List.set_cons_succ]
          refine takeH (i := 29) (v := undef) rfl rfl (by kernel_rfl) (by kernel_rfl) (by kernel_rfl) (fun _ _ _ h => h) (Or.inr ⟨rfl, rfl⟩) hHeld ?_
          simp only [List.set_cons_zero, List.set_cons_succ]
          refine takeH (i := 30) (v := undef) rfl rfl (by kernel_rfl) (by kernel_rfl) (by kernel_rfl) (fun _ _ _ h => h) (Or.inr ⟨rfl, rfl⟩) hHeld ?_
          simp only [List.set_cons_zero, List.set_cons_succ]
          refine takeH (i := 31) (v := undef) rfl rfl (by kernel_rfl) (by kernel_rfl) (by kernel_rfl) (fun _ _ _ h => h) (Or.inr ⟨rfl, rfl⟩) hHeld ?_
          simp only [List.set_cons_zero, List.set_cons_succ]
          refine takeH (i := 32) (v := .bool false) rfl rfl (by kernel_rfl) (by kernel_rfl) (by kernel_rfl) (fun _ _ _ h => h) (Or.inl ⟨rfl, by intro w' hSw; generalize hE : Act.eval _ = ρ; have e69 : ρ (.tmp 69) = .bool false := (by rw [← hE]; rfl); have e74 : ρ (.tmp 74) = undef := (by rw [← hE]; rfl); have ec : ρ (.const (.bool false)) = .bool false := (by rw [← hE]; rfl); clear hE; go_simp⟩) hHeld ?_
          simp only [List.set_cons_zero, List.set_cons_succ]
          refine takeH (i := 33) (v := .bool false) rfl rfl (by kernel_rfl) (by kernel_rfl) (by kernel_rfl) (fun _ _ _ h => h) (Or.inl ⟨rfl, fun _ _ => rfl⟩) hHeld ?_
          simp only [List.set_cons_zero, List.set_cons_succ]
          refine takeH (i := 34) (v := undef) rfl rfl (by kernel_rfl) (by kernel_rfl) (by kernel_rfl) (fun _ _ _ h => h) (Or.inr ⟨rfl, rfl⟩) hHeld ?_
          simp only [List.set_cons_zero, List.set_cons_succ]
          refine takeH (i := 35) (v := undef) rfl rfl (by kernel_rfl) (by kernel_rfl) (by kernel_rfl) (fun _ _ _ h => h) (Or.inr ⟨rfl, rfl⟩) hHeld ?_
          simp only [List.set_cons_zero, List.set_cons_succ]
          refine takeH (i := 36) (v := undef) rfl rfl (by kernel_rfl) (by kernel_rfl) (by kernel_rfl) (fun _ _ _ h => h) (Or.inr ⟨rfl, rfl⟩) hHeld ?_
          simp only [List.set_cons_zero, List.set_cons_succ]
          refine takeH (i := 37) (v := undef) rfl rfl (by kernel_rfl) (by kernel_rfl) (by kernel_rfl) (fun _ _ _ h => h) (Or.inr ⟨rfl, rfl⟩) hHeld ?_
          simp only [List.set_cons_zero, List.set_cons_succ]
          refine takeH (i := 38) (v := undef) rfl rfl (by kernel_rfl) (by kernel_rfl) (by kernel_rfl) (fun _ _ _ h => h) (Or.inr ⟨rfl, rfl⟩) hHeld ?_
          simp only [List.set_cons_zero, List.set_cons_succ]
          refine takeH (i := 39) (v := undef) rfl rfl (by kernel_rfl) (by kernel_rfl) (by kernel_rfl) (fun _ _ _ h => h) (Or.inr ⟨rfl, rfl⟩) hHeld ?_
          simp only [List.set_cons_zero, List.set_cons_succ]
          refine takeH (i := 40) (v := undef) rfl rfl (by kernel_rfl) (by kernel_rfl) (by kernel_rfl) (fun _ _ _ h => h) (Or.inr ⟨rfl, rfl⟩) hHeld ?_
          simp only [List.set_cons_zero, List.set_cons_succ]
          refine takeH (i := 41) (v := .bool false) rfl rfl (by kernel_rfl) (by kernel_rfl) (by kernel_rfl) (fun _ _ _ h => h) (Or.inl ⟨rfl, by intro w' hSw; generalize hE : Act.eval _ = ρ; have e76 : ρ (.tmp 76) = .bool false := (by rw [← hE]; rfl); have e83 : ρ (.tmp 83) = undef := (by rw [← hE]; rfl); have ec : ρ (.const (.bool false)) = .bool false := (by rw [← hE]; rfl); clear hE; go_simp⟩) hHeld ?_
          simp only [List.set_cons_zero, List.set_cons_succ]
          refine wpAnyH_ready (rs := [42]) (by kernel_rfl) (by simp) ?_
          refine AllReadyH.cons (nthL_get rfl) (fun K hK => ?_) AllReadyH.nil
          go_simp
          refine hK.out _ _ ?_ (fun hHeld => ?_)
          · with_reducible exact hks
          clear hK K
          simp only [List.setIfInBounds_toArray, List.set_cons_zero, List.set_cons_succ]
          refine takeH (i := 43) (v := .bool false) rfl rfl (by kernel_rfl) (by kernel_rfl) (by kernel_rfl) (fun _ _ _ h => h) (Or.inl ⟨rfl, fun _ _ => rfl⟩) hHeld ?_
          simp only [List.set_cons_zero, List.set_cons_succ]
          refine wpAnyH_done (by kernel_rfl) ?_ _
          go_wp2_with fail
          refine bodyPost_ret (v := .tuple #[.agg #[.int .i64 x0, .int .i64 x1, .int .i64 x2, .int .i64 x3], .bool false]) (by simp [results, Tryz.f56, go_sem, r0c, r1c, r2c, r3c]) rfl ⟨x0, x1, x2, x3, by rw [HFIN.out], HPQ.out, hbF⟩
        | true =>
          cases hs2 : isSmall x2 with
          | false =>
            have hfin : (readHd L k n).2 = false := by rw [← hph1]; simp [hs0, hs1, hs2]
            have HFIN := Lib.hid hfin
            have HS0 := Lib.hid (fun (w' : World) => (small_any x0 w'))
            rw [hs0] at HS0
            have HS1 := Lib.hid (fun (w' : World) => (small_any x1 w'))
            rw [hs1] at HS1
            have HS2 := Lib.hid (fun (w' : World) => (small_any x2 w'))
            rw [hs2] at HS2
            clear hph1 hfin
            refine startH (S := (fun w' => w'.cell? ⟨P9, 0, none⟩ = some (Value.int .i64 x0) ∧ w'.cell? ⟨P9, 1, none⟩ = some (Value.int .i64 x1) ∧ w'.cell? ⟨P9, 2, none⟩ = some (Value.int .i64 x2) ∧ w'.cell? ⟨P9, 3, none⟩ = some (Value.int .i64 x3))) 44 (by kernel_rfl) (by kernel_rfl) ⟨c0, c1, c2, c3⟩ (fun hHeld => ?_)
            simp only [List.replicate_succ, List.replicate_zero]
            refine takeH (i := 0) (v := .agg #[.int .i64 x0, .int .i64 x1, .int .i64 x2, .int .i64 x3]) rfl rfl (by kernel_rfl) (by kernel_rfl) (by kernel_rfl) (fun _ _ _ h => h) (Or.inl ⟨rfl, by intro w' hSw; generalize hE : Act.eval _ = ρ; have e9 : ρ (.tmp 9) = .pointer (some ⟨P9, 0, none⟩) := (by rw [← hE]; rfl); clear hE; go_simp⟩) hHeld ?_
            simp only [List.set_cons_zero, List.set_cons_succ]
            refine takeH (i := 1) (v := .pointer (some ⟨P9, 0, none⟩)) rfl rfl (by kernel_rfl) (by kernel_rfl) (by kernel_rfl) (fun _ _ _ h => h) (Or.inl ⟨rfl, by intro w' hSw; generalize hE : Act.eval _ = ρ; have e9 : ρ (.tmp 9) = .pointer (some ⟨P9, 0, none⟩) := (by rw [← hE]; rfl); clear hE; go_simp⟩) hHeld ?_
            simp only [List.set_cons_zero, List.set_cons_succ]
            refine takeH (i := 2) (v := .int .i64 x0) rfl rfl (by kernel_rfl) (by kernel_rfl) (by kernel_rfl) (fun _ _ _ h => h) (Or.inl ⟨rfl, by intro w' hSw; generalize hE : Act.eval _ = ρ; have e44 : ρ (.tmp 44) = .pointer (some ⟨P9, 0, none⟩) := (by rw [← hE]; rfl); clear hE; go_simp⟩) hHeld ?_
            simp only [List.set_cons_zero, List.set_cons_succ]
            refine wpAnyH_ready (rs := [3]) (by kernel_rfl) (by simp) ?_
            refine AllReadyH.cons (nthL_get rfl) (fun K hK => ?_) AllReadyH.nil
            go_simp
            refine (HS0.out _).mono ?_
            rintro e w5 ⟨rfl, rfl⟩
            refine hK.out _ _ ⟨c0, c1, c2, c3⟩ (fun hHeld => ?_)
            clear hK K
            simp only [List.setIfInBounds_toArray, List.set_cons_zero, List.set_cons_succ]
            refine takeH (i := 4) (v := .bool true) rfl rfl (by kernel_rfl) (by kernel_rfl) (by kernel_rfl) (fun _ _ _ h => h) (Or.inl ⟨rfl, fun _ _ => rfl⟩) hHeld ?_
            simp only [List.set_cons_zero, List.set_cons_succ]
            refine takeH (i := 5) (v := .pointer (some ⟨P9, 1, none⟩)) rfl rfl (by kernel_rfl) (by kernel_rfl) (by kernel_rfl) (fun _ _ _ h => h) (Or.inl ⟨rfl, by intro w' hSw; generalize hE : Act.eval _ = ρ; have e9 : ρ (.tmp 9) = .pointer (some ⟨P9, 0, none⟩) := (by rw [← hE]; rfl); clear hE; go_simp⟩) hHeld ?_
            simp only [List.set_cons_zero, List.set_cons_succ]
            refine takeH (i := 6) (v := .int .i64 x1) rfl rfl (by kernel_rfl) (by kernel_rfl) (by kernel_rfl) (fun _ _ _ h => h) (Or.inl ⟨rfl, by intro w' hSw; generalize hE : Act.eval _ = ρ; have e48 : ρ (.tmp 48) = .pointer (some ⟨P9, 1, none⟩) := (by rw [← hE]; rfl); clear hE; go_simp⟩) hHeld ?_
            simp only [List.set_cons_zero, List.set_cons_succ]
            refine wpAnyH_ready (rs := [7]) (by kernel_rfl) (by simp) ?_
            refine AllReadyH.cons (nthL_get rfl) (fun K hK => ?_) AllReadyH.nil
            go_simp
            refine (HS1.out _).mono ?_
            rintro e w5 ⟨rfl, rfl⟩
            refine hK.out _ _ ⟨c0, c1, c2, c3⟩ (fun hHeld => ?_)
            clear hK K
            simp only [List.setIfInBounds_toArray, List.set_cons_zero, List.set_cons_succ]
            refine takeH (i := 8) (v := .bool true) rfl rfl (by kernel_rfl) (by kernel_rfl) (by kernel_rfl) (fun _ _ _ h => h) (Or.inl ⟨rfl, by intro w' hSw; generalize hE : Act.eval _ = ρ; have e47 : ρ (.tmp 47) = .bool true := (by rw [← hE]; rfl); have e50 : ρ (.tmp 50) = .bool true := (by rw [← hE]; rfl); have ec : ρ (.const (.bool false)) = .bool false := (by rw [← hE]; rfl); clear hE; go_simp⟩) hHeld ?_
            simp only [List.set_cons_zero, List.set_cons_succ]
            refine takeH (i := 9) (v := .bool true) rfl rfl (by kernel_rfl) (by kernel_rfl) (by kernel_rfl) (fun _ _ _ h => h) (Or.inl ⟨rfl, fun _ _ => rfl⟩) hHeld ?_
            simp only [List.set_cons_zero, List.set_cons_succ]
            refine takeH (i := 10) (v := .pointer (some ⟨P9, 2, none⟩)) rfl rfl (by kernel_rfl) (by kernel_rfl) (by kernel_rfl) (fun _ _ _ h => h) (Or.inl ⟨rfl, by intro w' hSw; generalize hE : Act.eval _ = ρ; have e9 : ρ (.tmp 9) = .pointer (some ⟨P9, 0, none⟩) := (by rw [← hE]; rfl); clear hE; go_simp⟩) hHeld ?_
            simp only [List.set_cons_zero, List.set_cons_succ]
            refine takeH (i := 11) (v := .int .i64 x2) rfl rfl (by kernel_rfl) (by kernel_rfl) (by kernel_rfl) (fun _ _ _ h => h) (Or.inl ⟨rfl, by intro w' hSw; generalize hE : Act.eval _ = ρ; have e53 : ρ (.tmp 53) = .pointer (some ⟨P9, 2, none⟩) := (by rw [← hE]; rfl); clear hE; go_simp⟩) hHeld ?_
            simp only [List.set_cons_zero, List.set_cons_succ]
            refine wpAnyH_ready (rs := [12]) (by kernel_rfl) (by simp) ?_
            refine AllReadyH.cons (nthL_get rfl) (fun K hK => ?_) AllReadyH.nil
            go_simp
            refine (HS2.out _).mono ?_
            rintro e w5 ⟨rfl, rfl⟩
            refine hK.out _ _ ⟨c0, c1, c2, c3⟩ (fun hHeld => ?_)
            clear hK K
            simp only [List.setIfInBounds_toArray, List.set_cons_zero, List.set_cons_succ]
            refine takeH (i := 13) (v := .bool false) rfl rfl (by kernel_rfl) (by kernel_rfl) (by kernel_rfl) (fun _ _ _ h => h) (Or.inl ⟨rfl, by intro w' hSw; generalize hE : Act.eval _ = ρ; have e52 : ρ (.tmp 52) = .bool true := (by rw [← hE]; rfl); have e55 : ρ (.tmp 55) = .bool false := (by rw [← hE]; rfl); have ec : ρ (.const (.bool false)) = .bool false := (by rw [← hE]; rfl); clear hE; go_simp⟩) hHeld ?_
            simp only [List.set_cons_zero, List.set_cons_succ]
            refine takeH (i := 14) (v := .bool false) rfl rfl (by kernel_rfl) (by kernel_rfl) (by kernel_rfl) (fun _ _ _ h => h) (Or.inl ⟨rfl, fun _ _ => rfl⟩) hHeld ?_
            simp only [List.set_cons_zero, List.set_cons_succ]
            refine takeH (i := 15) (v := undef) rfl rfl (by kernel_rfl) (by kernel_rfl) (by kernel_rfl) (fun _ _ _ h => h) (Or.inr ⟨rfl, rfl⟩) hHeld ?_
            simp only [List.set_cons_zero, List.set_cons_succ]
            refine takeH (i := 16) (v := undef) rfl rfl (by kernel_rfl) (by kernel_rfl) (by kernel_rfl) (fun _ _ _ h => h) (Or.inr ⟨rfl, rfl⟩) hHeld ?_
            simp only [List.set_cons_zero, List.set_cons_succ]
            refine takeH (i := 17) (v := undef) rfl rfl (by kernel_rfl) (by kernel_rfl) (by kernel_rfl) (fun _ _ _ h => h) (Or.inr ⟨rfl, rfl⟩) hHeld ?_
            simp only [List.set_cons_zero, List.set_cons_succ]
            refine takeH (i := 18) (v := .bool false) rfl rfl (by kernel_rfl) (by kernel_rfl) (by kernel_rfl) (fun _ _ _ h => h) (Or.inl ⟨rfl, by intro w' hSw; generalize hE : Act.eval _ = ρ; have e57 : ρ (.tmp 57) = .bool false := (by rw [← hE]; rfl); have e60 : ρ (.tmp 60) = undef := (by rw [← hE]; rfl); have ec : ρ (.const (.bool false)) = .bool false := (by rw [← hE]; rfl); clear hE; go_simp⟩) hHeld ?_
            simp only [List.set_cons_zero, List.set_cons_succ]
            refine takeH (i := 19) (v := .bool false) rfl rfl (by kernel_rfl) (by kernel_rfl) (by kernel_rfl) (fun _ _ _ h => h) (Or.inl ⟨rfl, fun _ _ => rfl⟩) hHeld ?_
            simp only [List.set_cons_zero, List.set_cons_succ]
            refine takeH (i := 20) (v := undef) rfl rfl (by kernel_rfl) (by kernel_rfl) (by kernel_rfl) (fun _ _ _ h => h) (Or.inr ⟨rfl, rfl⟩) hHeld ?_
            simp only [List.set_cons_zero, List.set_cons_succ]
            refine takeH (i := 21) (v := undef) rfl rfl (by kernel_rfl) (by kernel_rfl) (by kernel_rfl) (fun _ _ _ h => h) (Or.inr ⟨rfl, rfl⟩) hHeld ?_
            simp only [List.set_cons_zero, List.set_cons_succ]
            refine takeH (i := 22) (v := undef) rfl rfl (by kernel_rfl) (by kernel_rfl) (by kernel_rfl) (fun _ _ _ h => h) (Or.inr ⟨rfl, rfl⟩) hHeld ?_
            simp only [List.set_cons_zero, List.set_cons_succ]
            refine takeH (i := 23) (v := undef) rfl rfl (by kernel_rfl) (by kernel_rfl) (by kernel_rfl) (fun _ _ _ h => h) (Or.inr ⟨rfl, rfl⟩) hHeld ?_
            simp only [List.set_cons_zero, List.set_cons_succ]
            refine takeH (i := 24) (v := undef) rfl rfl (by kernel_rfl) (by kernel_rfl) (by kernel_rfl) (fun _ _ _ h => h) (Or.inr ⟨rfl, rfl⟩) hHeld ?_
            simp only [List.set_cons_zero, List.set_cons_succ]
            refine takeH (i := 25) (v := .bool false) rfl rfl (by kernel_rfl) (by kernel_rfl) (by kernel_rfl) (fun _ _ _ h => h) (Or.inl ⟨rfl, by intro w' hSw; generalize hE : Act.eval _ = ρ; have e62 : ρ (.tmp 62) = .bool false := (by rw [← hE]; rfl); have e67 : ρ (.tmp 67) = undef := (by rw [← hE]; rfl); have ec : ρ (.const (.bool false)) = .bool false := (by rw [← hE]; rfl); clear hE; go_simp⟩) hHeld ?_
            simp only [List.set_cons_zero, List.set_cons_succ]
            refine takeH (i := 26) (v := .bool false) rfl rfl (by kernel_rfl) (by kernel_rfl) (by kernel_rfl) (fun _ _ _ h => h) (Or.inl ⟨rfl, fun _ _ => rfl⟩) hHeld ?_
            simp only [List.set_cons_zero, List.set_cons_succ]
            refine takeH (i := 27) (v := undef) rfl rfl (by kernel_rfl) (by kernel_rfl) (by kernel_rfl) (fun _ _ _ h => h) (Or.inr ⟨rfl, rfl⟩) hHeld ?_
            simp only [List.set_cons_zero, List.set_cons_succ]
            refine takeH (i := 28) (v := undef) rfl rfl (by kernel_rfl) (by kernel_rfl) (by kernel_rfl) (fun _ _ _ h => h) (Or.inr ⟨rfl, rfl⟩) hHeld ?_
            simp only [List.set_cons_zero, List.set_cons_succ]
            refine takeH (i := 29) (v := undef) rfl rfl (by kernel_rfl) (by kernel_rfl) (by kernel_rfl) (fun _ _ _ h => h) (Or.inr ⟨rfl, rfl⟩) hHeld ?_
            simp only [List.set_cons_zero, List.set_cons_succ]
            refine takeH (i := 30) (v := undef) rfl rfl (by kernel_rfl) (by kernel_rfl) (by kernel_rfl) (fun _ _ _ h => h) (Or.inr ⟨rfl, rfl⟩) hHeld ?_
            simp only [List.set_cons_zero, List.set_cons_succ]
            refine takeH (i := 31) (v := undef) rfl rfl (by kernel_rfl) (by kernel_rfl) (by kernel_rfl) (fun _ _ _ h => h) (Or.inr ⟨rfl, rfl⟩) hHeld ?_
            simp only [List.set_cons_zero, List.set_cons_succ]
            refine takeH (i := 32) (v := .bool false) rfl rfl (by kernel_rfl) (by kernel_rfl) (by kernel_rfl) (fun _ _ _ h => h) (Or.inl ⟨rfl, by intro w' hSw; generalize hE : Act.eval _ = ρ; have e69 : ρ (.tmp 69) = .bool false := (by rw [← hE]; rfl); have e74 : ρ (.tmp 74) = undef := (by rw [← hE]; rfl); have ec : ρ (.const (.bool false)) = .bool false := (by rw [← hE]; rfl); clear hE; go_simp⟩) hHeld ?_
            simp only [List.set_cons_zero, List.set_cons_succ]
            refine takeH (i := 33) (v := .bool false) rfl rfl (by kernel_rfl) (by kernel_rfl) (by kernel_rfl) (fun _ _ _ h => h) (Or.inl ⟨rfl, fun _ _ => rfl⟩) hHeld ?_
            simp only [List.set_cons_zero, List.set_cons_succ]
            refine takeH (i := 34) (v := undef) rfl rfl (by kernel_rfl) (by kernel_rfl) (by kernel_rfl) (fun _ _ _ h => h) (Or.inr ⟨rfl, rfl⟩) hHeld ?_
            simp only [List.set_cons_zero, List.set_cons_succ]
            refine takeH (i := 35) (v := undef) rfl rfl (by kernel_rfl) (by kernel_rfl) (by kernel_rfl) (fun _ _ _ h => h) (Or.inr ⟨rfl, rfl⟩) hHeld ?_
            simp only [List.set_cons_zero, List.set_cons_succ]
            refine takeH (i := 36) (v := undef) rfl rfl (by kernel_rfl) (by kernel_rfl) (by kernel_rfl) (fun _ _ _ h => h) (Or.inr ⟨rfl, rfl⟩) hHeld ?_
            simp only [List.set_cons_zero, List.set_cons_succ]
            refine takeH (i := 37) (v := undef) rfl rfl (by kernel_rfl) (by kernel_rfl) (by kernel_rfl) (fun _ _ _ h => h) (Or.inr ⟨rfl, rfl⟩) hHeld ?_
            simp only [List.set_cons_zero, List.set_cons_succ]
            refine takeH (i := 38) (v := undef) rfl rfl (by kernel_rfl) (by kernel_rfl) (by kernel_rfl) (fun _ _ _ h => h) (Or.inr ⟨rfl, rfl⟩) hHeld ?_
            simp only [List.set_cons_zero, List.set_cons_succ]
            refine takeH (i := 39) (v := undef) rfl rfl (by kernel_rfl) (by kernel_rfl) (by kernel_rfl) (fun _ _ _ h => h) (Or.inr ⟨rfl, rfl⟩) hHeld ?_
            simp only [List.set_cons_zero, List.set_cons_succ]
            refine takeH (i := 40) (v := undef) rfl rfl (by kernel_rfl) (by kernel_rfl) (by kernel_rfl) (fun _ _ _ h => h) (Or.inr ⟨rfl, rfl⟩) hHeld ?_
            simp only [List.set_cons_zero, List.set_cons_succ]
            refine takeH (i := 41) (v := .bool false) rfl rfl (by kernel_rfl) (by kernel_rfl) (by kernel_rfl) (fun _ _ _ h => h) (Or.inl ⟨rfl, by intro w' hSw; generalize hE : Act.eval _ = ρ; have e76 : ρ (.tmp 76) = .bool false := (by rw [← hE]; rfl); have e83 : ρ (.tmp 83) = undef := (by rw [← hE]; rfl); have ec : ρ (.const (.bool false)) = .bool false := (by rw [← hE]; rfl); clear hE; go_simp⟩) hHeld ?_
            simp only [List.set_cons_zero, List.set_cons_succ]
            refine wpAnyH_ready (rs := [42]) (by kernel_rfl) (by simp) ?_
            refine AllReadyH.cons (nthL_get rfl) (fun K hK => ?_) AllReadyH.nil
            go_simp
            refine hK.out _ _ ?_ (fun hHeld => ?_)
            · with_reducible exact hks
            clear hK K
            simp only [List.setIfInBounds_toArray, List.set_cons_zero, List.set_cons_succ]
            refine takeH (i := 43) (v := .bool false) rfl rfl (by kernel_rfl) (by kernel_rfl) (by kernel_rfl) (fun _ _ _ h => h) (Or.inl ⟨rfl, fun _ _ => rfl⟩) hHeld ?_
            simp only [List.set_cons_zero, List.set_cons_succ]
            refine wpAnyH_done (by kernel_rfl) ?_ _
            go_wp2_with fail
            refine bodyPost_ret (v := .tuple #[.agg #[.int .i64 x0, .int .i64 x1, .int .i64 x2, .int .i64 x3], .bool false]) (by simp [results, Tryz.f56, go_sem, r0c, r1c, r2c, r3c]) rfl ⟨x0, x1, x2, x3, by rw [HFIN.out], HPQ.out, hbF⟩
          | true =>
            cases hs3 : isSmall x3 with
            | false =>
              have hfin : (readHd L k n).2 = false := by rw [← hph1]; simp [hs0, hs1, hs2, hs3]
              have HFIN := Lib.hid hfin
              have HS0 := Lib.hid (fun (w' : World) => (small_any x0 w'))
              rw [hs0] at HS0
              have HS1 := Lib.hid (fun (w' : World) => (small_any x1 w'))
              rw [hs1] at HS1
              have HS2 := Lib.hid (fun (w' : World) => (small_any x2 w'))
              rw [hs2] at HS2
              have HS3 := Lib.hid (fun (w' : World) => (small_any x3 w'))
              rw [hs3] at HS3
              clear hph1 hfin
              refine startH (S := (fun w' => w'.cell? ⟨P9, 0, none⟩ = some (Value.int .i64 x0) ∧ w'.cell? ⟨P9, 1, none⟩ = some (Value.int .i64 x1) ∧ w'.cell? ⟨P9, 2, none⟩ = some (Value.int .i64 x2) ∧ w'.cell? ⟨P9, 3, none⟩ = some (Value.int .i64 x3))) 44 (by kernel_rfl) (by kernel_rfl) ⟨c0, c1, c2, c3⟩ (fun hHeld => ?_)
              simp only [List.replicate_succ, List.replicate_zero]
              refine takeH (i := 0) (v := .agg #[.int .i64 x0, .int .i64 x1, .int .i64 x2, .int .i64 x3]) rfl rfl (by kernel_rfl) (by kernel_rfl) (by kernel_rfl) (fun _ _ _ h => h) (Or.inl ⟨rfl, by intro w' hSw; generalize hE : Act.eval _ = ρ; have e9 : ρ (.tmp 9) = .pointer (some ⟨P9, 0, none⟩) := (by rw [← hE]; rfl); clear hE; go_simp⟩) hHeld ?_
              simp only [List.set_cons_zero, List.set_cons_succ]
              refine takeH (i := 1) (v := .pointer (some ⟨P9, 0, none⟩)) rfl rfl (by kernel_rfl) (by kernel_rfl) (by kernel_rfl) (fun _ _ _ h => h) (Or.inl ⟨rfl, by intro w' hSw; generalize hE : Act.eval _ = ρ; have e9 : ρ (.tmp 9) = .pointer (some ⟨P9, 0, none⟩) := (by rw [← hE]; rfl); clear hE; go_simp⟩) hHeld ?_
              simp only [List.set_cons_zero, List.set_cons_succ]
              refine takeH (i := 2) (v := .int .i64 x0) rfl rfl (by kernel_rfl) (by kernel_rfl) (by kernel_rfl) (fun _ _ _ h => h) (Or.inl ⟨rfl, by intro w' hSw; generalize hE : Act.eval _ = ρ; have e44 : ρ (.tmp 44) = .pointer (some ⟨P9, 0, none⟩) := (by rw [← hE]; rfl); clear hE; go_simp⟩) hHeld ?_
              simp only [List.set_cons_zero, List.set_cons_succ]
              refine wpAnyH_ready (rs := [3]) (by kernel_rfl) (by simp) ?_
              refine AllReadyH.cons (nthL_get rfl) (fun K hK => ?_) AllReadyH.nil
              go_simp
              refine (HS0.out _).mono ?_
              rintro e w5 ⟨rfl, rfl⟩
              refine hK.out _ _ ⟨c0, c1, c2, c3⟩ (fun hHeld => ?_)
              clear hK K
              simp only [List.setIfInBounds_toArray, List.set_cons_zero, List.set_cons_succ]
              refine takeH (i := 4) (v := .bool true) rfl rfl (by kernel_rfl) (by kernel_rfl) (by kernel_rfl) (fun _ _ _ h => h) (Or.inl ⟨rfl, fun _ _ => rfl⟩) hHeld ?_
              simp only [List.set_cons_zero, List.set_cons_succ]
              refine takeH (i := 5) (v := .pointer (some ⟨P9, 1, none⟩)) rfl rfl (by kernel_rfl) (by kernel_rfl) (by kernel_rfl) (fun _ _ _ h => h) (Or.inl ⟨rfl, by intro w' hSw; generalize hE : Act.eval _ = ρ; have e9 : ρ (.tmp 9) = .pointer (some ⟨P9, 0, none⟩) := (by rw [← hE]; rfl); clear hE; go_simp⟩) hHeld ?_
              simp only [List.set_cons_zero, List.set_cons_succ]
              refine takeH (i := 6) (v := .int .i64 x1) rfl rfl (by kernel_rfl) (by kernel_rfl) (by kernel_rfl) (fun _ _ _ h => h) (Or.inl ⟨rfl, by intro w' hSw; generalize hE : Act.eval _ = ρ; have e48 : ρ (.tmp 48) = .pointer (some ⟨P9, 1, none⟩) := (by rw [← hE]; rfl); clear hE; go_simp⟩) hHeld ?_
              simp only [List.set_cons_zero, List.set_cons_succ]
              refine wpAnyH_ready (rs := [7]) (by kernel_rfl) (by simp) ?_
              refine AllReadyH.cons (nthL_get rfl) (fun K hK => ?_) AllReadyH.nil
              go_simp
              refine (HS1.out _).mono ?_
              rintro e w5 ⟨rfl, rfl⟩
              refine hK.out _ _ ⟨c0, c1, c2, c3⟩ (fun hHeld => ?_)
              clear hK K
              simp only [List.setIfInBounds_toArray, List.set_cons_zero, List.set_cons_succ]
              refine takeH (i := 8) (v := .bool true) rfl rfl (by kernel_rfl) (by kernel_rfl) (by kernel_rfl) (fun _ _ _ h => h) (Or.inl ⟨rfl, by intro w' hSw; generalize hE : Act.eval _ = ρ; have e47 : ρ (.tmp 47) = .bool true := (by rw [← hE]; rfl); have e50 : ρ (.tmp 50) = .bool true := (by rw [← hE]; rfl); have ec : ρ (.const (.bool false)) = .bool false := (by rw [← hE]; rfl); clear hE; go_simp⟩) hHeld ?_
              simp only [List.set_cons_zero, List.set_cons_succ]
              refine takeH (i := 9) (v := .bool true) rfl rfl (by kernel_rfl) (by kernel_rfl) (by kernel_rfl) (fun _ _ _ h => h) (Or.inl ⟨rfl, fun _ _ => rfl⟩) hHeld ?_
              simp only [List.set_cons_zero, List.set_cons_succ]
              refine takeH (i := 10) (v := .pointer (some ⟨P9, 2, none⟩)) rfl rfl (by kernel_rfl) (by kernel_rfl) (by kernel_rfl) (fun _ _ _ h => h) (Or.inl ⟨rfl, by intro w' hSw; generalize hE : Act.eval _ = ρ; have e9 : ρ (.tmp 9) = .pointer (some ⟨P9, 0, none⟩) := (by rw [← hE]; rfl); clear hE; go_simp⟩) hHeld ?_
              simp only [List.set_cons_zero, List.set_cons_succ]
              refine takeH (i := 11) (v := .int .i64 x2) rfl rfl (by kernel_rfl) (by kernel_rfl) (by kernel_rfl) (fun _ _ _ h => h) (Or.inl ⟨rfl, by intro w' hSw; generalize hE : Act.eval _ = ρ; have e53 : ρ (.tmp 53) = .pointer (some ⟨P9, 2, none⟩) := (by rw [← hE]; rfl); clear hE; go_simp⟩) hHeld ?_
              simp only [List.set_cons_zero, List.set_cons_succ]
              refine wpAnyH_ready (rs := [12]) (by kernel_rfl) (by simp) ?_
              refine AllReadyH.cons (nthL_get rfl) (fun K hK => ?_) AllReadyH.nil
              go_simp
              refine (HS2.out _).mono ?_
              rintro e w5 ⟨rfl, rfl⟩
              refine hK.out _ _ ⟨c0, c1, c2, c3⟩ (fun hHeld => ?_)
              clear hK K
              simp only [List.setIfInBounds_toArray, List.set_cons_zero, List.set_cons_succ]
              refine takeH (i := 13) (v := .bool true) rfl rfl (by kernel_rfl) (by kernel_rfl) (by kernel_rfl) (fun _ _ _ h => h) (Or.inl ⟨rfl, by intro w' hSw; generalize hE : Act.eval _ = ρ; have e52 : ρ (.tmp 52) = .bool true := (by rw [← hE]; rfl); have e55 : ρ (.tmp 55) = .bool true := (by rw [← hE]; rfl); have ec : ρ (.const (.bool false)) = .bool false := (by rw [← hE]; rfl); clear hE; go_simp⟩) hHeld ?_
              simp only [List.set_cons_zero, List.set_cons_succ]
              refine takeH (i := 14) (v := .bool true) rfl rfl (by kernel_rfl) (by kernel_rfl) (by kernel_rfl) (fun _ _ _ h => h) (Or.inl ⟨rfl, fun _ _ => rfl⟩) hHeld ?_
              simp only [List.set_cons_zero, List.set_cons_succ]
              refine takeH (i := 15) (v := .pointer (some ⟨P9, 3, none⟩)) rfl rfl (by kernel_rfl) (by kernel_rfl) (by kernel_rfl) (fun _ _ _ h => h) (Or.inl ⟨rfl, by intro w' hSw; generalize hE : Act.eval _ = ρ; have e9 : ρ (.tmp 9) = .pointer (some ⟨P9, 0, none⟩) := (by rw [← hE]; rfl); clear hE; go_simp⟩) hHeld ?_
              simp only [List.set_cons_zero, List.set_cons_succ]
              refine takeH (i := 16) (v := .int .i64 x3) rfl rfl (by kernel_rfl) (by kernel_rfl) (by kernel_rfl) (fun _ _ _ h => h) (Or.inl ⟨rfl, by intro w' hSw; generalize hE : Act.eval _ = ρ; have e58 : ρ (.tmp 58) = .pointer (some ⟨P9, 3, none⟩) := (by rw [← hE]; rfl); clear hE; go_simp⟩) hHeld ?_
              simp only [List.set_cons_zero, List.set_cons_succ]
              refine wpAnyH_ready (rs := [17]) (by kernel_rfl) (by simp) ?_
              refine AllReadyH.cons (nthL_get rfl) (fun K hK => ?_) AllReadyH.nil
              go_simp
              refine (HS3.out _).mono ?_
              rintro e w5 ⟨rfl, rfl⟩
              refine hK.out _ _ ⟨c0, c1, c2, c3⟩ (fun hHeld => ?_)
              clear hK K
              simp only [List.setIfInBounds_toArray, List.set_cons_zero, List.set_cons_succ]
              refine takeH (i := 18) (v := .bool false) rfl rfl (by kernel_rfl) (by kernel_rfl) (by kernel_rfl) (fun _ _ _ h => h) (Or.inl ⟨rfl, by intro w' hSw; generalize hE : Act.eval _ = ρ; have e57 : ρ (.tmp 57) = .bool true := (by rw [← hE]; rfl); have e60 : ρ (.tmp 60) = .bool false := (by rw [← hE]; rfl); have ec : ρ (.const (.bool false)) = .bool false := (by rw [← hE]; rfl); clear hE; go_simp⟩) hHeld ?_
              simp only [List.set_cons_zero, List.set_cons_succ]
              refine takeH (i := 19) (v := .bool false) rfl rfl (by kernel_rfl) (by kernel_rfl) (by kernel_rfl) (fun _ _ _ h => h) (Or.inl ⟨rfl, fun _ _ => rfl⟩) hHeld ?_
              simp only [List.set_cons_zero, List.set_cons_succ]
              refine takeH (i := 20) (v := undef) rfl rfl (by kernel_rfl) (by kernel_rfl) (by kernel_rfl) (fun _ _ _ h => h) (Or.inr ⟨rfl, rfl⟩) hHeld ?_
              simp only [List.set_cons_zero, List.set_cons_succ]
              refine takeH (i := 21) (v := undef) rfl rfl (by kernel_rfl) (by kernel_rfl) (by kernel_rfl) (fun _ _ _ h => h) (Or.inr ⟨rfl, rfl⟩) hHeld ?_
              simp only [List.set_cons_zero, List.set_cons_succ]
              refine takeH (i := 22) (v := undef) rfl rfl (by kernel_rfl) (by kernel_rfl) (by kernel_rfl) (fun _ _ _ h => h) (Or.inr ⟨rfl, rfl⟩) hHeld ?_
              simp only [List.set_cons_zero, List.set_cons_succ]
              refine takeH (i := 23) (v := undef) rfl rfl (by kernel_rfl) (by kernel_rfl) (by kernel_rfl) (fun _ _ _ h => h) (Or.inr ⟨rfl, rfl⟩) hHeld ?_
              simp only [List.set_cons_zero, List.set_cons_succ]
              refine takeH (i := 24) (v := undef) rfl rfl (by kernel_rfl) (by kernel_rfl) (by kernel_rfl) (fun _ _ _ h => h) (Or.inr ⟨rfl, rfl⟩) hHeld ?_
              simp only [List.set_cons_zero, List.set_cons_succ]
              refine takeH (i := 25) (v := .bool false) rfl rfl (by kernel_rfl) (by kernel_rfl) (by kernel_rfl) (fun _ _ _ h => h) (Or.inl ⟨rfl, by intro w' hSw; generalize hE : Act.eval _ = ρ; have e62 : ρ (.tmp 62) = .bool false := (by rw [← hE]; rfl); have e67 : ρ (.tmp 67) = undef := (by rw [← hE]; rfl); have ec : ρ (.const (.bool false)) = .bool false := (by rw [← hE]; rfl); clear hE; go_simp⟩) hHeld ?_
              simp only [List.set_cons_zero, List.set_cons_succ]
              refine takeH (i := 26) (v := .bool false) rfl rfl (by kernel_rfl) (by kernel_rfl) (by kernel_rfl) (fun _ _ _ h => h) (Or.inl ⟨rfl, fun _ _ => rfl⟩) hHeld ?_
              simp only [List.set_cons_zero, List.set_cons_succ]
              refine takeH (i := 27) (v := undef) rfl rfl (by kernel_rfl) (by kernel_rfl) (by kernel_rfl) (fun _ _ _ h => h) (Or.inr ⟨rfl, rfl⟩) hHeld ?_
              simp only [List.set_cons_zero, List.set_cons_succ]
              refine takeH (i := 28) (v := undef) rfl rfl (by kernel_rfl) (by kernel_rfl) (by kernel_rfl) (fun _ _ _ h => h) (Or.inr ⟨rfl, rfl⟩) hHeld ?_
              simp only [List.set_cons_zero, List.set_cons_succ]
              refine takeH (i := 29) (v := undef) rfl rfl (by kernel_rfl) (by kernel_rfl) (by kernel_rfl) (fun _ _ _ h => h) (Or.inr ⟨rfl, rfl⟩) hHeld ?_
              simp only [List.set_cons_zero, List.set_cons_succ]
              refine takeH (i := 30) (v := undef) rfl rfl (by kernel_rfl) (by kernel_rfl) (by kernel_rfl) (fun _ _ _ h => h) (Or.inr ⟨rfl, rfl⟩) hHeld ?_
              simp only [List.set_cons_zero, List.set_cons_succ]
              refine takeH (i := 31) (v := undef) rfl rfl (by kernel_rfl) (by kernel_rfl) (by kernel_rfl) (fun _ _ _ h => h) (Or.inr ⟨rfl, rfl⟩) hHeld ?_
              simp only [List.set_cons_zero, List.set_cons_succ]
              refine takeH (i := 32) (v := .bool false) rfl rfl (by kernel_rfl) (by kernel_rfl) (by kernel_rfl) (fun _ _ _ h => h) (Or.inl ⟨rfl, by intro w' hSw; generalize hE : Act.eval _ = ρ; have e69 : ρ (.tmp 69) = .bool false := (by rw [← hE]; rfl); have e74 : ρ (.tmp 74) = undef := (by rw [← hE]; rfl); have ec : ρ (.const (.bool false)) = .bool false := (by rw [← hE]; rfl); clear hE; go_simp⟩) hHeld ?_
              simp only [List.set_cons_zero, List.set_cons_succ]
              refine takeH (i := 33) (v := .bool false) rfl rfl (by kernel_rfl) (by kernel_rfl) (by kernel_rfl) (fun _ _ _ h => h) (Or.inl ⟨rfl, fun _ _ => rfl⟩) hHeld ?_
              simp only [List.set_cons_zero, List.set_cons_succ]
              refine takeH (i := 34) (v := undef) rfl rfl (by kernel_rfl) (by kernel_rfl) (by kernel_rfl) (fun _ _ _ h => h) (Or.inr ⟨rfl, rfl⟩) hHeld ?_
              simp only [List.set_cons_zero, List.set_cons_succ]
              refine takeH (i := 35) (v := undef) rfl rfl (by kernel_rfl) (by kernel_rfl) (by kernel_rfl) (fun _ _ _ h => h) (Or.inr ⟨rfl, rfl⟩) hHeld ?_
              simp only [List.set_cons_zero, List.set_cons_succ]
              refine takeH (i := 36) (v := undef) rfl rfl (by kernel_rfl) (by kernel_rfl) (by kernel_rfl) (fun _ _ _ h => h) (Or.inr ⟨rfl, rfl⟩) hHeld ?_
              simp only [List.set_cons_zero, List.set_cons_succ]
              refine takeH (i := 37) (v := undef) rfl rfl (by kernel_rfl) (by kernel_rfl) (by kernel_rfl) (fun _ _ _ h => h) (Or.inr ⟨rfl, rfl⟩) hHeld ?_
              simp only [List.set_cons_zero, List.set_cons_succ]
              refine takeH (i := 38) (v := undef) rfl rfl (by kernel_rfl) (by kernel_rfl) (by kernel_rfl) (fun _ _ _ h => h) (Or.inr ⟨rfl, rfl⟩) hHeld ?_
              simp only [List.set_cons_zero, List.set_cons_succ]
              refine takeH (i := 39) (v := undef) rfl rfl (by kernel_rfl) (by kernel_rfl) (by kernel_rfl) (fun _ _ _ h => h) (Or.inr ⟨rfl, rfl⟩) hHeld ?_
              simp only [List.set_cons_zero, List.set_cons_succ]
              refine takeH (i := 40) (v := undef) rfl rfl (by kernel_rfl) (by kernel_rfl) (by kernel_rfl) (fun _ _ _ h => h) (Or.inr ⟨rfl, rfl⟩) hHeld ?_
              simp only [List.set_cons_zero, List.set_cons_succ]
              refine takeH (i := 41) (v := .bool false) rfl rfl (by kernel_rfl) (by kernel_rfl) (by kernel_rfl) (fun _ _ _ h => h) (Or.inl ⟨rfl, by intro w' hSw; generalize hE : Act.eval _ = ρ; have e76 : ρ (.tmp 76) = .bool false := (by rw [← hE]; rfl); have e83 : ρ (.tmp 83) = undef := (by rw [← hE]; rfl); have ec : ρ (.const (.bool false)) = .bool false := (by rw [← hE]; rfl); clear hE; go_simp⟩) hHeld ?_
              simp only [List.set_cons_zero, List.set_cons_succ]
              refine wpAnyH_ready (rs := [42]) (by kernel_rfl) (by simp) ?_
              refine AllReadyH.cons (nthL_get rfl) (fun K hK => ?_) AllReadyH.nil
              go_simp
              refine hK.out _ _ ?_ (fun hHeld => ?_)
              · with_reducible exact hks
              clear hK K
              simp only [List.setIfInBounds_toArray, List.set_cons_zero, List.set_cons_succ]
              refine takeH (i := 43) (v := .bool false) rfl rfl (by kernel_rfl) (by kernel_rfl) (by kernel_rfl) (fun _ _ _ h => h) (Or.inl ⟨rfl, fun _ _ => rfl⟩) hHeld ?_
              simp only [List.set_cons_zero, List.set_cons_succ]
              refine wpAnyH_done (by kernel_rfl) ?_ _
              go_wp2_with fail
              refine bodyPost_ret (v := .tuple #[.agg #[.int .i64 x0, .int .i64 x1, .int .i64 x2, .int .i64 x3], .bool false]) (by simp [results, Tryz.f56, go_sem, r0c, r1c, r2c, r3c]) rfl ⟨x0, x1, x2, x3, by rw [HFIN.out], HPQ.out, hbF⟩
            | true =>
              have hwx : IntKind.i64.wrap (x2 + (n : Int)) = x2 + (n : Int) := by have := isSmall_iff.1 hs2; rw [IntKind.wrap_i64] <;> omega
              have hx2b := isSmall_iff.1 hs2
              have hx0b := isSmall_iff.1 hs0
              have ht0 : x0 % 2 = r0 := by rw [← hr0, Int.tmod_eq_emod_of_nonneg hx0b.1]
              cases hs4 : (r0 == (k : Int)) with
              | false =>
                have hfin : (readHd L k n).2 = false := by rw [← hph1]; simp [hs0, hs1, hs2, hs3, hs4]
                have HFIN := Lib.hid hfin
                have HS0 := Lib.hid (fun (w' : World) => (small_any x0 w'))
                rw [hs0] at HS0
                have HS1 := Lib.hid (fun (w' : World) => (small_any x1 w'))
                rw [hs1] at HS1
                have HS2 := Lib.hid (fun (w' : World) => (small_any x2 w'))
                rw [hs2] at HS2
                have HS3 := Lib.hid (fun (w' : World) => (small_any x3 w'))
                rw [hs3] at HS3
                clear hph1 hfin
                refine startH (S := (fun w' => w'.cell? ⟨P9, 0, none⟩ = some (Value.int .i64 x0) ∧ w'.cell? ⟨P9, 1, none⟩ = some (Value.int .i64 x1) ∧ w'.cell? ⟨P9, 2, none⟩ = some (Value.int .i64 x2) ∧ w'.cell? ⟨P9, 3, none⟩ = some (Value.int .i64 x3))) 44 (by kernel_rfl) (by kernel_rfl) ⟨c0, c1, c2, c3⟩ (fun hHeld => ?_)
                simp only [List.replicate_succ, List.replicate_zero]
                refine takeH (i := 0) (v := .agg #[.int .i64 x0, .int .i64 x1, .int .i64 x2, .int .i64 x3]) rfl rfl (by kernel_rfl) (by kernel_rfl) (by kernel_rfl) (fun _ _ _ h => h) (Or.inl ⟨rfl, by intro w' hSw; generalize hE : Act.eval _ = ρ; have e9 : ρ (.tmp 9) = .pointer (some ⟨P9, 0, none⟩) := (by rw [← hE]; rfl); clear hE; go_simp⟩) hHeld ?_
                simp only [List.set_cons_zero, List.set_cons_succ]
                refine takeH (i := 1) (v := .pointer (some ⟨P9, 0, none⟩)) rfl rfl (by kernel_rfl) (by kernel_rfl) (by kernel_rfl) (fun _ _ _ h => h) (Or.inl ⟨rfl, by intro w' hSw; generalize hE : Act.eval _ = ρ; have e9 : ρ (.tmp 9) = .pointer (some ⟨P9, 0, none⟩) := (by rw [← hE]; rfl); clear hE; go_simp⟩) hHeld ?_
                simp only [List.set_cons_zero, List.set_cons_succ]
                refine takeH (i := 2) (v := .int .i64 x0) rfl rfl (by kernel_rfl) (by kernel_rfl) (by kernel_rfl) (fun _ _ _ h => h) (Or.inl ⟨rfl, by intro w' hSw; generalize hE : Act.eval _ = ρ; have e44 : ρ (.tmp 44) = .pointer (some ⟨P9, 0, none⟩) := (by rw [← hE]; rfl); clear hE; go_simp⟩) hHeld ?_
                simp only [List.set_cons_zero, List.set_cons_succ]
                refine wpAnyH_ready (rs := [3]) (by kernel_rfl) (by simp) ?_
                refine AllReadyH.cons (nthL_get rfl) (fun K hK => ?_) AllReadyH.nil
                go_simp
                refine (HS0.out _).mono ?_
                rintro e w5 ⟨rfl, rfl⟩
                refine hK.out _ _ ⟨c0, c1, c2, c3⟩ (fun hHeld => ?_)
                clear hK K
                simp only [List.setIfInBounds_toArray, List.set_cons_zero, List.set_cons_succ]
                refine takeH (i := 4) (v := .bool true) rfl rfl (by kernel_rfl) (by kernel_rfl) (by kernel_rfl) (fun _ _ _ h => h) (Or.inl ⟨rfl, fun _ _ => rfl⟩) hHeld ?_
                simp only [List.set_cons_zero, List.set_cons_succ]
                refine takeH (i := 5) (v := .pointer (some ⟨P9, 1, none⟩)) rfl rfl (by kernel_rfl) (by kernel_rfl) (by kernel_rfl) (fun _ _ _ h => h) (Or.inl ⟨rfl, by intro w' hSw; generalize hE : Act.eval _ = ρ; have e9 : ρ (.tmp 9) = .pointer (some ⟨P9, 0, none⟩) := (by rw [← hE]; rfl); clear hE; go_simp⟩) hHeld ?_
                simp only [List.set_cons_zero, List.set_cons_succ]
                refine takeH (i := 6) (v := .int .i64 x1) rfl rfl (by kernel_rfl) (by kernel_rfl) (by kernel_rfl) (fun _ _ _ h => h) (Or.inl ⟨rfl, by intro w' hSw; generalize hE : Act.eval _ = ρ; have e48 : ρ (.tmp 48) = .pointer (some ⟨P9, 1, none⟩) := (by rw [← hE]; rfl); clear hE; go_simp⟩) hHeld ?_
                simp only [List.set_cons_zero, List.set_cons_succ]
                refine wpAnyH_ready (rs := [7]) (by kernel_rfl) (by simp) ?_
                refine AllReadyH.cons (nthL_get rfl) (fun K hK => ?_) AllReadyH.nil
                go_simp
                refine (HS1.out _).mono ?_
                rintro e w5 ⟨rfl, rfl⟩
                refine hK.out _ _ ⟨c0, c1, c2, c3⟩ (fun hHeld => ?_)
                clear hK K
                simp only [List.setIfInBounds_toArray, List.set_cons_zero, List.set_cons_succ]
                refine takeH (i := 8) (v := .bool true) rfl rfl (by kernel_rfl) (by kernel_rfl) (by kernel_rfl) (fun _ _ _ h => h) (Or.inl ⟨rfl, by intro w' hSw; generalize hE : Act.eval _ = ρ; have e47 : ρ (.tmp 47) = .bool true := (by rw [← hE]; rfl); have e50 : ρ (.tmp 50) = .bool true := (by rw [← hE]; rfl); have ec : ρ (.const (.bool false)) = .bool false := (by rw [← hE]; rfl); clear hE; go_simp⟩) hHeld ?_
                simp only [List.set_cons_zero, List.set_cons_succ]
                refine takeH (i := 9) (v := .bool true) rfl rfl (by kernel_rfl) (by kernel_rfl) (by kernel_rfl) (fun _ _ _ h => h) (Or.inl ⟨rfl, fun _ _ => rfl⟩) hHeld ?_
                simp only [List.set_cons_zero, List.set_cons_succ]
                refine takeH (i := 10) (v := .pointer (some ⟨P9, 2, none⟩)) rfl rfl (by kernel_rfl) (by kernel_rfl) (by kernel_rfl) (fun _ _ _ h => h) (Or.inl ⟨rfl, by intro w' hSw; generalize hE : Act.eval _ = ρ; have e9 : ρ (.tmp 9) = .pointer (some ⟨P9, 0, none⟩) := (by rw [← hE]; rfl); clear hE; go_simp⟩) hHeld ?_
                simp only [List.set_cons_zero, List.set_cons_succ]
                refine takeH (i := 11) (v := .int .i64 x2) rfl rfl (by kernel_rfl) (by kernel_rfl) (by kernel_rfl) (fun _ _ _ h => h) (Or.inl ⟨rfl, by intro w' hSw; generalize hE : Act.eval _ = ρ; have e53 : ρ (.tmp 53) = .pointer (some ⟨P9, 2, none⟩) := (by rw [← hE]; rfl); clear hE; go_simp⟩) hHeld ?_
                simp only [List.set_cons_zero, List.set_cons_succ]
                refine wpAnyH_ready (rs := [12]) (by kernel_rfl) (by simp) ?_
                refine AllReadyH.cons (nthL_get rfl) (fun K hK => ?_) AllReadyH.nil
                go_simp
                refine (HS2.out _).mono ?_
                rintro e w5 ⟨rfl, rfl⟩
                refine hK.out _ _ ⟨c0, c1, c2, c3⟩ (fun hHeld => ?_)
                clear hK K
                simp only [List.setIfInBounds_toArray, List.set_cons_zero, List.set_cons_succ]
                refine takeH (i := 13) (v := .bool true) rfl rfl (by kernel_rfl) (by kernel_rfl) (by kernel_rfl) (fun _ _ _ h => h) (Or.inl ⟨rfl, by intro w' hSw; generalize hE : Act.eval _ = ρ; have e52 : ρ (.tmp 52) = .bool true := (by rw [← hE]; rfl); have e55 : ρ (.tmp 55) = .bool true := (by rw [← hE]; rfl); have ec : ρ (.const (.bool false)) = .bool false := (by rw [← hE]; rfl); clear hE; go_simp⟩) hHeld ?_
                simp only [List.set_cons_zero, List.set_cons_succ]
                refine takeH (i := 14) (v := .bool true) rfl rfl (by kernel_rfl) (by kernel_rfl) (by kernel_rfl) (fun _ _ _ h => h) (Or.inl ⟨rfl, fun _ _ => rfl⟩) hHeld ?_
                simp only [List.set_cons_zero, List.set_cons_succ]
                refine takeH (i := 15) (v := .pointer (some ⟨P9, 3, none⟩)) rfl rfl (by kernel_rfl) (by kernel_rfl) (by kernel_rfl) (fun _ _ _ h => h) (Or.inl ⟨rfl, by intro w' hSw; generalize hE : Act.eval _ = ρ; have e9 : ρ (.tmp 9) = .pointer (some ⟨P9, 0, none⟩) := (by rw [← hE]; rfl); clear hE; go_simp⟩) hHeld ?_
                simp only [List.set_cons_zero, List.set_cons_succ]
                refine takeH (i := 16) (v := .int .i64 x3) rfl rfl (by kernel_rfl) (by kernel_rfl) (by kernel_rfl) (fun _ _ _ h => h) (Or.inl ⟨rfl, by intro w' hSw; generalize hE : Act.eval _ = ρ; have e58 : ρ (.tmp 58) = .pointer (some ⟨P9, 3, none⟩) := (by rw [← hE]; rfl); clear hE; go_simp⟩) hHeld ?_
                simp only [List.set_cons_zero, List.set_cons_succ]
                refine wpAnyH_ready (rs := [17]) (by kernel_rfl) (by simp) ?_
                refine AllReadyH.cons (nthL_get rfl) (fun K hK => ?_) AllReadyH.nil
                go_simp
                refine (HS3.out _).mono ?_
                rintro e w5 ⟨rfl, rfl⟩
                refine hK.out _ _ ⟨c0, c1, c2, c3⟩ (fun hHeld => ?_)
                clear hK K
                simp only [List.setIfInBounds_toArray, List.set_cons_zero, List.set_cons_succ]
                refine takeH (i := 18) (v := .bool true) rfl rfl (by kernel_rfl) (by kernel_rfl) (by kernel_rfl) (fun _ _ _ h => h) (Or.inl ⟨rfl, by intro w' hSw; generalize hE : Act.eval _ = ρ; have e57 : ρ (.tmp 57) = .bool true := (by rw [← hE]; rfl); have e60 : ρ (.tmp 60) = .bool true := (by rw [← hE]; rfl); have ec : ρ (.const (.bool false)) = .bool false := (by rw [← hE]; rfl); clear hE; go_simp⟩) hHeld ?_
                simp only [List.set_cons_zero, List.set_cons_succ]
                refine takeH (i := 19) (v := .bool true) rfl rfl (by kernel_rfl) (by kernel_rfl) (by kernel_rfl) (fun _ _ _ h => h) (Or.inl ⟨rfl, fun _ _ => rfl⟩) hHeld ?_
                simp only [List.set_cons_zero, List.set_cons_succ]
                refine takeH (i := 20) (v := .pointer (some ⟨P9, 0, none⟩)) rfl rfl (by kernel_rfl) (by kernel_rfl) (by kernel_rfl) (fun _ _ _ h => h) (Or.inl ⟨rfl, by intro w' hSw; generalize hE : Act.eval _ = ρ; have e9 : ρ (.tmp 9) = .pointer (some ⟨P9, 0, none⟩) := (by rw [← hE]; rfl); clear hE; go_simp⟩) hHeld ?_
                simp only [List.set_cons_zero, List.set_cons_succ]
                refine takeH (i := 21) (v := .int .i64 x0) rfl rfl (by kernel_rfl) (by kernel_rfl) (by kernel_rfl) (fun _ _ _ h => h) (Or.inl ⟨rfl, by intro w' hSw; generalize hE : Act.eval _ = ρ; have e63 : ρ (.tmp 63) = .pointer (some ⟨P9, 0, none⟩) := (by rw [← hE]; rfl); clear hE; go_simp⟩) hHeld ?_
                simp only [List.set_cons_zero, List.set_cons_succ]
                refine takeH (i := 22) (v := .int .i64 r0) rfl rfl (by kernel_rfl) (by kernel_rfl) (by kernel_rfl) (fun _ _ _ h => h) (Or.inl ⟨rfl, by intro w' hSw; generalize hE : Act.eval _ = ρ; have e64 : ρ (.tmp 64) = .int .i64 x0 := (by rw [← hE]; rfl); have ec : ρ (.const (.int .i64 2)) = .int .i64 2 := (by rw [← hE]; rfl); clear hE; go_simp⟩) hHeld ?_
                simp only [List.set_cons_zero, List.set_cons_succ]
                refine takeH (i := 23) (v := .int .i64 (k : Int)) rfl rfl (by kernel_rfl) (by kernel_rfl) (by kernel_rfl) (fun _ _ _ h => h) (Or.inl ⟨rfl, fun _ _ => rfl⟩) hHeld ?_
                simp only [List.set_cons_zero, List.set_cons_succ]
                refine takeH (i := 24) (v := .bool false) rfl rfl (by kernel_rfl) (by kernel_rfl) (by kernel_rfl) (fun _ _ _ h => h) (Or.inl ⟨rfl, by intro w' hSw; generalize hE : Act.eval _ = ρ; have e65 : ρ (.tmp 65) = .int .i64 r0 := (by rw [← hE]; rfl); have e66 : ρ (.tmp 66) = .int .i64 (k : Int) := (by rw [← hE]; rfl); clear hE; go_simp⟩) hHeld ?_
                simp only [List.set_cons_zero, List.set_cons_succ]
                refine takeH (i := 25) (v := .bool false) rfl rfl (by kernel_rfl) (by kernel_rfl) (by kernel_rfl) (fun _ _ _ h => h) (Or.inl ⟨rfl, by intro w' hSw; generalize hE : Act.eval _ = ρ; have e62 : ρ (.tmp 62) = .bool true := (by rw [← hE]; rfl); have e67 : ρ (.tmp 67) = .bool false := (by rw [← hE]; rfl); have ec : ρ (.const (.bool false)) = .bool false := (by rw [← hE]; rfl); clear hE; go_simp⟩) hHeld ?_
                simp only [List.set_cons_zero, List.set_cons_succ]
                refine takeH (i := 26) (v := .bool false) rfl rfl (by kernel_rfl) (by kernel_rfl) (by kernel_rfl) (fun _ _ _ h => h) (Or.inl ⟨rfl, fun _ _ => rfl⟩) hHeld ?_
                simp only [List.set_cons_zero, List.set_cons_succ]
                refine takeH (i := 27) (v := undef) rfl rfl (by kernel_rfl) (by kernel_rfl) (by kernel_rfl) (fun _ _ _ h => h) (Or.inr ⟨rfl, rfl⟩) hHeld ?_
                simp only [List.set_cons_zero, List.set_cons_succ]
                refine takeH (i := 28) (v := undef) rfl rfl (by kernel_rfl) (by kernel_rfl) (by kernel_rfl) (fun _ _ _ h => h) (Or.inr ⟨rfl, rfl⟩) hHeld ?_
                simp only [List.set_cons_zero, List.set_cons_succ]
                refine takeH (i := 29) (v := undef) rfl rfl (by kernel_rfl) (by kernel_rfl) (by kernel_rfl) (fun _ _ _ h => h) (Or.inr ⟨rfl, rfl⟩) hHeld ?_
                simp only [List.set_cons_zero, List.set_cons_succ]
                refine takeH (i := 30) (v := undef) rfl rfl (by kernel_rfl) (by kernel_rfl) (by kernel_rfl) (fun _ _ _ h => h) (Or.inr ⟨rfl, rfl⟩) hHeld ?_
                simp only [List.set_cons_zero, List.set_cons_succ]
                refine takeH (i := 31) (v := undef) rfl rfl (by kernel_rfl) (by kernel_rfl) (by kernel_rfl) (fun _ _ _ h => h) (Or.inr ⟨rfl, rfl⟩) hHeld ?_
                simp only [List.set_cons_zero, List.set_cons_succ]
                refine takeH (i := 32) (v := .bool false) rfl rfl (by kernel_rfl) (by kernel_rfl) (by kernel_rfl) (fun _ _ _ h => h) (Or.inl ⟨rfl, by intro w' hSw; generalize hE : Act.eval _ = ρ; have e69 : ρ (.tmp 69) = .bool false := (by rw [← hE]; rfl); have e74 : ρ (.tmp 74) = undef := (by rw [← hE]; rfl); have ec : ρ (.const (.bool false)) = .bool false := (by rw [← hE]; rfl); clear hE; go_simp⟩) hHeld ?_
                simp only [List.set_cons_zero, List.set_cons_succ]
                refine takeH (i := 33) (v := .bool false) rfl rfl (by kernel_rfl) (by kernel_rfl) (by kernel_rfl) (fun _ _ _ h => h) (Or.inl ⟨rfl, fun _ _ => rfl⟩) hHeld ?_
                simp only [List.set_cons_zero, List.set_cons_succ]
                refine takeH (i := 34) (v := undef) rfl rfl (by kernel_rfl) (by kernel_rfl) (by kernel_rfl) (fun _ _ _ h => h) (Or.inr ⟨rfl, rfl⟩) hHeld ?_
                simp only [List.set_cons_zero, List.set_cons_succ]
                refine takeH (i := 35) (v := undef) rfl rfl (by kernel_rfl) (by kernel_rfl) (by kernel_rfl) (fun _ _ _ h => h) (Or.inr ⟨rfl, rfl⟩) hHeld ?_
                simp only [List.set_cons_zero, List.set_cons_succ]
                refine takeH (i := 36) (v := undef) rfl rfl (by kernel_rfl) (by kernel_rfl) (by kernel_rfl) (fun _ _ _ h => h) (Or.inr ⟨rfl, rfl⟩) hHeld ?_
                simp only [List.set_cons_zero, List.set_cons_succ]
                refine takeH (i := 37) (v := undef) rfl rfl (by kernel_rfl) (by kernel_rfl) (by kernel_rfl) (fun _ _ _ h => h) (Or.inr ⟨rfl, rfl⟩) hHeld ?_
                simp only [List.set_cons_zero, List.set_cons_succ]
                refine takeH (i := 38) (v := undef) rfl rfl (by kernel_rfl) (by kernel_rfl) (by kernel_rfl) (fun _ _ _ h => h) (Or.inr ⟨rfl, rfl⟩) hHeld ?_
                simp only [List.set_cons_zero, List.set_cons_succ]
                refine takeH (i := 39) (v := undef) rfl rfl (by kernel_rfl) (by kernel_rfl) (by kernel_rfl) (fun _ _ _ h => h) (Or.inr ⟨rfl, rfl⟩) hHeld ?_
                simp only [List.set_cons_zero, List.set_cons_succ]
                refine takeH (i := 40) (v := undef) rfl rfl (by kernel_rfl) (by kernel_rfl) (by kernel_rfl) (fun _ _ _ h => h) (Or.inr ⟨rfl, rfl⟩) hHeld ?_
                simp only [List.set_cons_zero, List.set_cons_succ]
                refine takeH (i := 41) (v := .bool false) rfl rfl (by kernel_rfl) (by kernel_rfl) (by kernel_rfl) (fun _ _ _ h => h) (Or.inl ⟨rfl, by intro w' hSw; generalize hE : Act.eval _ = ρ; have e76 : ρ (.tmp 76) = .bool false := (by rw [← hE]; rfl); have e83 : ρ (.tmp 83) = undef := (by rw [← hE]; rfl); have ec : ρ (.const (.bool false)) = .bool false := (by rw [← hE]; rfl); clear hE; go_simp⟩) hHeld ?_
                simp only [List.set_cons_zero, List.set_cons_succ]
                refine wpAnyH_ready (rs := [42]) (by kernel_rfl) (by simp) ?_
                refine AllReadyH.cons (nthL_get rfl) (fun K hK => ?_) AllReadyH.nil
                go_simp
                refine hK.out _ _ ?_ (fun hHeld => ?_)
                · with_reducible exact hks
                clear hK K
                simp only [List.setIfInBounds_toArray, List.set_cons_zero, List.set_cons_succ]
                refine takeH (i := 43) (v := .bool false) rfl rfl (by kernel_rfl) (by kernel_rfl) (by kernel_rfl) (fun _ _ _ h => h) (Or.inl ⟨rfl, fun _ _ => rfl⟩) hHeld ?_
                simp only [List.set_cons_zero, List.set_cons_succ]
                refine wpAnyH_done (by kernel_rfl) ?_ _
                go_wp2_with fail
                refine bodyPost_ret (v := .tuple #[.agg #[.int .i64 x0, .int .i64 x1, .int .i64 x2, .int .i64 x3], .bool false]) (by simp [results, Tryz.f56, go_sem, r0c, r1c, r2c, r3c]) rfl ⟨x0, x1, x2, x3, by rw [HFIN.out], HPQ.out, hbF⟩
              | true =>
                cases hs5 : decide (x2 ≤ x3) with
                | false =>
                  have hfin : (readHd L k n).2 = false := by rw [← hph1]; simp [hs0, hs1, hs2, hs3, hs4, hs5]
                  have HFIN := Lib.hid hfin
                  have HS0 := Lib.hid (fun (w' : World) => (small_any x0 w'))
                  rw [hs0] at HS0
                  have HS1 := Lib.hid (fun (w' : World) => (small_any x1 w'))
                  rw [hs1] at HS1
                  have HS2 := Lib.hid (fun (w' : World) => (small_any x2 w'))
                  rw [hs2] at HS2
                  have HS3 := Lib.hid (fun (w' : World) => (small_any x3 w'))
                  rw [hs3] at HS3
                  clear hph1 hfin
                  refine startH (S := (fun w' => w'.cell? ⟨P9, 0, none⟩ = some (Value.int .i64 x0) ∧ w'.cell? ⟨P9, 1, none⟩ = some (Value.int .i64 x1) ∧ w'.cell? ⟨P9, 2, none⟩ = some (Value.int .i64 x2) ∧ w'.cell? ⟨P9, 3, none⟩ = some (Value.int .i64 x3))) 44 (by kernel_rfl) (by kernel_rfl) ⟨c0, c1, c2, c3⟩ (fun hHeld => ?_)
                  simp only [List.replicate_succ, List.replicate_zero]
                  refine takeH (i := 0) (v := .agg #[.int .i64 x0, .int .i64 x1, .int .i64 x2, .int .i64 x3]) rfl rfl (by kernel_rfl) (by kernel_rfl) (by kernel_rfl) (fun _ _ _ h => h) (Or.inl ⟨rfl, by intro w' hSw; generalize hE : Act.eval _ = ρ; have e9 : ρ (.tmp 9) = .pointer (some ⟨P9, 0, none⟩) := (by rw [← hE]; rfl); clear hE; go_simp⟩) hHeld ?_
                  simp only [List.set_cons_zero, List.set_cons_succ]
                  refine takeH (i := 1) (v := .pointer (some ⟨P9, 0, none⟩)) rfl rfl (by kernel_rfl) (by kernel_rfl) (by kernel_rfl) (fun _ _ _ h => h) (Or.inl ⟨rfl, by intro w' hSw; generalize hE : Act.eval _ = ρ; have e9 : ρ (.tmp 9) = .pointer (some ⟨P9, 0, none⟩) := (by rw [← hE]; rfl); clear hE; go_simp⟩) hHeld ?_
                  simp only [List.set_cons_zero, List.set_cons_succ]
                  refine takeH (i := 2) (v := .int .i64 x0) rfl rfl (by kernel_rfl) (by kernel_rfl) (by kernel_rfl) (fun _ _ _ h => h) (Or.inl ⟨rfl, by intro w' hSw; generalize hE : Act.eval _ = ρ; have e44 : ρ (.tmp 44) = .pointer (some ⟨P9, 0, none⟩) := (by rw [← hE]; rfl); clear hE; go_simp⟩) hHeld ?_
                  simp only [List.set_cons_zero, List.set_cons_succ]
                  refine wpAnyH_ready (rs := [3]) (by kernel_rfl) (by simp) ?_
                  refine AllReadyH.cons (nthL_get rfl) (fun K hK => ?_) AllReadyH.nil
                  go_simp
                  refine (HS0.out _).mono ?_
                  rintro e w5 ⟨rfl, rfl⟩
                  refine hK.out _ _ ⟨c0, c1, c2, c3⟩ (fun hHeld => ?_)
                  clear hK K
                  simp only [List.setIfInBounds_toArray, List.set_cons_zero, List.set_cons_succ]
                  refine takeH (i := 4) (v := .bool true) rfl rfl (by kernel_rfl) (by kernel_rfl) (by kernel_rfl) (fun _ _ _ h => h) (Or.inl ⟨rfl, fun _ _ => rfl⟩) hHeld ?_
                  simp only [List.set_cons_zero, List.set_cons_succ]
                  refine takeH (i := 5) (v := .pointer (some ⟨P9, 1, none⟩)) rfl rfl (by kernel_rfl) (by kernel_rfl) (by kernel_rfl) (fun _ _ _ h => h) (Or.inl ⟨rfl, by intro w' hSw; generalize hE : Act.eval _ = ρ; have e9 : ρ (.tmp 9) = .pointer (some ⟨P9, 0, none⟩) := (by rw [← hE]; rfl); clear hE; go_simp⟩) hHeld ?_
                  simp only [List.set_cons_zero, List.set_cons_succ]
                  refine takeH (i := 6) (v := .int .i64 x1) rfl rfl (by kernel_rfl) (by kernel_rfl) (by kernel_rfl) (fun _ _ _ h => h) (Or.inl ⟨rfl, by intro w' hSw; generalize hE : Act.eval _ = ρ; have e48 : ρ (.tmp 48) = .pointer (some ⟨P9, 1, none⟩) := (by rw [← hE]; rfl); clear hE; go_simp⟩) hHeld ?_
                  simp only [List.set_cons_zero, List.set_cons_succ]
                  refine wpAnyH_ready (rs := [7]) (by kernel_rfl) (by simp) ?_
                  refine AllReadyH.cons (nthL_get rfl) (fun K hK => ?_) AllReadyH.nil
                  go_simp
                  refine (HS1.out _).mono ?_
                  rintro e w5 ⟨rfl, rfl⟩
                  refine hK.out _ _ ⟨c0, c1, c2, c3⟩ (fun hHeld => ?_)
                  clear hK K
                  simp only [List.setIfInBounds_toArray, List.set_cons_zero, List.set_cons_succ]
                  refine takeH (i := 8) (v := .bool true) rfl rfl (by kernel_rfl) (by kernel_rfl) (by kernel_rfl) (fun _ _ _ h => h) (Or.inl ⟨rfl, by intro w' hSw; generalize hE : Act.eval _ = ρ; have e47 : ρ (.tmp 47) = .bool true := (by rw [← hE]; rfl); have e50 : ρ (.tmp 50) = .bool true := (by rw [← hE]; rfl); have ec : ρ (.const (.bool false)) = .bool false := (by rw [← hE]; rfl); clear hE; go_simp⟩) hHeld ?_
                  simp only [List.set_cons_zero, List.set_cons_succ]
                  refine takeH (i := 9) (v := .bool true) rfl rfl (by kernel_rfl) (by kernel_rfl) (by kernel_rfl) (fun _ _ _ h => h) (Or.inl ⟨rfl, fun _ _ => rfl⟩) hHeld ?_
                  simp only [List.set_cons_zero, List.set_cons_succ]
                  refine takeH (i := 10) (v := .pointer (some ⟨P9, 2, none⟩)) rfl rfl (by kernel_rfl) (by kernel_rfl) (by kernel_rfl) (fun _ _ _ h => h) (Or.inl ⟨rfl, by intro w' hSw; generalize hE : Act.eval _ = ρ; have e9 : ρ (.tmp 9) = .pointer (some ⟨P9, 0, none⟩) := (by rw [← hE]; rfl); clear hE; go_simp⟩) hHeld ?_
                  simp only [List.set_cons_zero, List.set_cons_succ]
                  refine takeH (i := 11) (v := .int .i64 x2) rfl rfl (by kernel_rfl) (by kernel_rfl) (by kernel_rfl) (fun _ _ _ h => h) (Or.inl ⟨rfl, by intro w' hSw; generalize hE : Act.eval _ = ρ; have e53 : ρ (.tmp 53) = .pointer (some ⟨P9, 2, none⟩) := (by rw [← hE]; rfl); clear hE; go_simp⟩) hHeld ?_
                  simp only [List.set_cons_zero, List.set_cons_succ]
                  refine wpAnyH_ready (rs := [12]) (by kernel_rfl) (by simp) ?_
                  refine AllReadyH.cons (nthL_get rfl) (fun K hK => ?_) AllReadyH.nil
                  go_simp
                  refine (HS2.out _).mono ?_
                  rintro e w5 ⟨rfl, rfl⟩
                  refine hK.out _ _ ⟨c0, c1, c2, c3⟩ (fun hHeld => ?_)
                  clear hK K
                  simp only [List.setIfInBounds_toArray, List.set_cons_zero, List.set_cons_succ]
                  refine takeH (i := 13) (v := .bool true) rfl rfl (by kernel_rfl) (by kernel_rfl) (by kernel_rfl) (fun _ _ _ h => h) (Or.inl ⟨rfl, by intro w' hSw; generalize hE : Act.eval _ = ρ; have e52 : ρ (.tmp 52) = .bool true := (by rw [← hE]; rfl); have e55 : ρ (.tmp 55) = .bool true := (by rw [← hE]; rfl); have ec : ρ (.const (.bool false)) = .bool false := (by rw [← hE]; rfl); clear hE; go_simp⟩) hHeld ?_
                  simp only [List.set_cons_zero, List.set_cons_succ]
                  refine takeH (i := 14) (v := .bool true) rfl rfl (by kernel_rfl) (by kernel_rfl) (by kernel_rfl) (fun _ _ _ h => h) (Or.inl ⟨rfl, fun _ _ => rfl⟩) hHeld ?_
                  simp only [List.set_cons_zero, List.set_cons_succ]
                  refine takeH (i := 15) (v := .pointer (some ⟨P9, 3, none⟩)) rfl rfl (by kernel_rfl) (by kernel_rfl) (by kernel_rfl) (fun _ _ _ h => h) (Or.inl ⟨rfl, by intro w' hSw; generalize hE : Act.eval _ = ρ; have e9 : ρ (.tmp 9) = .pointer (some ⟨P9, 0, none⟩) := (by rw [← hE]; rfl); clear hE; go_simp⟩) hHeld ?_
                  simp only [List.set_cons_zero, List.set_cons_succ]
                  refine takeH (i := 16) (v := .int .i64 x3) rfl rfl (by kernel_rfl) (by kernel_rfl) (by kernel_rfl) (fun _ _ _ h => h) (Or.inl ⟨rfl, by intro w' hSw; generalize hE : Act.eval _ = ρ; have e58 : ρ (.tmp 58) = .pointer (some ⟨P9, 3, none⟩) := (by rw [← hE]; rfl); clear hE; go_simp⟩) hHeld ?_
                  simp only [List.set_cons_zero, List.set_cons_succ]
                  refine wpAnyH_ready (rs := [17]) (by kernel_rfl) (by simp) ?_
                  refine AllReadyH.cons (nthL_get rfl) (fun K hK => ?_) AllReadyH.nil
                  go_simp
                  refine (HS3.out _).mono ?_
                  rintro e w5 ⟨rfl, rfl⟩
                  refine hK.out _ _ ⟨c0, c1, c2, c3⟩ (fun hHeld => ?_)
                  clear hK K
                  simp only [List.setIfInBounds_toArray, List.set_cons_zero, List.set_cons_succ]
                  refine takeH (i := 18) (v := .bool true) rfl rfl (by kernel_rfl) (by kernel_rfl) (by kernel_rfl) (fun _ _ _ h => h) (Or.inl ⟨rfl, by intro w' hSw; generalize hE : Act.eval _ = ρ; have e57 : ρ (.tmp 57) = .bool true := (by rw [← hE]; rfl); have e60 : ρ (.tmp 60) = .bool true := (by rw [← hE]; rfl); have ec : ρ (.const (.bool false)) = .bool false := (by rw [← hE]; rfl); clear hE; go_simp⟩) hHeld ?_
                  simp only [List.set_cons_zero, List.set_cons_succ]
                  refine takeH (i := 19) (v := .bool true) rfl rfl (by kernel_rfl) (by kernel_rfl) (by kernel_rfl) (fun _ _ _ h => h) (Or.inl ⟨rfl, fun _ _ => rfl⟩) hHeld ?_
                  simp only [List.set_cons_zero, List.set_cons_succ]
                  refine takeH (i := 20) (v := .pointer (some ⟨P9, 0, none⟩)) rfl rfl (by kernel_rfl) (by kernel_rfl) (by kernel_rfl) (fun _ _ _ h => h) (Or.inl ⟨rfl, by intro w' hSw; generalize hE : Act.eval _ = ρ; have e9 : ρ (.tmp 9) = .pointer (some ⟨P9, 0, none⟩) := (by rw [← hE]; rfl); clear hE; go_simp⟩) hHeld ?_
                  simp only [List.set_cons_zero, List.set_cons_succ]
                  refine takeH (i := 21) (v := .int .i64 x0) rfl rfl (by kernel_rfl) (by kernel_rfl) (by kernel_rfl) (fun _ _ _ h => h) (Or.inl ⟨rfl, by intro w' hSw; generalize hE : Act.eval _ = ρ; have e63 : ρ (.tmp 63) = .pointer (some ⟨P9, 0, none⟩) := (by rw [← hE]; rfl); clear hE; go_simp⟩) hHeld ?_
                  simp only [List.set_cons_zero, List.set_cons_succ]
                  refine takeH (i := 22) (v := .int .i64 r0) rfl rfl (by kernel_rfl) (by kernel_rfl) (by kernel_rfl) (fun _ _ _ h => h) (Or.inl ⟨rfl, by intro w' hSw; generalize hE : Act.eval _ = ρ; have e64 : ρ (.tmp 64) = .int .i64 x0 := (by rw [← hE]; rfl); have ec : ρ (.const (.int .i64 2)) = .int .i64 2 := (by rw [← hE]; rfl); clear hE; go_simp⟩) hHeld ?_
                  simp only [List.set_cons_zero, List.set_cons_succ]
                  refine takeH (i := 23) (v := .int .i64 (k : Int)) rfl rfl (by kernel_rfl) (by kernel_rfl) (by kernel_rfl) (fun _ _ _ h => h) (Or.inl ⟨rfl, fun _ _ => rfl⟩) hHeld ?_
                  simp only [List.set_cons_zero, List.set_cons_succ]
                  refine takeH (i := 24) (v := .bool true) rfl rfl (by kernel_rfl) (by kernel_rfl) (by kernel_rfl) (fun _ _ _ h => h) (Or.inl ⟨rfl, by intro w' hSw; generalize hE : Act.eval _ = ρ; have e65 : ρ (.tmp 65) = .int .i64 r0 := (by rw [← hE]; rfl); have e66 : ρ (.tmp 66) = .int .i64 (k : Int) := (by rw [← hE]; rfl); clear hE; go_simp⟩) hHeld ?_
                  simp only [List.set_cons_zero, List.set_cons_succ]
                  refine takeH (i := 25) (v := .bool true) rfl rfl (by kernel_rfl) (by kernel_rfl) (by kernel_rfl) (fun _ _ _ h => h) (Or.inl ⟨rfl, by intro w' hSw; generalize hE : Act.eval _ = ρ; have e62 : ρ (.tmp 62) = .bool true := (by rw [← hE]; rfl); have e67 : ρ (.tmp 67) = .bool true := (by rw [← hE]; rfl); have ec : ρ (.const (.bool false)) = .bool false := (by rw [← hE]; rfl); clear hE; go_simp⟩) hHeld ?_
                  simp only [List.set_cons_zero, List.set_cons_succ]
                  refine takeH (i := 26) (v := .bool true) rfl rfl (by kernel_rfl) (by kernel_rfl) (by kernel_rfl) (fun _ _ _ h => h) (Or.inl ⟨rfl, fun _ _ => rfl⟩) hHeld ?_
                  simp only [List.set_cons_zero, List.set_cons_succ]
                  refine takeH (i := 27) (v := .pointer (some ⟨P9, 2, none⟩)) rfl rfl (by kernel_rfl) (by kernel_rfl) (by kernel_rfl) (fun _ _ _ h => h) (Or.inl ⟨rfl, by intro w' hSw; generalize hE : Act.eval _ = ρ; have e9 : ρ (.tmp 9) = .pointer (some ⟨P9, 0, none⟩) := (by rw [← hE]; rfl); clear hE; go_simp⟩) hHeld ?_
                  simp only [List.set_cons_zero, List.set_cons_succ]
                  refine takeH (i := 28) (v := .int .i64 x2) rfl rfl (by kernel_rfl) (by kernel_rfl) (by kernel_rfl) (fun _ _ _ h => h) (Or.inl ⟨rfl, by intro w' hSw; generalize hE : Act.eval _ = ρ; have e70 : ρ (.tmp 70) = .pointer (some ⟨P9, 2, none⟩) := (by rw [← hE]; rfl); clear hE; go_simp⟩) hHeld ?_
                  simp only [List.set_cons_zero, List.set_cons_succ]
                  refine takeH (i := 29) (v := .pointer (some ⟨P9, 3, none⟩)) rfl rfl (by kernel_rfl) (by kernel_rfl) (by kernel_rfl) (fun _ _ _ h => h) (Or.inl ⟨rfl, by intro w' hSw; generalize hE : Act.eval _ = ρ; have e9 : ρ (.tmp 9) = .pointer (some ⟨P9, 0, none⟩) := (by rw [← hE]; rfl); clear hE; go_simp⟩) hHeld ?_
                  simp only [List.set_cons_zero, List.set_cons_succ]
                  refine takeH (i := 30) (v := .int .i64 x3) rfl rfl (by kernel_rfl) (by kernel_rfl) (by kernel_rfl) (fun _ _ _ h => h) (Or.inl ⟨rfl, by intro w' hSw; generalize hE : Act.eval _ = ρ; have e72 : ρ (.tmp 72) = .pointer (some ⟨P9, 3, none⟩) := (by rw [← hE]; rfl); clear hE; go_simp⟩) hHeld ?_
                  simp only [List.set_cons_zero, List.set_cons_succ]
                  refine takeH (i := 31) (v := .bool false) rfl rfl (by kernel_rfl) (by kernel_rfl) (by kernel_rfl) (fun _ _ _ h => h) (Or.inl ⟨rfl, by intro w' hSw; generalize hE : Act.eval _ = ρ; have e71 : ρ (.tmp 71) = .int .i64 x2 := (by rw [← hE]; rfl); have e73 : ρ (.tmp 73) = .int .i64 x3 := (by rw [← hE]; rfl); clear hE; go_simp⟩) hHeld ?_
                  simp only [List.set_cons_zero, List.set_cons_succ]
                  refine takeH (i := 32) (v := .bool false) rfl rfl (by kernel_rfl) (by kernel_rfl) (by kernel_rfl) (fun _ _ _ h => h) (Or.inl ⟨rfl, by intro w' hSw; generalize hE : Act.eval _ = ρ; have e69 : ρ (.tmp 69) = .bool true := (by rw [← hE]; rfl); have e74 : ρ (.tmp 74) = .bool false := (by rw [← hE]; rfl); have ec : ρ (.const (.bool false)) = .bool false := (by rw [← hE]; rfl); clear hE; go_simp⟩) hHeld ?_
                  simp only [List.set_cons_zero, List.set_cons_succ]
                  refine takeH (i := 33) (v := .bool false) rfl rfl (by kernel_rfl) (by kernel_rfl) (by kernel_rfl) (fun _ _ _ h => h) (Or.inl ⟨rfl, fun _ _ => rfl⟩) hHeld ?_
                  simp only [List.set_cons_zero, List.set_cons_succ]
                  refine takeH (i := 34) (v := undef) rfl rfl (by kernel_rfl) (by kernel_rfl) (by kernel_rfl) (fun _ _ _ h => h) (Or.inr ⟨rfl, rfl⟩) hHeld ?_
                  simp only [List.set_cons_zero, List.set_cons_succ]
                  refine takeH (i := 35) (v := undef) rfl rfl (by kernel_rfl) (by kernel_rfl) (by kernel_rfl) (fun _ _ _ h => h) (Or.inr ⟨rfl, rfl⟩) hHeld ?_
                  simp only [List.set_cons_zero, List.set_cons_succ]
                  refine takeH (i := 36) (v := undef) rfl rfl (by kernel_rfl) (by kernel_rfl) (by kernel_rfl) (fun _ _ _ h => h) (Or.inr ⟨rfl, rfl⟩) hHeld ?_
                  simp only [List.set_cons_zero, List.set_cons_succ]
                  refine takeH (i := 37) (v := undef) rfl rfl (by kernel_rfl) (by kernel_rfl) (by kernel_rfl) (fun _ _ _ h => h) (Or.inr ⟨rfl, rfl⟩) hHeld ?_
                  simp only [List.set_cons_zero, List.set_cons_succ]
                  refine takeH (i := 38) (v := undef) rfl rfl (by kernel_rfl) (by kernel_rfl) (by kernel_rfl) (fun _ _ _ h => h) (Or.inr ⟨rfl, rfl⟩) hHeld ?_
                  simp only [List.set_cons_zero, List.set_cons_succ]
                  refine takeH (i := 39) (v := undef) rfl rfl (by kernel_rfl) (by kernel_rfl) (by kernel_rfl) (fun _ _ _ h => h) (Or.inr ⟨rfl, rfl⟩) hHeld ?_
                  simp only [List.set_cons_zero, List.set_cons_succ]
                  refine takeH (i := 40) (v := undef) rfl rfl (by kernel_rfl) (by kernel_rfl) (by kernel_rfl) (fun _ _ _ h => h) (Or.inr ⟨rfl, rfl⟩) hHeld ?_
                  simp only [List.set_cons_zero, List.set_cons_succ]
                  refine takeH (i := 41) (v := .bool false) rfl rfl (by kernel_rfl) (by kernel_rfl) (by kernel_rfl) (fun _ _ _ h => h) (Or.inl ⟨rfl, by intro w' hSw; generalize hE : Act.eval _ = ρ; have e76 : ρ (.tmp 76) = .bool false := (by rw [← hE]; rfl); have e83 : ρ (.tmp 83) = undef := (by rw [← hE]; rfl); have ec : ρ (.const (.bool false)) = .bool false := (by rw [← hE]; rfl); clear hE; go_simp⟩) hHeld ?_
                  simp only [List.set_cons_zero, List.set_cons_succ]
                  refine wpAnyH_ready (rs := [42]) (by kernel_rfl) (by simp) ?_
                  refine AllReadyH.cons (nthL_get rfl) (fun K hK => ?_) AllReadyH.nil
                  go_simp
                  refine hK.out _ _ ?_ (fun hHeld => ?_)
                  · with_reducible exact hks
                  clear hK K
                  simp only [List.setIfInBounds_toArray, List.set_cons_zero, List.set_cons_succ]
                  refine takeH (i := 43) (v := .bool false) rfl rfl (by kernel_rfl) (by kernel_rfl) (by kernel_rfl) (fun _ _ _ h => h) (Or.inl ⟨rfl, fun _ _ => rfl⟩) hHeld ?_
                  simp only [List.set_cons_zero, List.set_cons_succ]
                  refine wpAnyH_done (by kernel_rfl) ?_ _
                  go_wp2_with fail
                  refine bodyPost_ret (v := .tuple #[.agg #[.int .i64 x0, .int .i64 x1, .int .i64 x2, .int .i64 x3], .bool false]) (by simp [results, Tryz.f56, go_sem, r0c, r1c, r2c, r3c]) rfl ⟨x0, x1, x2, x3, by rw [HFIN.out], HPQ.out, hbF⟩
                | true =>
                  cases hs6 : decide (x3 ≤ x2 + (n : Int)) with
                  | false =>
                    have hfin : (readHd L k n).2 = false := by rw [← hph1]; simp [hs0, hs1, hs2, hs3, hs4, hs5, hs6]
                    have HFIN := Lib.hid hfin
                    have HS0 := Lib.hid (fun (w' : World) => (small_any x0 w'))
                    rw [hs0] at HS0
                    have HS1 := Lib.hid (fun (w' : World) => (small_any x1 w'))
                    rw [hs1] at HS1
                    have HS2 := Lib.hid (fun (w' : World) => (small_any x2 w'))
                    rw [hs2] at HS2
                    have HS3 := Lib.hid (fun (w' : World) => (small_any x3 w'))
                    rw [hs3] at HS3
                    clear hph1 hfin
                    refine startH (S := (fun w' => w'.cell? ⟨P9, 0, none⟩ = some (Value.int .i64 x0) ∧ w'.cell? ⟨P9, 1, none⟩ = some (Value.int .i64 x1) ∧ w'.cell? ⟨P9, 2, none⟩ = some (Value.int .i64 x2) ∧ w'.cell? ⟨P9, 3, none⟩ = some (Value.int .i64 x3))) 44 (by kernel_rfl) (by kernel_rfl) ⟨c0, c1, c2, c3⟩ (fun hHeld => ?_)
                    simp only [List.replicate_succ, List.replicate_zero]
                    refine takeH (i := 0) (v := .agg #[.int .i64 x0, .int .i64 x1, .int .i64 x2, .int .i64 x3]) rfl rfl (by kernel_rfl) (by kernel_rfl) (by kernel_rfl) (fun _ _ _ h => h) (Or.inl ⟨rfl, by intro w' hSw; generalize hE : Act.eval _ = ρ; have e9 : ρ (.tmp 9) = .pointer (some ⟨P9, 0, none⟩) := (by rw [← hE]; rfl); clear hE; go_simp⟩) hHeld ?_
                    simp only [List.set_cons_zero, List.set_cons_succ]
                    refine takeH (i := 1) (v := .pointer (some ⟨P9, 0, none⟩)) rfl rfl (by kernel_rfl) (by kernel_rfl) (by kernel_rfl) (fun _ _ _ h => h) (Or.inl ⟨rfl, by intro w' hSw; generalize hE : Act.eval _ = ρ; have e9 : ρ (.tmp 9) = .pointer (some ⟨P9, 0, none⟩) := (by rw [← hE]; rfl); clear hE; go_simp⟩) hHeld ?_
                    simp only [List.set_cons_zero, List.set_cons_succ]
                    refine takeH (i := 2) (v := .int .i64 x0) rfl rfl (by kernel_rfl) (by kernel_rfl) (by kernel_rfl) (fun _ _ _ h => h) (Or.inl ⟨rfl, by intro w' hSw; generalize hE : Act.eval _ = ρ; have e44 : ρ (.tmp 44) = .pointer (some ⟨P9, 0, none⟩) := (by rw [← hE]; rfl); clear hE; go_simp⟩) hHeld ?_
                    simp only [List.set_cons_zero, List.set_cons_succ]
                    refine wpAnyH_ready (rs := [3]) (by kernel_rfl) (by simp) ?_
                    refine AllReadyH.cons (nthL_get rfl) (fun K hK => ?_) AllReadyH.nil
                    go_simp
                    refine (HS0.out _).mono ?_
                    rintro e w5 ⟨rfl, rfl⟩
                    refine hK.out _ _ ⟨c0, c1, c2, c3⟩ (fun hHeld => ?_)
                    clear hK K
                    simp only [List.setIfInBounds_toArray, List.set_cons_zero, List.set_cons_succ]
                    refine takeH (i := 4) (v := .bool true) rfl rfl (by kernel_rfl) (by kernel_rfl) (by kernel_rfl) (fun _ _ _ h => h) (Or.inl ⟨rfl, fun _ _ => rfl⟩) hHeld ?_
                    simp only [List.set_cons_zero, List.set_cons_succ]
                    refine takeH (i := 5) (v := .pointer (some ⟨P9, 1, none⟩)) rfl rfl (by kernel_rfl) (by kernel_rfl) (by kernel_rfl) (fun _ _ _ h => h) (Or.inl ⟨rfl, by intro w' hSw; generalize hE : Act.eval _ = ρ; have e9 : ρ (.tmp 9) = .pointer (some ⟨P9, 0, none⟩) := (by rw [← hE]; rfl); clear hE; go_simp⟩) hHeld ?_
                    simp only [List.set_cons_zero, List.set_cons_succ]
                    refine takeH (i := 6) (v := .int .i64 x1) rfl rfl (by kernel_rfl) (by kernel_rfl) (by kernel_rfl) (fun _ _ _ h => h) (Or.inl ⟨rfl, by intro w' hSw; generalize hE : Act.eval _ = ρ; have e48 : ρ (.tmp 48) = .pointer (some ⟨P9, 1, none⟩) := (by rw [← hE]; rfl); clear hE; go_simp⟩) hHeld ?_
                    simp only [List.set_cons_zero, List.set_cons_succ]
                    refine wpAnyH_ready (rs := [7]) (by kernel_rfl) (by simp) ?_
                    refine AllReadyH.cons (nthL_get rfl) (fun K hK => ?_) AllReadyH.nil
                    go_simp
                    refine (HS1.out _).mono ?_
                    rintro e w5 ⟨rfl, rfl⟩
                    refine hK.out _ _ ⟨c0, c1, c2, c3⟩ (fun hHeld => ?_)
                    clear hK K
                    simp only [List.setIfInBounds_toArray, List.set_cons_zero, List.set_cons_succ]
                    refine takeH (i := 8) (v := .bool true) rfl rfl (by kernel_rfl) (by kernel_rfl) (by kernel_rfl) (fun _ _ _ h => h) (Or.inl ⟨rfl, by intro w' hSw; generalize hE : Act.eval _ = ρ; have e47 : ρ (.tmp 47) = .bool true := (by rw [← hE]; rfl); have e50 : ρ (.tmp 50) = .bool true := (by rw [← hE]; rfl); have ec : ρ (.const (.bool false)) = .bool false := (by rw [← hE]; rfl); clear hE; go_simp⟩) hHeld ?_
                    simp only [List.set_cons_zero, List.set_cons_succ]
                    refine takeH (i := 9) (v := .bool true) rfl rfl (by kernel_rfl) (by kernel_rfl) (by kernel_rfl) (fun _ _ _ h => h) (Or.inl ⟨rfl, fun _ _ => rfl⟩) hHeld ?_
                    simp only [List.set_cons_zero, List.set_cons_succ]
                    refine takeH (i := 10) (v := .pointer (some ⟨P9, 2, none⟩)) rfl rfl (by kernel_rfl) (by kernel_rfl) (by kernel_rfl) (fun _ _ _ h => h) (Or.inl ⟨rfl, by intro w' hSw; generalize hE : Act.eval _ = ρ; have e9 : ρ (.tmp 9) = .pointer (some ⟨P9, 0, none⟩) := (by rw [← hE]; rfl); clear hE; go_simp⟩) hHeld ?_
                    simp only [List.set_cons_zero, List.set_cons_succ]
                    refine takeH (i := 11) (v := .int .i64 x2) rfl rfl (by kernel_rfl) (by kernel_rfl) (by kernel_rfl) (fun _ _ _ h => h) (Or.inl ⟨rfl, by intro w' hSw; generalize hE : Act.eval _ = ρ; have e53 : ρ (.tmp 53) = .pointer (some ⟨P9, 2, none⟩) := (by rw [← hE]; rfl); clear hE; go_simp⟩) hHeld ?_
                    simp only [List.set_cons_zero, List.set_cons_succ]
                    refine wpAnyH_ready (rs := [12]) (by kernel_rfl) (by simp) ?_
                    refine AllReadyH.cons (nthL_get rfl) (fun K hK => ?_) AllReadyH.nil
                    go_simp
                    refine (HS2.out _).mono ?_
                    rintro e w5 ⟨rfl, rfl⟩
                    refine hK.out _ _ ⟨c0, c1, c2, c3⟩ (fun hHeld => ?_)
                    clear hK K
                    simp only [List.setIfInBounds_toArray, List.set_cons_zero, List.set_cons_succ]
                    refine takeH (i := 13) (v := .bool true) rfl rfl (by kernel_rfl) (by kernel_rfl) (by kernel_rfl) (fun _ _ _ h => h) (Or.inl ⟨rfl, by intro w' hSw; generalize hE : Act.eval _ = ρ; have e52 : ρ (.tmp 52) = .bool true := (by rw [← hE]; rfl); have e55 : ρ (.tmp 55) = .bool true := (by rw [← hE]; rfl); have ec : ρ (.const (.bool false)) = .bool false := (by rw [← hE]; rfl); clear hE; go_simp⟩) hHeld ?_
                    simp only [List.set_cons_zero, List.set_cons_succ]
                    refine takeH (i := 14) (v := .bool true) rfl rfl (by kernel_rfl) (by kernel_rfl) (by kernel_rfl) (fun _ _ _ h => h) (Or.inl ⟨rfl, fun _ _ => rfl⟩) hHeld ?_
                    simp only [List.set_cons_zero, List.set_cons_succ]
                    refine takeH (i := 15) (v := .pointer (some ⟨P9, 3, none⟩)) rfl rfl (by kernel_rfl) (by kernel_rfl) (by kernel_rfl) (fun _ _ _ h => h) (Or.inl ⟨rfl, by intro w' hSw; generalize hE : Act.eval _ = ρ; have e9 : ρ (.tmp 9) = .pointer (some ⟨P9, 0, none⟩) := (by rw [← hE]; rfl); clear hE; go_simp⟩) hHeld ?_
                    simp only [List.set_cons_zero, List.set_cons_succ]
                    refine takeH (i := 16) (v := .int .i64 x3) rfl rfl (by kernel_rfl) (by kernel_rfl) (by kernel_rfl) (fun _ _ _ h => h) (Or.inl ⟨rfl, by intro w' hSw; generalize hE : Act.eval _ = ρ; have e58 : ρ (.tmp 58) = .pointer (some ⟨P9, 3, none⟩) := (by rw [← hE]; rfl); clear hE; go_simp⟩) hHeld ?_
                    simp only [List.set_cons_zero, List.set_cons_succ]
                    refine wpAnyH_ready (rs := [17]) (by kernel_rfl) (by simp) ?_
                    refine AllReadyH.cons (nthL_get rfl) (fun K hK => ?_) AllReadyH.nil
                    go_simp
                    refine (HS3.out _).mono ?_
                    rintro e w5 ⟨rfl, rfl⟩
                    refine hK.out _ _ ⟨c0, c1, c2, c3⟩ (fun hHeld => ?_)
                    clear hK K
                    simp only [List.setIfInBounds_toArray, List.set_cons_zero, List.set_cons_succ]
                    refine takeH (i := 18) (v := .bool true) rfl rfl (by kernel_rfl) (by kernel_rfl) (by kernel_rfl) (fun _ _ _ h => h) (Or.inl ⟨rfl, by intro w' hSw; generalize hE : Act.eval _ = ρ; have e57 : ρ (.tmp 57) = .bool true := (by rw [← hE]; rfl); have e60 : ρ (.tmp 60) = .bool true := (by rw [← hE]; rfl); have ec : ρ (.const (.bool false)) = .bool false := (by rw [← hE]; rfl); clear hE; go_simp⟩) hHeld ?_
                    simp only [List.set_cons_zero, List.set_cons_succ]
                    refine takeH (i := 19) (v := .bool true) rfl rfl (by kernel_rfl) (by kernel_rfl) (by kernel_rfl) (fun _ _ _ h => h) (Or.inl ⟨rfl, fun _ _ => rfl⟩) hHeld ?_
                    simp only [List.set_cons_zero, List.set_cons_succ]
                    refine takeH (i := 20) (v := .pointer (some ⟨P9, 0, none⟩)) rfl rfl (by kernel_rfl) (by kernel_rfl) (by kernel_rfl) (fun _ _ _ h => h) (Or.inl ⟨rfl, by intro w' hSw; generalize hE : Act.eval _ = ρ; have e9 : ρ (.tmp 9) = .pointer (some ⟨P9, 0, none⟩) := (by rw [← hE]; rfl); clear hE; go_simp⟩) hHeld ?_
                    simp only [List.set_cons_zero, List.set_cons_succ]
                    refine takeH (i := 21) (v := .int .i64 x0) rfl rfl (by kernel_rfl) (by kernel_rfl) (by kernel_rfl) (fun _ _ _ h => h) (Or.inl ⟨rfl, by intro w' hSw; generalize hE : Act.eval _ = ρ; have e63 : ρ (.tmp 63) = .pointer (some ⟨P9, 0, none⟩) := (by rw [← hE]; rfl); clear hE; go_simp⟩) hHeld ?_
                    simp only [List.set_cons_zero, List.set_cons_succ]
                    refine takeH (i := 22) (v := .int .i64 r0) rfl rfl (by kernel_rfl) (by kernel_rfl) (by kernel_rfl) (fun _ _ _ h => h) (Or.inl ⟨rfl, by intro w' hSw; generalize hE : Act.eval _ = ρ; have e64 : ρ (.tmp 64) = .int .i64 x0 := (by rw [← hE]; rfl); have ec : ρ (.const (.int .i64 2)) = .int .i64 2 := (by rw [← hE]; rfl); clear hE; go_simp⟩) hHeld ?_
                    simp only [List.set_cons_zero, List.set_cons_succ]
                    refine takeH (i := 23) (v := .int .i64 (k : Int)) rfl rfl (by kernel_rfl) (by kernel_rfl) (by kernel_rfl) (fun _ _ _ h => h) (Or.inl ⟨rfl, fun _ _ => rfl⟩) hHeld ?_
                    simp only [List.set_cons_zero, List.set_cons_succ]
                    refine takeH (i := 24) (v := .bool true) rfl rfl (by kernel_rfl) (by kernel_rfl) (by kernel_rfl) (fun _ _ _ h => h) (Or.inl ⟨rfl, by intro w' hSw; generalize hE : Act.eval _ = ρ; have e65 : ρ (.tmp 65) = .int .i64 r0 := (by rw [← hE]; rfl); have e66 : ρ (.tmp 66) = .int .i64 (k : Int) := (by rw [← hE]; rfl); clear hE; go_simp⟩) hHeld ?_
                    simp only [List.set_cons_zero, List.set_cons_succ]
                    refine takeH (i := 25) (v := .bool true) rfl rfl (by kernel_rfl) (by kernel_rfl) (by kernel_rfl) (fun _ _ _ h => h) (Or.inl ⟨rfl, by intro w' hSw; generalize hE : Act.eval _ = ρ; have e62 : ρ (.tmp 62) = .bool true := (by rw [← hE]; rfl); have e67 : ρ (.tmp 67) = .bool true := (by rw [← hE]; rfl); have ec : ρ (.const (.bool false)) = .bool false := (by rw [← hE]; rfl); clear hE; go_simp⟩) hHeld ?_
                    simp only [List.set_cons_zero, List.set_cons_succ]
                    refine takeH (i := 26) (v := .bool true) rfl rfl (by kernel_rfl) (by kernel_rfl) (by kernel_rfl) (fun _ _ _ h => h) (Or.inl ⟨rfl, fun _ _ => rfl⟩) hHeld ?_
                    simp only [List.set_cons_zero, List.set_cons_succ]
                    refine takeH (i := 27) (v := .pointer (some ⟨P9, 2, none⟩)) rfl rfl (by kernel_rfl) (by kernel_rfl) (by kernel_rfl) (fun _ _ _ h => h) (Or.inl ⟨rfl, by intro w' hSw; generalize hE : Act.eval _ = ρ; have e9 : ρ (.tmp 9) = .pointer (some ⟨P9, 0, none⟩) := (by rw [← hE]; rfl); clear hE; go_simp⟩) hHeld ?_
                    simp only [List.set_cons_zero, List.set_cons_succ]
                    refine takeH (i := 28) (v := .int .i64 x2) rfl rfl (by kernel_rfl) (by kernel_rfl) (by kernel_rfl) (fun _ _ _ h => h) (Or.inl ⟨rfl, by intro w' hSw; generalize hE : Act.eval _ = ρ; have e70 : ρ (.tmp 70) = .pointer (some ⟨P9, 2, none⟩) := (by rw [← hE]; rfl); clear hE; go_simp⟩) hHeld ?_
                    simp only [List.set_cons_zero, List.set_cons_succ]
                    refine takeH (i := 29) (v := .pointer (some ⟨P9, 3, none⟩)) rfl rfl (by kernel_rfl) (by kernel_rfl) (by kernel_rfl) (fun _ _ _ h => h) (Or.inl ⟨rfl, by intro w' hSw; generalize hE : Act.eval _ = ρ; have e9 : ρ (.tmp 9) = .pointer (some ⟨P9, 0, none⟩) := (by rw [← hE]; rfl); clear hE; go_simp⟩) hHeld ?_
                    simp only [List.set_cons_zero, List.set_cons_succ]
                    refine takeH (i := 30) (v := .int .i64 x3) rfl rfl (by kernel_rfl) (by kernel_rfl) (by kernel_rfl) (fun _ _ _ h => h) (Or.inl ⟨rfl, by intro w' hSw; generalize hE : Act.eval _ = ρ; have e72 : ρ (.tmp 72) = .pointer (some ⟨P9, 3, none⟩) := (by rw [← hE]; rfl); clear hE; go_simp⟩) hHeld ?_
                    simp only [List.set_cons_zero, List.set_cons_succ]
                    refine takeH (i := 31) (v := .bool true) rfl rfl (by kernel_rfl) (by kernel_rfl) (by kernel_rfl) (fun _ _ _ h => h) (Or.inl ⟨rfl, by intro w' hSw; generalize hE : Act.eval _ = ρ; have e71 : ρ (.tmp 71) = .int .i64 x2 := (by rw [← hE]; rfl); have e73 : ρ (.tmp 73) = .int .i64 x3 := (by rw [← hE]; rfl); clear hE; go_simp⟩) hHeld ?_
                    simp only [List.set_cons_zero, List.set_cons_succ]
                    refine takeH (i := 32) (v := .bool true) rfl rfl (by kernel_rfl) (by kernel_rfl) (by kernel_rfl) (fun _ _ _ h => h) (Or.inl ⟨rfl, by intro w' hSw; generalize hE : Act.eval _ = ρ; have e69 : ρ (.tmp 69) = .bool true := (by rw [← hE]; rfl); have e74 : ρ (.tmp 74) = .bool true := (by rw [← hE]; rfl); have ec : ρ (.const (.bool false)) = .bool false := (by rw [← hE]; rfl); clear hE; go_simp⟩) hHeld ?_
                    simp only [List.set_cons_zero, List.set_cons_succ]
                    refine takeH (i := 33) (v := .bool true) rfl rfl (by kernel_rfl) (by kernel_rfl) (by kernel_rfl) (fun _ _ _ h => h) (Or.inl ⟨rfl, fun _ _ => rfl⟩) hHeld ?_
                    simp only [List.set_cons_zero, List.set_cons_succ]
                    refine takeH (i := 34) (v := .pointer (some ⟨P9, 3, none⟩)) rfl rfl (by kernel_rfl) (by kernel_rfl) (by kernel_rfl) (fun _ _ _ h => h) (Or.inl ⟨rfl, by intro w' hSw; generalize hE : Act.eval _ = ρ; have e9 : ρ (.tmp 9) = .pointer (some ⟨P9, 0, none⟩) := (by rw [← hE]; rfl); clear hE; go_simp⟩) hHeld ?_
                    simp only [List.set_cons_zero, List.set_cons_succ]
                    refine takeH (i := 35) (v := .int .i64 x3) rfl rfl (by kernel_rfl) (by kernel_rfl) (by kernel_rfl) (fun _ _ _ h => h) (Or.inl ⟨rfl, by intro w' hSw; generalize hE : Act.eval _ = ρ; have e77 : ρ (.tmp 77) = .pointer (some ⟨P9, 3, none⟩) := (by rw [← hE]; rfl); clear hE; go_simp⟩) hHeld ?_
                    simp only [List.set_cons_zero, List.set_cons_succ]
                    refine takeH (i := 36) (v := .pointer (some ⟨P9, 2, none⟩)) rfl rfl (by kernel_rfl) (by kernel_rfl) (by kernel_rfl) (fun _ _ _ h => h) (Or.inl ⟨rfl, by intro w' hSw; generalize hE : Act.eval _ = ρ; have e9 : ρ (.tmp 9) = .pointer (some ⟨P9, 0, none⟩) := (by rw [← hE]; rfl); clear hE; go_simp⟩) hHeld ?_
                    simp only [List.set_cons_zero, List.set_cons_succ]
                    refine takeH (i := 37) (v := .int .i64 x2) rfl rfl (by kernel_rfl) (by kernel_rfl) (by kernel_rfl) (fun _ _ _ h => h) (Or.inl ⟨rfl, by intro w' hSw; generalize hE : Act.eval _ = ρ; have e79 : ρ (.tmp 79) = .pointer (some ⟨P9, 2, none⟩) := (by rw [← hE]; rfl); clear hE; go_simp⟩) hHeld ?_
                    simp only [List.set_cons_zero, List.set_cons_succ]
                    refine takeH (i := 38) (v := .int .i64 (n : Int)) rfl rfl (by kernel_rfl) (by kernel_rfl) (by kernel_rfl) (fun _ _ _ h => h) (Or.inl ⟨rfl, fun _ _ => rfl⟩) hHeld ?_
                    simp only [List.set_cons_zero, List.set_cons_succ]
                    refine takeH (i := 39) (v := .int .i64 (x2 + (n : Int))) rfl rfl (by kernel_rfl) (by kernel_rfl) (by kernel_rfl) (fun _ _ _ h => h) (Or.inl ⟨rfl, by intro w' hSw; generalize hE : Act.eval _ = ρ; have e80 : ρ (.tmp 80) = .int .i64 x2 := (by rw [← hE]; rfl); have e81 : ρ (.tmp 81) = .int .i64 (n : Int) := (by rw [← hE]; rfl); clear hE; go_simp⟩) hHeld ?_
                    simp only [List.set_cons_zero, List.set_cons_succ]
                    refine takeH (i := 40) (v := .bool false) rfl rfl (by kernel_rfl) (by kernel_rfl) (by kernel_rfl) (fun _ _ _ h => h) (Or.inl ⟨rfl, by intro w' hSw; generalize hE : Act.eval _ = ρ; have e78 : ρ (.tmp 78) = .int .i64 x3 := (by rw [← hE]; rfl); have e82 : ρ (.tmp 82) = .int .i64 (x2 + (n : Int)) := (by rw [← hE]; rfl); clear hE; go_simp⟩) hHeld ?_
                    simp only [List.set_cons_zero, List.set_cons_succ]
                    refine takeH (i := 41) (v := .bool false) rfl rfl (by kernel_rfl) (by kernel_rfl) (by kernel_rfl) (fun _ _ _ h => h) (Or.inl ⟨rfl, by intro w' hSw; generalize hE : Act.eval _ = ρ; have e76 : ρ (.tmp 76) = .bool true := (by rw [← hE]; rfl); have e83 : ρ (.tmp 83) = .bool false := (by rw [← hE]; rfl); have ec : ρ (.const (.bool false)) = .bool false := (by rw [← hE]; rfl); clear hE; go_simp⟩) hHeld ?_
                    simp only [List.set_cons_zero, List.set_cons_succ]
                    refine wpAnyH_ready (rs := [42]) (by kernel_rfl) (by simp) ?_
                    refine AllReadyH.cons (nthL_get rfl) (fun K hK => ?_) AllReadyH.nil
                    go_simp
                    refine hK.out _ _ ?_ (fun hHeld => ?_)
                    · with_reducible exact hks
                    clear hK K
                    simp only [List.setIfInBounds_toArray, List.set_cons_zero, List.set_cons_succ]
                    refine takeH (i := 43) (v := .bool false) rfl rfl (by kernel_rfl) (by kernel_rfl) (by kernel_rfl) (fun _ _ _ h => h) (Or.inl ⟨rfl, fun _ _ => rfl⟩) hHeld ?_
                    simp only [List.set_cons_zero, List.set_cons_succ]
                    refine wpAnyH_done (by kernel_rfl) ?_ _
                    go_wp2_with fail
                    refine bodyPost_ret (v := .tuple #[.agg #[.int .i64 x0, .int .i64 x1, .int .i64 x2, .int .i64 x3], .bool false]) (by simp [results, Tryz.f56, go_sem, r0c, r1c, r2c, r3c]) rfl ⟨x0, x1, x2, x3, by rw [HFIN.out], HPQ.out, hbF⟩
                  | true =>
                    have hfin : (readHd L k n).2 = true := by rw [← hph1]; simp [hs0, hs1, hs2, hs3, hs4, hs5, hs6]
                    have HFIN := Lib.hid hfin
                    have HS0 := Lib.hid (fun (w' : World) => (small_any x0 w'))
                    rw [hs0] at HS0
                    have HS1 := Lib.hid (fun (w' : World) => (small_any x1 w'))
                    rw [hs1] at HS1
                    have HS2 := Lib.hid (fun (w' : World) => (small_any x2 w'))
                    rw [hs2] at HS2
                    have HS3 := Lib.hid (fun (w' : World) => (small_any x3 w'))
                    rw [hs3] at HS3
                    clear hph1 hfin
                    refine startH (S := (fun w' => w'.cell? ⟨P9, 0, none⟩ = some (Value.int .i64 x0) ∧ w'.cell? ⟨P9, 1, none⟩ = some (Value.int .i64 x1) ∧ w'.cell? ⟨P9, 2, none⟩ = some (Value.int .i64 x2) ∧ w'.cell? ⟨P9, 3, none⟩ = some (Value.int .i64 x3))) 44 (by kernel_rfl) (by kernel_rfl) ⟨c0, c1, c2, c3⟩ (fun hHeld => ?_)
                    simp only [List.replicate_succ, List.replicate_zero]
                    refine takeH (i := 0) (v := .agg #[.int .i64 x0, .int .i64 x1, .int .i64 x2, .int .i64 x3]) rfl rfl (by kernel_rfl) (by kernel_rfl) (by kernel_rfl) (fun _ _ _ h => h) (Or.inl ⟨rfl, by intro w' hSw; generalize hE : Act.eval _ = ρ; have e9 : ρ (.tmp 9) = .pointer (some ⟨P9, 0, none⟩) := (by rw [← hE]; rfl); clear hE; go_simp⟩) hHeld ?_
                    simp only [List.set_cons_zero, List.set_cons_succ]
                    refine takeH (i := 1) (v := .pointer (some ⟨P9, 0, none⟩)) rfl rfl (by kernel_rfl) (by kernel_rfl) (by kernel_rfl) (fun _ _ _ h => h) (Or.inl ⟨rfl, by intro w' hSw; generalize hE : Act.eval _ = ρ; have e9 : ρ (.tmp 9) = .pointer (some ⟨P9, 0, none⟩) := (by rw [← hE]; rfl); clear hE; go_simp⟩) hHeld ?_
                    simp only [List.set_cons_zero, List.set_cons_succ]
                    refine takeH (i := 2) (v := .int .i64 x0) rfl rfl (by kernel_rfl) (by kernel_rfl) (by kernel_rfl) (fun _ _ _ h => h) (Or.inl ⟨rfl, by intro w' hSw; generalize hE : Act.eval _ = ρ; have e44 : ρ (.tmp 44) = .pointer (some ⟨P9, 0, none⟩) := (by rw [← hE]; rfl); clear hE; go_simp⟩) hHeld ?_
                    simp only [List.set_cons_zero, List.set_cons_succ]
                    refine wpAnyH_ready (rs := [3]) (by kernel_rfl) (by simp) ?_
                    refine AllReadyH.cons (nthL_get rfl) (fun K hK => ?_) AllReadyH.nil
                    go_simp
                    refine (HS0.out _).mono ?_
                    rintro e w5 ⟨rfl, rfl⟩
                    refine hK.out _ _ ⟨c0, c1, c2, c3⟩ (fun hHeld => ?_)
                    clear hK K
                    simp only [List.setIfInBounds_toArray, List.set_cons_zero, List.set_cons_succ]
                    refine takeH (i := 4) (v := .bool true) rfl rfl (by kernel_rfl) (by kernel_rfl) (by kernel_rfl) (fun _ _ _ h => h) (Or.inl ⟨rfl, fun _ _ => rfl⟩) hHeld ?_
                    simp only [List.set_cons_zero, List.set_cons_succ]
                    refine takeH (i := 5) (v := .pointer (some ⟨P9, 1, none⟩)) rfl rfl (by kernel_rfl) (by kernel_rfl) (by kernel_rfl) (fun _ _ _ h => h) (Or.inl ⟨rfl, by intro w' hSw; generalize hE : Act.eval _ = ρ; have e9 : ρ (.tmp 9) = .pointer (some ⟨P9, 0, none⟩) := (by rw [← hE]; rfl); clear hE; go_simp⟩) hHeld ?_
                    simp only [List.set_cons_zero, List.set_cons_succ]
                    refine takeH (i := 6) (v := .int .i64 x1) rfl rfl (by kernel_rfl) (by kernel_rfl) (by kernel_rfl) (fun _ _ _ h => h) (Or.inl ⟨rfl, by intro w' hSw; generalize hE : Act.eval _ = ρ; have e48 : ρ (.tmp 48) = .pointer (some ⟨P9, 1, none⟩) := (by rw [← hE]; rfl); clear hE; go_simp⟩) hHeld ?_
                    simp only [List.set_cons_zero, List.set_cons_succ]
                    refine wpAnyH_ready (rs := [7]) (by kernel_rfl) (by simp) ?_
                    refine AllReadyH.cons (nthL_get rfl) (fun K hK => ?_) AllReadyH.nil
                    go_simp
                    refine (HS1.out _).mono ?_
                    rintro e w5 ⟨rfl, rfl⟩
                    refine hK.out _ _ ⟨c0, c1, c2, c3⟩ (fun hHeld => ?_)
                    clear hK K
                    simp only [List.setIfInBounds_toArray, List.set_cons_zero, List.set_cons_succ]
                    refine takeH (i := 8) (v := .bool true) rfl rfl (by kernel_rfl) (by kernel_rfl) (by kernel_rfl) (fun _ _ _ h => h) (Or.inl ⟨rfl, by intro w' hSw; generalize hE : Act.eval _ = ρ; have e47 : ρ (.tmp 47) = .bool true := (by rw [← hE]; rfl); have e50 : ρ (.tmp 50) = .bool true := (by rw [← hE]; rfl); have ec : ρ (.const (.bool false)) = .bool false := (by rw [← hE]; rfl); clear hE; go_simp⟩) hHeld ?_
                    simp only [List.set_cons_zero, List.set_cons_succ]
                    refine takeH (i := 9) (v := .bool true) rfl rfl (by kernel_rfl) (by kernel_rfl) (by kernel_rfl) (fun _ _ _ h => h) (Or.inl ⟨rfl, fun _ _ => rfl⟩) hHeld ?_
                    simp only [List.set_cons_zero, List.set_cons_succ]
                    refine takeH (i := 10) (v := .pointer (some ⟨P9, 2, none⟩)) rfl rfl (by kernel_rfl) (by kernel_rfl) (by kernel_rfl) (fun _ _ _ h => h) (Or.inl ⟨rfl, by intro w' hSw; generalize hE : Act.eval _ = ρ; have e9 : ρ (.tmp 9) = .pointer (some ⟨P9, 0, none⟩) := (by rw [← hE]; rfl); clear hE; go_simp⟩) hHeld ?_
                    simp only [List.set_cons_zero, List.set_cons_succ]
                    refine takeH (i := 11) (v := .int .i64 x2) rfl rfl (by kernel_rfl) (by kernel_rfl) (by kernel_rfl) (fun _ _ _ h => h) (Or.inl ⟨rfl, by intro w' hSw; generalize hE : Act.eval _ = ρ; have e53 : ρ (.tmp 53) = .pointer (some ⟨P9, 2, none⟩) := (by rw [← hE]; rfl); clear hE; go_simp⟩) hHeld ?_
                    simp only [List.set_cons_zero, List.set_cons_succ]
                    refine wpAnyH_ready (rs := [12]) (by kernel_rfl) (by simp) ?_
                    refine AllReadyH.cons (nthL_get rfl) (fun K hK => ?_) AllReadyH.nil
                    go_simp
                    refine (HS2.out _).mono ?_
                    rintro e w5 ⟨rfl, rfl⟩
                    refine hK.out _ _ ⟨c0, c1, c2, c3⟩ (fun hHeld => ?_)
                    clear hK K
                    simp only [List.setIfInBounds_toArray, List.set_cons_zero, List.set_cons_succ]
                    refine takeH (i := 13) (v := .bool true) rfl rfl (by kernel_rfl) (by kernel_rfl) (by kernel_rfl) (fun _ _ _ h => h) (Or.inl ⟨rfl, by intro w' hSw; generalize hE : Act.eval _ = ρ; have e52 : ρ (.tmp 52) = .bool true := (by rw [← hE]; rfl); have e55 : ρ (.tmp 55) = .bool true := (by rw [← hE]; rfl); have ec : ρ (.const (.bool false)) = .bool false := (by rw [← hE]; rfl); clear hE; go_simp⟩) hHeld ?_
                    simp only [List.set_cons_zero, List.set_cons_succ]
                    refine takeH (i := 14) (v := .bool true) rfl rfl (by kernel_rfl) (by kernel_rfl) (by kernel_rfl) (fun _ _ _ h => h) (Or.inl ⟨rfl, fun _ _ => rfl⟩) hHeld ?_
                    simp only [List.set_cons_zero, List.set_cons_succ]
                    refine takeH (i := 15) (v := .pointer (some ⟨P9, 3, none⟩)) rfl rfl (by kernel_rfl) (by kernel_rfl) (by kernel_rfl) (fun _ _ _ h => h) (Or.inl ⟨rfl, by intro w' hSw; generalize hE : Act.eval _ = ρ; have e9 : ρ (.tmp 9) = .pointer (some ⟨P9, 0, none⟩) := (by rw [← hE]; rfl); clear hE; go_simp⟩) hHeld ?_
                    simp only [List.set_cons_zero, List.set_cons_succ]
                    refine takeH (i := 16) (v := .int .i64 x3) rfl rfl (by kernel_rfl) (by kernel_rfl) (by kernel_rfl) (fun _ _ _ h => h) (Or.inl ⟨rfl, by intro w' hSw; generalize hE : Act.eval _ = ρ; have e58 : ρ (.tmp 58) = .pointer (some ⟨P9, 3, none⟩) := (by rw [← hE]; rfl); clear hE; go_simp⟩) hHeld ?_
                    simp only [List.set_cons_zero, List.set_cons_succ]
                    refine wpAnyH_ready (rs := [17]) (by kernel_rfl) (by simp) ?_
                    refine AllReadyH.cons (nthL_get rfl) (fun K hK => ?_) AllReadyH.nil
                    go_simp
                    refine (HS3.out _).mono ?_
                    rintro e w5 ⟨rfl, rfl⟩
                    refine hK.out _ _ ⟨c0, c1, c2, c3⟩ (fun hHeld => ?_)
                    clear hK K
                    simp only [List.setIfInBounds_toArray, List.set_cons_zero, List.set_cons_succ]
                    refine takeH (i := 18) (v := .bool true) rfl rfl (by kernel_rfl) (by kernel_rfl) (by kernel_rfl) (fun _ _ _ h => h) (Or.inl ⟨rfl, by intro w' hSw; generalize hE : Act.eval _ = ρ; have e57 : ρ (.tmp 57) = .bool true := (by rw [← hE]; rfl); have e60 : ρ (.tmp 60) = .bool true := (by rw [← hE]; rfl); have ec : ρ (.const (.bool false)) = .bool false := (by rw [← hE]; rfl); clear hE; go_simp⟩) hHeld ?_
                    simp only [List.set_cons_zero, List.set_cons_succ]
                    refine takeH (i := 19) (v := .bool true) rfl rfl (by kernel_rfl) (by kernel_rfl) (by kernel_rfl) (fun _ _ _ h => h) (Or.inl ⟨rfl, fun _ _ => rfl⟩) hHeld ?_
                    simp only [List.set_cons_zero, List.set_cons_succ]
                    refine takeH (i := 20) (v := .pointer (some ⟨P9, 0, none⟩)) rfl rfl (by kernel_rfl) (by kernel_rfl) (by kernel_rfl) (fun _ _ _ h => h) (Or.inl ⟨rfl, by intro w' hSw; generalize hE : Act.eval _ = ρ; have e9 : ρ (.tmp 9) = .pointer (some ⟨P9, 0, none⟩) := (by rw [← hE]; rfl); clear hE; go_simp⟩) hHeld ?_
                    simp only [List.set_cons_zero, List.set_cons_succ]
                    refine takeH (i := 21) (v := .int .i64 x0) rfl rfl (by kernel_rfl) (by kernel_rfl) (by kernel_rfl) (fun _ _ _ h => h) (Or.inl ⟨rfl, by intro w' hSw; generalize hE : Act.eval _ = ρ; have e63 : ρ (.tmp 63) = .pointer (some ⟨P9, 0, none⟩) := (by rw [← hE]; rfl); clear hE; go_simp⟩) hHeld ?_
                    simp only [List.set_cons_zero, List.set_cons_succ]
                    refine takeH (i := 22) (v := .int .i64 r0) rfl rfl (by kernel_rfl) (by kernel_rfl) (by kernel_rfl) (fun _ _ _ h => h) (Or.inl ⟨rfl, by intro w' hSw; generalize hE : Act.eval _ = ρ; have e64 : ρ (.tmp 64) = .int .i64 x0 := (by rw [← hE]; rfl); have ec : ρ (.const (.int .i64 2)) = .int .i64 2 := (by rw [← hE]; rfl); clear hE; go_simp⟩) hHeld ?_
                    simp only [List.set_cons_zero, List.set_cons_succ]
                    refine takeH (i := 23) (v := .int .i64 (k : Int)) rfl rfl (by kernel_rfl) (by kernel_rfl) (by kernel_rfl) (fun _ _ _ h => h) (Or.inl ⟨rfl, fun _ _ => rfl⟩) hHeld ?_
                    simp only [List.set_cons_zero, List.set_cons_succ]
                    refine takeH (i := 24) (v := .bool true) rfl rfl (by kernel_rfl) (by kernel_rfl) (by kernel_rfl) (fun _ _ _ h => h) (Or.inl ⟨rfl, by intro w' hSw; generalize hE : Act.eval _ = ρ; have e65 : ρ (.tmp 65) = .int .i64 r0 := (by rw [← hE]; rfl); have e66 : ρ (.tmp 66) = .int .i64 (k : Int) := (by rw [← hE]; rfl); clear hE; go_simp⟩) hHeld ?_
                    simp only [List.set_cons_zero, List.set_cons_succ]
                    refine takeH (i := 25) (v := .bool true) rfl rfl (by kernel_rfl) (by kernel_rfl) (by kernel_rfl) (fun _ _ _ h => h) (Or.inl ⟨rfl, by intro w' hSw; generalize hE : Act.eval _ = ρ; have e62 : ρ (.tmp 62) = .bool true := (by rw [← hE]; rfl); have e67 : ρ (.tmp 67) = .bool true := (by rw [← hE]; rfl); have ec : ρ (.const (.bool false)) = .bool false := (by rw [← hE]; rfl); clear hE; go_simp⟩) hHeld ?_
                    simp only [List.set_cons_zero, List.set_cons_succ]
                    refine takeH (i := 26) (v := .bool true) rfl rfl (by kernel_rfl) (by kernel_rfl) (by kernel_rfl) (fun _ _ _ h => h) (Or.inl ⟨rfl, fun _ _ => rfl⟩) hHeld ?_
                    simp only [List.set_cons_zero, List.set_cons_succ]
                    refine takeH (i := 27) (v := .pointer (some ⟨P9, 2, none⟩)) rfl rfl (by kernel_rfl) (by kernel_rfl) (by kernel_rfl) (fun _ _ _ h => h) (Or.inl ⟨rfl, by intro w' hSw; generalize hE : Act.eval _ = ρ; have e9 : ρ (.tmp 9) = .pointer (some ⟨P9, 0, none⟩) := (by rw [← hE]; rfl); clear hE; go_simp⟩) hHeld ?_
                    simp only [List.set_cons_zero, List.set_cons_succ]
                    refine takeH (i := 28) (v := .int .i64 x2) rfl rfl (by kernel_rfl) (by kernel_rfl) (by kernel_rfl) (fun _ _ _ h => h) (Or.inl ⟨rfl, by intro w' hSw; generalize hE : Act.eval _ = ρ; have e70 : ρ (.tmp 70) = .pointer (some ⟨P9, 2, none⟩) := (by rw [← hE]; rfl); clear hE; go_simp⟩) hHeld ?_
                    simp only [List.set_cons_zero, List.set_cons_succ]
                    refine takeH (i := 29) (v := .pointer (some ⟨P9, 3, none⟩)) rfl rfl (by kernel_rfl) (by kernel_rfl) (by kernel_rfl) (fun _ _ _ h => h) (Or.inl ⟨rfl, by intro w' hSw; generalize hE : Act.eval _ = ρ; have e9 : ρ (.tmp 9) = .pointer (some ⟨P9, 0, none⟩) := (by rw [← hE]; rfl); clear hE; go_simp⟩) hHeld ?_
                    simp only [List.set_cons_zero, List.set_cons_succ]
                    refine takeH (i := 30) (v := .int .i64 x3) rfl rfl (by kernel_rfl) (by kernel_rfl) (by kernel_rfl) (fun _ _ _ h => h) (Or.inl ⟨rfl, by intro w' hSw; generalize hE : Act.eval _ = ρ; have e72 : ρ (.tmp 72) = .pointer (some ⟨P9, 3, none⟩) := (by rw [← hE]; rfl); clear hE; go_simp⟩) hHeld ?_
                    simp only [List.set_cons_zero, List.set_cons_succ]
                    refine takeH (i := 31) (v := .bool true) rfl rfl (by kernel_rfl) (by kernel_rfl) (by kernel_rfl) (fun _ _ _ h => h) (Or.inl ⟨rfl, by intro w' hSw; generalize hE : Act.eval _ = ρ; have e71 : ρ (.tmp 71) = .int .i64 x2 := (by rw [← hE]; rfl); have e73 : ρ (.tmp 73) = .int .i64 x3 := (by rw [← hE]; rfl); clear hE; go_simp⟩) hHeld ?_
                    simp only [List.set_cons_zero, List.set_cons_succ]
                    refine takeH (i := 32) (v := .bool true) rfl rfl (by kernel_rfl) (by kernel_rfl) (by kernel_rfl) (fun _ _ _ h => h) (Or.inl ⟨rfl, by intro w' hSw; generalize hE : Act.eval _ = ρ; have e69 : ρ (.tmp 69) = .bool true := (by rw [← hE]; rfl); have e74 : ρ (.tmp 74) = .bool true := (by rw [← hE]; rfl); have ec : ρ (.const (.bool false)) = .bool false := (by rw [← hE]; rfl); clear hE; go_simp⟩) hHeld ?_
                    simp only [List.set_cons_zero, List.set_cons_succ]
                    refine takeH (i := 33) (v := .bool true) rfl rfl (by kernel_rfl) (by kernel_rfl) (by kernel_rfl) (fun _ _ _ h => h) (Or.inl ⟨rfl, fun _ _ => rfl⟩) hHeld ?_
                    simp only [List.set_cons_zero, List.set_cons_succ]
                    refine takeH (i := 34) (v := .pointer (some ⟨P9, 3, none⟩)) rfl rfl (by kernel_rfl) (by kernel_rfl) (by kernel_rfl) (fun _ _ _ h => h) (Or.inl ⟨rfl, by intro w' hSw; generalize hE : Act.eval _ = ρ; have e9 : ρ (.tmp 9) = .pointer (some ⟨P9, 0, none⟩) := (by rw [← hE]; rfl); clear hE; go_simp⟩) hHeld ?_
                    simp only [List.set_cons_zero, List.set_cons_succ]
                    refine takeH (i := 35) (v := .int .i64 x3) rfl rfl (by kernel_rfl) (by kernel_rfl) (by kernel_rfl) (fun _ _ _ h => h) (Or.inl ⟨rfl, by intro w' hSw; generalize hE : Act.eval _ = ρ; have e77 : ρ (.tmp 77) = .pointer (some ⟨P9, 3, none⟩) := (by rw [← hE]; rfl); clear hE; go_simp⟩) hHeld ?_
                    simp only [List.set_cons_zero, List.set_cons_succ]
                    refine takeH (i := 36) (v := .pointer (some ⟨P9, 2, none⟩)) rfl rfl (by kernel_rfl) (by kernel_rfl) (by kernel_rfl) (fun _ _ _ h => h) (Or.inl ⟨rfl, by intro w' hSw; generalize hE : Act.eval _ = ρ; have e9 : ρ (.tmp 9) = .pointer (some ⟨P9, 0, none⟩) := (by rw [← hE]; rfl); clear hE; go_simp⟩) hHeld ?_
                    simp only [List.set_cons_zero, List.set_cons_succ]
                    refine takeH (i := 37) (v := .int .i64 x2) rfl rfl (by kernel_rfl) (by kernel_rfl) (by kernel_rfl) (fun _ _ _ h => h) (Or.inl ⟨rfl, by intro w' hSw; generalize hE : Act.eval _ = ρ; have e79 : ρ (.tmp 79) = .pointer (some ⟨P9, 2, none⟩) := (by rw [← hE]; rfl); clear hE; go_simp⟩) hHeld ?_
                    simp only [List.set_cons_zero, List.set_cons_succ]
                    refine takeH (i := 38) (v := .int .i64 (n : Int)) rfl rfl (by kernel_rfl) (by kernel_rfl) (by kernel_rfl) (fun _ _ _ h => h) (Or.inl ⟨rfl, fun _ _ => rfl⟩) hHeld ?_
                    simp only [List.set_cons_zero, List.set_cons_succ]
                    refine takeH (i := 39) (v := .int .i64 (x2 + (n : Int))) rfl rfl (by kernel_rfl) (by kernel_rfl) (by kernel_rfl) (fun _ _ _ h => h) (Or.inl ⟨rfl, by intro w' hSw; generalize hE : Act.eval _ = ρ; have e80 : ρ (.tmp 80) = .int .i64 x2 := (by rw [← hE]; rfl); have e81 : ρ (.tmp 81) = .int .i64 (n : Int) := (by rw [← hE]; rfl); clear hE; go_simp⟩) hHeld ?_
                    simp only [List.set_cons_zero, List.set_cons_succ]
                    refine takeH (i := 40) (v := .bool true) rfl rfl (by kernel_rfl) (by kernel_rfl) (by kernel_rfl) (fun _ _ _ h => h) (Or.inl ⟨rfl, by intro w' hSw; generalize hE : Act.eval _ = ρ; have e78 : ρ (.tmp 78) = .int .i64 x3 := (by rw [← hE]; rfl); have e82 : ρ (.tmp 82) = .int .i64 (x2 + (n : Int)) := (by rw [← hE]; rfl); clear hE; go_simp⟩) hHeld ?_
                    simp only [List.set_cons_zero, List.set_cons_succ]
                    refine takeH (i := 41) (v := .bool true) rfl rfl (by kernel_rfl) (by kernel_rfl) (by kernel_rfl) (fun _ _ _ h => h) (Or.inl ⟨rfl, by intro w' hSw; generalize hE : Act.eval _ = ρ; have e76 : ρ (.tmp 76) = .bool true := (by rw [← hE]; rfl); have e83 : ρ (.tmp 83) = .bool true := (by rw [← hE]; rfl); have ec : ρ (.const (.bool false)) = .bool false := (by rw [← hE]; rfl); clear hE; go_simp⟩) hHeld ?_
                    simp only [List.set_cons_zero, List.set_cons_succ]
                    refine wpAnyH_ready (rs := [42]) (by kernel_rfl) (by simp) ?_
                    refine AllReadyH.cons (nthL_get rfl) (fun K hK => ?_) AllReadyH.nil
                    go_simp
                    refine hK.out _ _ ?_ (fun hHeld => ?_)
                    · with_reducible exact hks
                    clear hK K
                    simp only [List.setIfInBounds_toArray, List.set_cons_zero, List.set_cons_succ]
                    refine takeH (i := 43) (v := .bool true) rfl rfl (by kernel_rfl) (by kernel_rfl) (by kernel_rfl) (fun _ _ _ h => h) (Or.inl ⟨rfl, fun _ _ => rfl⟩) hHeld ?_
                    simp only [List.set_cons_zero, List.set_cons_succ]
                    refine wpAnyH_done (by kernel_rfl) ?_ _
                    go_wp2_with fail
                    refine bodyPost_ret (v := .tuple #[.agg #[.int .i64 x0, .int .i64 x1, .int .i64 x2, .int .i64 x3], .bool true]) (by simp [results, Tryz.f56, go_sem, r0c, r1c, r2c, r3c]) rfl ⟨x0, x1, x2, x3, by rw [HFIN.out], HPQ.out, hbF⟩
    ·
      have hbF := ((((hbw.drew).setCell (p := ⟨w.heap.size, 0, none⟩) (Nat.le_refl _) (.int .i64 0)).setCell (p := ⟨w.heap.size, 1, none⟩) (Nat.le_refl _) (.int .i64 0)).setCell (p := ⟨w.heap.size, 2, none⟩) (Nat.le_refl _) (.int .i64 0)).setCell (p := ⟨w.heap.size, 3, none⟩) (Nat.le_refl _) (.int .i64 0)
      refine bodyPost_ret (v := .tuple #[.agg #[.int .i64 0, .int .i64 0, .int .i64 0, .int .i64 0], .bool false]) (by simp [results, Tryz.f56, go_sem, c0, c1, c2, c3]) rfl ⟨0, 0, 0, 0, rfl, fun h => (by cases h), hbF⟩
end Go.Proofs.YtfdnpchbbngpjaaGreat
namespace Go.Proofs.YtfdnpchbbngpjaaGreat
open Go.RowKit Go.Maps

/-! ### many bytes are set -/
def sts (A : List UInt8) (o : Nat) : List UInt8 → List UInt8
  | [] => A
  | x :: r => sts (A.set o x) (o + 1) r
theorem sts_length (A : List UInt8) (o : Nat) (l : List UInt8) : (sts A o l).length = A.length := by
  induction l generalizing A o with
  | nil => rfl
  | cons x r ih => unfold sts; rw [ih, List.length_set]
theorem sts_at (A : List UInt8) (o : Nat) (l : List UInt8) (h : o + l.length ≤ A.length) (i : Nat) : (sts A o l).getD i 0 = if o ≤ i ∧ i < o + l.length then l.getD (i - o) 0 else A.getD i 0 := by
  induction l generalizing A o with
  | nil => unfold sts; rw [if_neg (by simp)]
  | cons x r ih =>
    simp only [List.length_cons] at h ⊢
    unfold sts
    rw [ih _ _ (by rw [List.length_set]; omega)]
    by_cases e : i = o
    · subst e
      rw [if_neg (by omega), if_pos (by omega), getD_set_self (by omega), Nat.sub_self]
      rfl
    · by_cases h2 : o + 1 ≤ i ∧ i < o + 1 + r.length
      · rw [if_pos h2, if_pos (by omega), show i - o = (i - (o + 1)) + 1 by omega]
        simp
      · rw [if_neg h2, if_neg (by omega), getD_set_ne (fun e' => e e'.symm)]
theorem sts_sec {A : List UInt8} {m j : Nat} {l : List UInt8} (hA : A.length = 256 * m) (hj : j < m) (hl : l.length = 256) (k : Nat) (hk : k < m) : sec (sts A (256 * j) l) k = if k = j then l else sec A k := by
  have hW : (sts A (256 * j) l).length = 256 * m := by rw [sts_length, hA]
  apply getD_ext
  · rw [sec_length hW hk]
    split
    · exact hl.symm
    · exact (sec_length hA hk).symm
  · intro i hi
    rw [sec_length hW hk] at hi
    rw [sec_at _ _ _ hi, sts_at _ _ _ (by omega), hl]
    by_cases e : k = j
    · subst e
      rw [if_pos (by omega), if_pos rfl]
      congr 1
      omega
    · rw [if_neg (by omega), if_neg e, sec_at _ _ _ hi]

/-! ### a device's sectors, read up to one -/
def arU (st : VS) (m j : Nat) : List UInt8 := ((List.range m).map fun k => if k < j then st.sct (2 + k) else List.replicate 256 0).flatten
def BL (st : VS) (m j : Nat) : BS := ⟨if 0 < j then st.sct 0 else List.replicate 256 0, if 1 < j then st.sct 1 else List.replicate 256 0, arU st m (j - 2), ⟨0, 1, 0, [], 0⟩⟩
section
variable {st : VS} {m j : Nat}
theorem arU_each (h : st.wf) (k : Nat) : (if k < j then st.sct (2 + k) else List.replicate 256 0).length = 256 := by
  split
  · exact h.sct _
  · exact List.length_replicate
theorem arU_length (h : st.wf) : (arU st m j).length = 256 * m := flat_length _ _ (fun k _ => arU_each h k)
theorem arU_sec (h : st.wf) {k : Nat} (hk : k < m) : sec (arU st m j) k = if k < j then st.sct (2 + k) else List.replicate 256 0 := flat_sec (fun k => if k < j then st.sct (2 + k) else List.replicate 256 0) m (fun k _ => arU_each h k) k hk
theorem arU_zero (h : st.wf) : arU st m 0 = List.replicate (256 * m) 0 := by
  refine area_ext (m := m) (arU_length h) List.length_replicate (fun k hk => ?_)
  rw [arU_sec h hk, if_neg (by omega), zero_sec m k hk]
theorem arU_step (h : st.wf) (hj : j < m) : sts (arU st m j) (256 * j) (st.sct (2 + j)) = arU st m (j + 1) := by
  refine area_ext (m := m) (by rw [sts_length, arU_length h]) (arU_length h) (fun k hk => ?_)
  rw [sts_sec (arU_length h) hj (h.sct _) k hk, arU_sec h hk, arU_sec h hk]
  by_cases e : k = j
  · subst e; rw [if_pos rfl, if_pos (by omega)]
  · rw [if_neg e]
    by_cases h2 : k < j
    · rw [if_pos h2, if_pos (by omega)]
    · rw [if_neg h2, if_neg (by omega)]
theorem arU_full (hl : st.dur.length = m + 2) : arU st m m = st.area := by
  unfold arU VS.area
  rw [hl, show m + 2 - 2 = m by omega]
  congr 1
  apply List.map_congr_left
  intro k hk
  rw [if_pos (by simpa using hk)]
theorem BL_zero (h : st.wf) : BL st m 0 = BS.blank m := by
  unfold BL BS.blank
  rw [if_neg (by omega), if_neg (by omega), arU_zero h]
theorem BL_full (hl : st.dur.length = m + 2) : BL st m (m + 2) = ⟨st.sct 0, st.sct 1, st.area, ⟨0, 1, 0, [], 0⟩⟩ := by
  unfold BL
  rw [if_pos (by omega), if_pos (by omega), show m + 2 - 2 = m by omega, arU_full hl]
theorem BL_head0 : BL st m 1 = { BL st m 0 with h0 := st.sct 0 } := rfl
theorem BL_head1 : BL st m 2 = { BL st m 1 with h1 := st.sct 1 } := rfl
theorem BL_area (h : st.wf) (hj : j < m) : BL st m (2 + j + 1) = { BL st m (2 + j) with area := sts (arU st m j) (256 * j) (st.sct (2 + j)) } := by
  unfold BL
  rw [arU_step h hj, if_pos (by omega), if_pos (by omega), if_pos (by omega), if_pos (by omega), show 2 + j + 1 - 2 = j + 1 by omega]
end

/-! ### the book in memory -/
section
variable {w w' : World} {bb g0 g1 ga c0 c1 ca : Nat} {vr : Value} {B : BS}
theorem Bk.area_sets (h : Bk w bb g0 g1 ga c0 c1 ca vr B) (l : List UInt8) (o : Nat) : Bk (w.setCells ga o (l.map fun x => Value.int .u8 (x.toNat : Int))) bb g0 g1 ga c0 c1 ca vr { B with area := sts B.area o l } ∧ Turn [ga] w (w.setCells ga o (l.map fun x => Value.int .u8 (x.toNat : Int))) := by
  refine ⟨?_, setCells_turn _ _ _ _⟩
  induction l generalizing w B o with
  | nil => exact h
  | cons x r ih => exact ih (h.area_set o x).1 (o + 1)
theorem Bk.head0 (h : Bk w bb g0 g1 ga c0 c1 ca vr B) {W : World} (hb : Below w.heap.size w W) {g c : Nat} {l : List UInt8} (hg : H256 W g l) (hgw : w.heap.size ≤ g) (hc : 256 ≤ c) :
    Bk (W.setCell ⟨bb, 0, none⟩ (.slice (some ⟨g, 0, none⟩) 256 c)) bb g g1 ga c c1 ca vr { B with h0 := l } ∧ Turn [bb] w (W.setCell ⟨bb, 0, none⟩ (.slice (some ⟨g, 0, none⟩) 256 c)) := by
  have t : Turn [bb] W (W.setCell ⟨bb, 0, none⟩ (.slice (some ⟨g, 0, none⟩) 256 c)) := (Turn.refl _ W).setCell (p := ⟨bb, 0, none⟩) (.inl (by simp)) _
  have h2 := h.below hb
  have hlb := h.blk.lt
  have hla := h.lt ga (by simp [bfoot])
  have hb1 : g1 ≠ bb := h.h1.ne h.blk (by decide)
  refine ⟨⟨h2.blk.set_ 0 _, hg.turn t (by simp; omega), h2.h1.turn t (by simpa using hb1), hc, h.k1, row_turn h2.ar t (fun x hx => by
      have : x = ga := by simpa [Value.ownBlock] using hx.symm
      subst this; simpa using h.ar_ne), row_turn h2.rs t (fun x hx => by have := h.rs_ne; simp; rintro rfl; exact this hx), by omega, h.n1⟩, (Turn.ofBelow hb (Nat.le_refl _)).trans t (fun i hi => .inl hi)⟩
theorem Bk.head1 (h : Bk w bb g0 g1 ga c0 c1 ca vr B) {W : World} (hb : Below w.heap.size w W) {g c : Nat} {l : List UInt8} (hg : H256 W g l) (hgw : w.heap.size ≤ g) (hc : 256 ≤ c) :
    Bk (W.setCell ⟨bb, 1, none⟩ (.slice (some ⟨g, 0, none⟩) 256 c)) bb g0 g ga c0 c ca vr { B with h1 := l } ∧ Turn [bb] w (W.setCell ⟨bb, 1, none⟩ (.slice (some ⟨g, 0, none⟩) 256 c)) := by
  have t : Turn [bb] W (W.setCell ⟨bb, 1, none⟩ (.slice (some ⟨g, 0, none⟩) 256 c)) := (Turn.refl _ W).setCell (p := ⟨bb, 1, none⟩) (.inl (by simp)) _
  have h2 := h.below hb
  have hlb := h.blk.lt
  have hla := h.lt ga (by simp [bfoot])
  have hb0 : g0 ≠ bb := h.h0.ne h.blk (by decide)
  refine ⟨⟨h2.blk.set_ 1 _, h2.h0.turn t (by simpa using hb0), hg.turn t (by simp; omega), h.k0, hc, row_turn h2.ar t (fun x hx => by
      have : x = ga := by simpa [Value.ownBlock] using hx.symm
      subst this; simpa using h.ar_ne), row_turn h2.rs t (fun x hx => by have := h.rs_ne; simp; rintro rfl; exact this hx), h.n0, by omega⟩, (Turn.ofBelow hb (Nat.le_refl _)).trans t (fun i hi => .inl hi)⟩
theorem H256.of {g : Nat} {l : List UInt8} (h : B256 w g l) : H256 w g l := by
  obtain ⟨c, fr, h1, h2, _, h4⟩ := h
  exact ⟨c, fr, h1, h2, h4⟩
end

/-! ### the header that is chosen -/
def pickH (st : VS) (n : Nat) : Nat → Hd × Bool
  | 0 => (⟨0, 1, 0, 0⟩, false)
  | k + 1 => if (readHd (st.sct k) k n).2 && (!(pickH st n k).2 || decide ((pickH st n k).1.num < (readHd (st.sct k) k n).1.num)) then ((readHd (st.sct k) k n).1, true) else pickH st n k
theorem pickH_find (st : VS) (n : Nat) : (pickH st n 2).2 = (findHd (st.sct 0) (st.sct 1) n).2 ∧ ((pickH st n 2).2 = true → (pickH st n 2).1 = (findHd (st.sct 0) (st.sct 1) n).1) := by
  have e1 : pickH st n 1 = if (readHd (st.sct 0) 0 n).2 then ((readHd (st.sct 0) 0 n).1, true) else (⟨0, 1, 0, 0⟩, false) := by
    show (if _ then _ else _) = _
    simp [pickH]
  have e2 : pickH st n 2 = if (readHd (st.sct 1) 1 n).2 && (!(pickH st n 1).2 || decide ((pickH st n 1).1.num < (readHd (st.sct 1) 1 n).1.num)) then ((readHd (st.sct 1) 1 n).1, true) else pickH st n 1 := rfl
  unfold findHd
  rw [e2, e1]
  obtain ⟨a, oa⟩ := readHd (st.sct 0) 0 n
  obtain ⟨b, ob⟩ := readHd (st.sct 1) 1 n
  cases oa <;> cases ob <;> simp
theorem pickH_small {st : VS} {n : Nat} (k : Nat) : (pickH st n k).1.small := by
  induction k with
  | zero => exact (show (⟨0, 1, 0, 0⟩ : Hd).small from ⟨by decide, by decide, by decide, by decide⟩)
  | succ k ih =>
    unfold pickH
    split
    · rename_i h
      simp only [Bool.and_eq_true] at h
      exact (readHd_bool h.1).1
    · exact ih
end Go.Proofs.YtfdnpchbbngpjaaGreat
namespace Go.Proofs.YtfdnpchbbngpjaaGreat
open Go.RowKit Go.Maps

theorem bcells_full_snoc (l : List Rc) (r : Rc) : bcells (l.length + 1) (l ++ [r]) = bcells l.length l ++ [.string r.2, .int .i64 (r.1 : Int), .bool true] := by
  induction l with
  | nil => simp [bcells]
  | cons q t ih =>
    simp only [List.cons_append, List.length_cons, bcells, Nat.add_sub_cancel]
    rw [ih]
    simp
theorem Bk.pushedC {w w1 w2 : World} {bb g0 g1 ga c0 c1 ca : Nat} {vr : Value} {B : BS} (h : Bk w bb g0 g1 ga c0 c1 ca vr B) (hc : B.s.comm = B.s.recs.length) (p : Nat) (d : ByteArray) (hb : Below w.heap.size w w1) (hg : w1.grownBy w2 vr.ownBlock) {g cap : Nat}
    (hown : w2.ownsRow 0 82 3 (.slice (some ⟨g, 0, none⟩) (B.s.recs.length + 1) cap) (B.s.recs.length + 1) (bcells B.s.comm B.s.recs ++ [.string d, .int .i64 (p : Int), .bool true])) (hat : vr.ownBlock = some g ∨ w.heap.size ≤ g) :
    Bk (w2.setCell ⟨bb, 6, none⟩ (.slice (some ⟨g, 0, none⟩) (B.s.recs.length + 1) cap)) bb g0 g1 ga c0 c1 ca (.slice (some ⟨g, 0, none⟩) (B.s.recs.length + 1) cap) { B with s := { B.s with recs := B.s.recs ++ [(p, d)], comm := B.s.recs.length + 1 } } ∧
      Turn (bfoot bb g0 g1 ga vr) w (w2.setCell ⟨bb, 6, none⟩ (.slice (some ⟨g, 0, none⟩) (B.s.recs.length + 1) cap)) ∧ ∀ i, i ∈ bfoot bb g0 g1 ga (.slice (some ⟨g, 0, none⟩) (B.s.recs.length + 1) cap) → i ∈ bfoot bb g0 g1 ga vr ∨ w.heap.size ≤ i := by
  have t1 : Turn vr.ownBlock.toList w w2 := (Turn.ofBelow hb (Nat.le_refl _)).grown hg (fun x hx => .inl (by simp [hx]))
  have hrn : bb ∉ vr.ownBlock.toList := fun hi => h.rs_ne (by simpa using hi)
  have hblk := h.blk.turn t1 hrn
  have hu8 : ∀ {x : Nat} {l : List UInt8}, H256 w x l → x ∉ vr.ownBlock.toList := by
    intro x l hx hi
    rcases h.rs.2 with ⟨e, _⟩ | ⟨g', cap', cur, e, _, hh, _⟩
    · rw [e] at hi; simp [Value.ownBlock] at hi
    · rw [e] at hi
      have : x = g' := by simpa [Value.ownBlock] using hi
      subst this
      exact hx.ne (show Blk w x _ cur from hh) (by decide) rfl
  have har : ga ∉ vr.ownBlock.toList := by
    intro hi
    have := own_own_ne' h.ar h.rs (by decide) (g := ga) rfl
    exact this (by simpa using hi)
  have hgb : g ≠ bb := by
    have := own_blk_ne hown hblk (by decide)
    intro e; apply this; simp [Value.ownBlock, e]
  have ts : Turn [bb] w2 (w2.setCell ⟨bb, 6, none⟩ (.slice (some ⟨g, 0, none⟩) (B.s.recs.length + 1) cap)) := (Turn.refl _ w2).setCell (p := ⟨bb, 6, none⟩) (.inl (by simp)) _
  have hb0 : g0 ≠ bb := h.h0.ne h.blk (by decide)
  have hb1 : g1 ≠ bb := h.h1.ne h.blk (by decide)
  refine ⟨⟨hblk.set_ 6 _, (h.h0.turn t1 (hu8 h.h0)).turn ts (by simpa using hb0), (h.h1.turn t1 (hu8 h.h1)).turn ts (by simpa using hb1), h.k0, h.k1, row_turn (row_turn h.ar t1 (fun x hx => by
      have : x = ga := by simpa [Value.ownBlock] using hx.symm
      subst this; exact har)) ts (fun x hx => by
      have : x = ga := by simpa [Value.ownBlock] using hx.symm
      subst this; simpa using h.ar_ne), ?_, h.n0, h.n1⟩, ?_, ?_⟩
  · show World.ownsRow _ 0 _ 3 _ (B.s.recs ++ [(p, d)]).length (bcells (B.s.recs.length + 1) (B.s.recs ++ [(p, d)]))
    rw [List.length_append, bcells_full_snoc]
    rw [hc] at hown
    exact row_turn hown ts (fun x hx => by
      have : x = g := by simpa [Value.ownBlock] using hx.symm
      subst this; simpa using hgb)
  · refine (t1.mono (fun i hi => ?_)).setCell (p := ⟨bb, 6, none⟩) (.inl (by simp [bfoot])) _
    simp at hi
    simp [bfoot, hi]
  · intro i hi
    unfold bfoot at hi ⊢
    simp [Value.ownBlock] at hi ⊢
    rcases hi with rfl | rfl | rfl | rfl | rfl
    · exact .inl (.inl rfl)
    · exact .inl (.inr (.inl rfl))
    · exact .inl (.inr (.inr (.inl rfl)))
    · exact .inl (.inr (.inr (.inr (.inl rfl))))
    · rcases hat with e | e
      · exact .inl (.inr (.inr (.inr (.inr e))))
      · exact .inr e
section
variable {P : Program} (w : World)
/-- elements appended onto a slice of one's own; there may be none -/
theorem step_append_any {ops : Array Oper} {o : Oper} {a : Act} {K : Act → World → Prop} {Q : Exit → Act → World → Prop} {E : Prop} (hgd : o.guard = none) (s x : Operand) (t : TypeId)
    (ho : o.op = .call { callee := .builtin .append, args := #[s, x], argTypes := #[t, t] })
    (base : Nat) (e : TypeId) (i : TypeInfo) (z : Value) (size bytes : Nat) (ht : P.underlying t = some (.slice e)) (hi : P.info? e = some i) (hz : i.zero = some z)
    (hsize : i.size = size) (hby : i.bytes = bytes) (hzs : z.cells.size = size) (hsz : 0 < size)
    (H n0 cap0 : Nat) (xs : List Value) (hs : a.eval s = .slice (some ⟨H, 0, none⟩) n0 cap0) (hown : w.ownsRow base e size (.slice (some ⟨H, 0, none⟩) n0 cap0) n0 xs)
    (ax : Option Addr) (m c : Nat) (news : List Value) (hx : a.eval x = .slice ax m c) (hl : news.length = m * size) (hax : m = 0 ∨ ∃ ad, ax = some ad ∧ ∀ j u, news[j]? = some u → w.cell? (ad.add j) = some u) (h1 : ∀ u ∈ news, u.oneCell' = true)
    (h63 : n0 + m ≤ maxLen) (hbytes : (n0 + m) * bytes ≤ 140737488355328) (hbase : base ≤ w.heap.size)
    (h : ∀ g cap w', w'.ownsRow base e size (.slice (some ⟨g, 0, none⟩) (n0 + m) cap) (n0 + m) (xs ++ news) → w.grownBy w' (some H) → K (a.put o.dst (.slice (some ⟨g, 0, none⟩) (n0 + m) cap)) w') :
    if Region.wanted o (yielded ops a.tmps) = true then Oper.wp P o a w K Q else E := by
  have hw : Region.wanted o (yielded ops a.tmps) = true := by simp [Region.wanted, hgd]
  rw [if_pos hw]
  have hcap : n0 ≤ cap0 := by
    rcases hown.2 with ⟨e1, _⟩ | ⟨g, cc, cur, e1, _, _, hc, _⟩
    · cases e1
    · injection e1 with _ _ e3
      omega
  by_cases hm : m = 0
  · subst hm
    have hn0 : news = [] := List.eq_nil_of_length_eq_zero (by omega)
    subst hn0
    have hr : (Builtin.append_ #[t, t] o.type #[.slice (some ⟨H, 0, none⟩) n0 cap0, .slice ax 0 c]).run P w = .ok (.slice (some ⟨H, 0, none⟩) n0 cap0) w := by
      cases ax with
      | none => exact run_append_nothing w t t o.type e i ht hi _ n0 cap0 hcap _ (Src.ofNil w ht c)
      | some ad => exact run_append_nothing w t t o.type e i ht hi _ n0 cap0 hcap _ (Src.ofSlice w ht ad 0 c [] (by simp) (by intro j u hu; simp at hu) (by intro u hu; cases hu))
    unfold Oper.wp execOp
    simp only [ho, resolve, invoke, builtin, Sem.run_bind, Sem.run_pure, Result.andThen_ok, List.map_toArray, List.map_cons, List.map_nil, hs, hx, hr]
    exact h H cap0 w (by rw [List.append_nil]; exact hown) ⟨rfl, rfl, rfl, Nat.le_refl _, fun _ _ _ => rfl⟩
  · obtain ⟨ad, rfl, hnews⟩ := hax.resolve_left hm
    refine wp_append_own w s x t ho base e i z size bytes ht hi hz hsize hby hzs hsz (.slice (some ⟨H, 0, none⟩) n0 cap0) n0 xs hs hown ad m c news hx hl hnews h1 h63 hbytes hbase (fun v' w' h2 h3 h4 => ?_)
    rcases h2.2 with ⟨e1, e2⟩ | ⟨g, cap, cur, rfl, hrest⟩
    · omega
    · exact h g cap w' h2 h3
end
/-- a part of a row of bytes -/
theorem row_sub {w : World} {base g n cap : Nat} {l : List UInt8} (h : w.ownsRow base 5 1 (.slice (some ⟨g, 0, none⟩) n cap) n (Lib.byteCells l)) (hl : l.length = n) (a k c : Nat) (ha : a + k ≤ n) (hb : n ≤ 1048576) : Byts w (.slice (some ⟨g, a, none⟩) k c) (sg l a k) := by
  have hn : (sg l a k).length = k := by unfold sg; rw [List.length_take, List.length_drop]; omega
  refine ⟨some ⟨g, a, none⟩, c, by rw [hn], by omega, fun _ => ⟨g, a, rfl, (h.lt g rfl).2, fun j hj => ?_⟩⟩
  rw [hn] at hj
  rw [h.cellAt (a + j) (by omega), bcell_atJ l (a + j) (by omega)]
  unfold sg
  rw [List.getD_eq_getElem?_getD, List.getElem?_take_of_lt hj, List.getElem?_drop, List.getElem?_eq_getElem (by omega)]
  rfl
theorem row_news_sub {w : World} {base g n cap : Nat} {l : List UInt8} (h : w.ownsRow base 5 1 (.slice (some ⟨g, 0, none⟩) n cap) n (Lib.byteCells l)) (k : Nat) : ∀ j u, (Lib.byteCells (sg l 0 k))[j]? = some u → w.cell? ((⟨g, 0, none⟩ : Addr).add j) = some u := by
  intro j u hu
  refine row_news h j u ?_
  unfold Lib.byteCells at hu ⊢
  unfold sg at hu
  rw [List.drop_zero, List.map_take, List.getElem?_take] at hu
  split at hu
  · exact hu
  · cases hu
theorem row_shown {w : World} {base n cap : Nat} {ao : Option Addr} {l : List UInt8} (h : w.ownsRow base 5 1 (.slice ao n cap) n (Lib.byteCells l)) : n = 0 ∨ ∃ ad, ao = some ad ∧ ∀ j u, (Lib.byteCells l)[j]? = some u → w.cell? (ad.add j) = some u := by
  rcases h.2 with ⟨e1, e2⟩ | ⟨g, cc, cur, e1, _⟩
  · exact .inl e2
  · injection e1 with e1
    subst e1
    exact .inr ⟨_, rfl, fun j u hu => row_news h j u hu⟩
/-- a row of bytes as a string -/
theorem row_conv {w : World} {base n : Nat} {ao : Option Addr} {cap : Nat} {l : List UInt8} (h : w.ownsRow base 5 1 (.slice ao n cap) n (Lib.byteCells l)) (hl : l.length = n) :
    (convert 31 9 (.slice ao n cap)).run Tryz.prog w = .ok (.string ⟨l.toArray⟩) w := by
  rw [← hl] at h ⊢
  have := conv_owned (P := Tryz.prog) (src := 31) (dst := 9) Tryz.underlying31 Tryz.underlying5 Tryz.underlying9 h
  exact this
/-- the header of a frame, read -/
theorem frFits_iff {A : List UInt8} {en p k : Nat} : frFits A en p k = true ↔ fsize A p ≤ 65536 ∧ p + 16 + fsize A p ≤ en ∧ field (rd A p 16) 4 8 = k := by
  unfold frFits
  simp [and_assoc]
theorem fr_not {A : List UInt8} {en p k : Nat} (h : ¬ (fsize A p ≤ 65536 ∧ p + 16 + fsize A p ≤ en ∧ field (rd A p 16) 4 8 = k)) : fr A en p k = [] := by
  apply fr_stop
  have : frFits A en p k = false := by
    rw [Bool.eq_false_iff]
    exact fun e => h (frFits_iff.1 e)
  rw [this]
  rfl
theorem fr_sum {A : List UInt8} {en p k : Nat} (h : ¬ (crc ((rd A p 16).take 12 ++ fdata A p) = field (rd A p 16) 12 4)) : fr A en p k = [] := by
  apply fr_stop
  have : frSum A p = false := by
    unfold frSum
    rw [beq_eq_false_iff_ne]
    exact fun e => h e.symm
  rw [this, Bool.and_false]
theorem fr_next {A : List UInt8} {en p k : Nat} (h16 : p + 16 ≤ en) (h : fsize A p ≤ 65536 ∧ p + 16 + fsize A p ≤ en ∧ field (rd A p 16) 4 8 = k) (hs : crc ((rd A p 16).take 12 ++ fdata A p) = field (rd A p 16) 12 4) :
    fr A en p k = (p, ⟨(fdata A p).toArray⟩) :: fr A en (p + 16 + fsize A p) (k + 1) := by
  refine fr_go h16 ?_
  rw [frFits_iff.2 h]
  unfold frSum
  rw [hs]
  simp
/-- the number of a frame, as the law reads it -/
theorem lread_num (l : List UInt8) (k : Nat) (hk : k < 288230376151711744) : (lread l 0 = (k : Int)) ↔ beV l = k := by
  rcases lread_spec l 0 (by decide) with e | ⟨e, e2⟩
  · rw [e, Nat.mul_zero, Nat.zero_add]; omega
  · rw [Nat.mul_zero, Nat.zero_add] at e2
    rw [e]
    omega
end Go.Proofs.YtfdnpchbbngpjaaGreat
