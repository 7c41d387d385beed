/- scan. -/
import Derived.Test.YtfdnpchbbngpjaaGreatJsz
import Derived.Deep.DeepCutAuto
namespace Go.Proofs.YtfdnpchbbngpjaaGreat
attribute [local go_sem ↓] Go.wp_at_zero Go.wp_at_succ
open Go.RowKit Go.Maps

def ScanPost (w : World) (st : VS) (e : Ending) (w' : World) : Prop :=
  ∃ bb G, e = .returned (.tuple #[.pointer (some ⟨bb, 0, none⟩), .bool st.found.isSome]) ∧ Below w.heap.size w w' ∧ (∀ i, i ∈ G → w.heap.size ≤ i) ∧ ∀ S, st.found = some S → BkF w' bb ⟨st.sct 0, st.sct 1, st.area, S⟩ G
/-- the book that is being laid -/
def Lay (w wr : World) (bb g0 g1 ga c0 c1 ca : Nat) (vr : Value) (B : BS) : Prop := Bk wr bb g0 g1 ga c0 c1 ca vr B ∧ (∀ x, x ∈ bfoot bb g0 g1 ga vr → w.heap.size ≤ x) ∧ Below w.heap.size w wr
theorem foot_mem {bb g0 g1 ga : Nat} {vr : Value} {x : Nat} : x ∈ bfoot bb g0 g1 ga vr ↔ x = bb ∨ x = g0 ∨ x = g1 ∨ x = ga ∨ vr.ownBlock = some x := by
  simp [bfoot, eq_comm]
section
variable {w wr W3 W2 : World} {bb g0 g1 ga c0 c1 ca : Nat} {vr : Value} {B : BS}
theorem Lay.head0 (h : Lay w wr bb g0 g1 ga c0 c1 ca vr B) (hb3 : Below wr.heap.size wr W3) (hbW : Below W3.heap.size W3 W2) {c : Nat} {l : List UInt8} (hg : B256 W2 W3.heap.size l) (hc : 256 ≤ c) :
    Lay w (W2.setCell ⟨bb, 0, none⟩ (.slice (some ⟨W3.heap.size, 0, none⟩) 256 c)) bb W3.heap.size g1 ga c c1 ca vr { B with h0 := l } := by
  obtain ⟨h1, h2, h3⟩ := h
  obtain ⟨a, b⟩ := h1.head0 (hb3.trans (hbW.mono hb3.size)) (H256.of hg) hb3.size hc
  refine ⟨a, fun x hx => ?_, h3.trans (b.toBelow (fun i hi => ?_) h3.size)⟩
  · rcases foot_mem.1 hx with rfl | rfl | rfl | rfl | e
    · exact h2 _ (foot_mem.2 (.inl rfl))
    · exact Nat.le_trans h3.size hb3.size
    · exact h2 _ (foot_mem.2 (.inr (.inr (.inl rfl))))
    · exact h2 _ (foot_mem.2 (.inr (.inr (.inr (.inl rfl)))))
    · exact h2 _ (foot_mem.2 (.inr (.inr (.inr (.inr e)))))
  · simp at hi
    subst hi
    exact h2 _ (foot_mem.2 (.inl rfl))
theorem Lay.head1 (h : Lay w wr bb g0 g1 ga c0 c1 ca vr B) (hb3 : Below wr.heap.size wr W3) (hbW : Below W3.heap.size W3 W2) {c : Nat} {l : List UInt8} (hg : B256 W2 W3.heap.size l) (hc : 256 ≤ c) :
    Lay w (W2.setCell ⟨bb, 1, none⟩ (.slice (some ⟨W3.heap.size, 0, none⟩) 256 c)) bb g0 W3.heap.size ga c0 c ca vr { B with h1 := l } := by
  obtain ⟨h1, h2, h3⟩ := h
  obtain ⟨a, b⟩ := h1.head1 (hb3.trans (hbW.mono hb3.size)) (H256.of hg) hb3.size hc
  refine ⟨a, fun x hx => ?_, h3.trans (b.toBelow (fun i hi => ?_) h3.size)⟩
  · rcases foot_mem.1 hx with rfl | rfl | rfl | rfl | e
    · exact h2 _ (foot_mem.2 (.inl rfl))
    · exact h2 _ (foot_mem.2 (.inr (.inl rfl)))
    · exact Nat.le_trans h3.size hb3.size
    · exact h2 _ (foot_mem.2 (.inr (.inr (.inr (.inl rfl)))))
    · exact h2 _ (foot_mem.2 (.inr (.inr (.inr (.inr e)))))
  · simp at hi
    subst hi
    exact h2 _ (foot_mem.2 (.inl rfl))
theorem Lay.copied (h : Lay w wr bb g0 g1 ga c0 c1 ca vr B) (hb3 : Below wr.heap.size wr W3) (l : List UInt8) (o : Nat) :
    Lay w (W3.setCells ga o (l.map fun x => Value.int .u8 (x.toNat : Int))) bb g0 g1 ga c0 c1 ca vr { B with area := sts B.area o l } := by
  obtain ⟨h1, h2, h3⟩ := h
  obtain ⟨a, b⟩ := (h1.below hb3).area_sets l o
  have hs := h3.trans (hb3.mono h3.size)
  refine ⟨a, h2, hs.trans (b.toBelow (fun i hi => ?_) hs.size)⟩
  simp at hi
  subst hi
  exact h2 _ (foot_mem.2 (.inr (.inr (.inr (.inl rfl)))))
theorem Lay.below (h : Lay w wr bb g0 g1 ga c0 c1 ca vr B) (hb3 : Below wr.heap.size wr W3) : Lay w W3 bb g0 g1 ga c0 c1 ca vr B := by
  obtain ⟨h1, h2, h3⟩ := h
  exact ⟨h1.below hb3, h2, h3.trans (hb3.mono h3.size)⟩
theorem Lay.sethd {a b A : List UInt8} {n0 f0 b0 : Nat} (h : Lay w wr bb g0 g1 ga c0 c1 ca vr ⟨a, b, A, ⟨n0, f0, b0, [], 0⟩⟩) {W : World} (hb3 : Below wr.heap.size wr W) (x : Hd) :
    Lay w (((W.setCell ⟨bb, 3, none⟩ (.int .i64 (x.num : Int))).setCell ⟨bb, 4, none⟩ (.int .i64 (x.first : Int))).setCell ⟨bb, 5, none⟩ (.int .i64 (x.beg : Int))) bb g0 g1 ga c0 c1 ca vr ⟨a, b, A, ⟨x.num, x.first, x.beg, [], 0⟩⟩ := by
  obtain ⟨h1, h2, h3⟩ := h
  have hW := h1.below hb3
  have hs := h3.trans (hb3.mono h3.size)
  have t : Turn [bb] W (((W.setCell ⟨bb, 3, none⟩ (.int .i64 (x.num : Int))).setCell ⟨bb, 4, none⟩ (.int .i64 (x.first : Int))).setCell ⟨bb, 5, none⟩ (.int .i64 (x.beg : Int))) :=
    (((Turn.refl _ W).setCell (p := ⟨bb, 3, none⟩) (.inl (by simp)) _).setCell (p := ⟨bb, 4, none⟩) (.inl (by simp)) _).setCell (p := ⟨bb, 5, none⟩) (.inl (by simp)) _
  have hb0 : g0 ≠ bb := hW.h0.ne hW.blk (by decide)
  have hb1 : g1 ≠ bb := hW.h1.ne hW.blk (by decide)
  refine ⟨⟨((hW.blk.set_ 3 _).set_ 4 _).set_ 5 _, hW.h0.turn t (by simpa using hb0), hW.h1.turn t (by simpa using hb1), hW.k0, hW.k1, row_turn hW.ar t (fun x hx => by
      have : x = ga := by simpa [Value.ownBlock] using hx.symm
      subst this; simpa using hW.ar_ne), row_turn hW.rs t (fun x hx => by have := hW.rs_ne; simp; rintro rfl; exact this hx), hW.n0, hW.n1⟩, h2, hs.trans (t.toBelow (fun i hi => ?_) hs.size)⟩
  simp at hi
  subst hi
  exact h2 _ (foot_mem.2 (.inl rfl))
theorem addr_plus (g j : Nat) : ((⟨g, 0, none⟩ : Addr).add j) = ⟨g, j, none⟩ := by
  unfold Addr.add
  split
  · rename_i h0; subst h0; rfl
  · simp
theorem H256.cv {w : World} {g c : Nat} {s : ByteArray} (h : H256 w g s.data.toList) (_hc : 256 ≤ c) : (convert 31 9 (.slice (some ⟨g, 0, none⟩) 256 c)).run Tryz.prog w = .ok (.string s) w := by
  obtain ⟨cc, fr, hh, hj, hl⟩ := h
  have := run_convert_bytes_back (P := Tryz.prog) w 31 9 5 ⟨g, 0, none⟩ c s.data.toList Tryz.underlying31 Tryz.underlying5 Tryz.underlying9 (fun j hj2 => by
    have e := hj j (by omega)
    rw [addr_plus g j]
    simp [World.cell?, hh, e, List.getD_eq_getElem?_getD, List.getElem?_eq_getElem hj2])
  rw [hl] at this
  rw [this, bytes_toList]
end
theorem Lay.pushed {w wr w1 w2 : World} {bb g0 g1 ga c0 c1 ca : Nat} {vr : Value} {a b A : List UInt8} {n f bg : Nat} {l : List Rc} (h : Lay w wr bb g0 g1 ga c0 c1 ca vr ⟨a, b, A, ⟨n, f, bg, l, l.length⟩⟩) (hb : Below wr.heap.size wr w1) (hg : w1.grownBy w2 vr.ownBlock) {g cap p : Nat} {d : ByteArray}
    (hown : w2.ownsRow 0 82 3 (.slice (some ⟨g, 0, none⟩) (l.length + 1) cap) (l.length + 1) (bcells l.length l ++ [.string d, .int .i64 (p : Int), .bool true])) (hat : vr.ownBlock = some g ∨ wr.heap.size ≤ g) :
    Lay w (w2.setCell ⟨bb, 6, none⟩ (.slice (some ⟨g, 0, none⟩) (l.length + 1) cap)) bb g0 g1 ga c0 c1 ca (.slice (some ⟨g, 0, none⟩) (l.length + 1) cap) ⟨a, b, A, ⟨n, f, bg, l ++ [(p, d)], (l ++ [(p, d)]).length⟩⟩ := by
  obtain ⟨h1, h2, h3⟩ := h
  obtain ⟨k1, k2, k3⟩ := h1.pushedC rfl p d hb hg hown hat
  refine ⟨?_, fun x hx => ?_, h3.trans (k2.toBelow h2 h3.size)⟩
  · have e : (l ++ [(p, d)]).length = l.length + 1 := by rw [List.length_append]; rfl
    rw [e]
    exact k1
  · rcases k3 x hx with e | e
    · exact h2 x e
    · exact Nat.le_trans h3.size e
def rowLen : Option Value → Nat
  | some (.slice _ n _) => n
  | _ => 0
/-- between two rounds of the last loop -/
structure Lp3 (w wr : World) (bb : Nat) (st : VS) (P : Hd) : Prop where
  out : ∃ (l : List Rc) (g0 g1 ga c0 c1 ca : Nat) (vr : Value), Lay w wr bb g0 g1 ga c0 c1 ca vr ⟨st.sct 0, st.sct 1, st.area, ⟨P.num, P.first, P.beg, l, l.length⟩⟩ ∧ Chain P.beg l ∧ rend P.beg l ≤ P.en ∧ fr st.area P.en P.beg P.first = l ++ fr st.area P.en (rend P.beg l) (P.first + l.length)
theorem scan_done {w wr : World} {bb g0 g1 ga c0 c1 ca : Nat} {vr : Value} {st : VS} {n f b en : Nat} {l : List Rc} (h : Lay w wr bb g0 g1 ga c0 c1 ca vr ⟨st.sct 0, st.sct 1, st.area, ⟨n, f, b, l, l.length⟩⟩)
    (hf : st.found = some ⟨n, f, b, fr st.area en b f, (fr st.area en b f).length⟩) (hl : fr st.area en b f = l) : ScanPost w st (.returned (.tuple #[.pointer (some ⟨bb, 0, none⟩), .bool true])) wr := by
  rw [hl] at hf
  refine ⟨bb, _, by rw [hf]; rfl, h.2.2, h.2.1, fun S hS => ?_⟩
  rw [hf] at hS
  injection hS with hS
  subst hS
  exact ⟨_, _, _, _, _, _, _, h.1, rfl⟩
def pickB (st : VS) (m k : Nat) : BS := ⟨st.sct 0, st.sct 1, st.area, ⟨(pickH st (256 * m) k).1.num, (pickH st (256 * m) k).1.first, (pickH st (256 * m) k).1.beg, [], 0⟩⟩
set_option maxRecDepth 100000 in
set_option maxHeartbeats 4000000 in
theorem scan_any {w : World} {vb : Nat} {st : VS} {F : List Nat} (hV : VolF w vb st F) (hd : st.down = false) {m : Nat} (hl : st.dur.length = m + 2) (hm : 1 ≤ m) (hm2 : m ≤ 64) :
    Calls Tryz.prog 19 #[.pointer (some ⟨vb, 0, none⟩)] w (ScanPost w st) := by
  have hln := fun (w' : World) (h : VolF w' vb st F) => len_own h
  rewrite [hl, show ((m + 2 : Nat) : Int) = (m : Int) + 2 by omega] at hln
  have HLN := Lib.hid hln
  have HBL := Lib.hid (fun (w' : World) => blank_any m hm2 w')
  have HV := Lib.hid hV
  have HWF := Lib.hid hV.wf
  have HD := Lib.hid hd
  have HL := Lib.hid hl
  unfold ScanPost
  clear hln hd hl
  go_enter Tryz.func19, Tryz.ntmps19
  go_wp2_with (first
    | (go_at_call 36; refine (HLN.out _ hV).mono ?_; rintro e w1 ⟨rfl, rfl⟩)
    | (go_at_call 32; refine (HBL.out _).mono ?_; rintro e w2 ⟨bb, G, rfl, hB2, hb2, hG⟩))
  have h0 : ∃ (g0 g1 ga c0 c1 ca : Nat) (vr : Value), Lay w w2 bb g0 g1 ga c0 c1 ca vr (BL st m 0) := by
    obtain ⟨g0, g1, ga, c0, c1, ca, vr, hB, rfl⟩ := hB2
    rewrite [BL_zero HWF.out]
    exact ⟨g0, g1, ga, c0, c1, ca, vr, hB, hG, hb2⟩
  clear hB2 hb2 hG hV
  go_loopw [5] (fun i wr => ∃ (j g0 g1 ga c0 c1 ca : Nat) (vr : Value), j ≤ m + 2 ∧ i = .int .i64 (j : Int) ∧ Lay w wr bb g0 g1 ga c0 c1 ca vr (BL st m j)) (fun i _ => m + 2 - (intOf i).toNat)
  case atStart =>
    obtain ⟨g0, g1, ga, c0, c1, ca, vr, h⟩ := h0
    exact ⟨0, g0, g1, ga, c0, c1, ca, vr, Nat.zero_le _, rfl, h⟩
  case round =>
    clear h0
    obtain ⟨j, g0, g1, ga, c0, c1, ca, vr, hj, rfl, hB, hft, hbel⟩ := hrel
    have HVr := Lib.hid (HV.out.below hbel)
    by_cases hjm : j < m + 2
    --P1
    · have hrd := read_in HD.out (k := j) (by rw [HL.out]; omega)
      have hs := HWF.out.content j
      have hsc : st.sct j = (st.content j).data.toList := rfl
      obtain ⟨s, hs0⟩ : ∃ s, st.content j = s := ⟨_, rfl⟩
      rewrite [hs0] at hrd hs hsc
      have HRD := Lib.hid hrd
      have HSC := Lib.hid hsc
      clear hrd hs0 hsc
      by_cases hj2 : j < 2
      · have HB := Lib.hid (And.intro hB (And.intro hft hbel))
        have hj01 : j = 0 ∨ j = 1 := by omega
        clear hB hft hbel
        rcases hj01 with rfl | rfl
        · go_wp2_with (first
            | (go_at_call 36; refine (HLN.out _ HVr.out).mono ?_; rintro e w3 ⟨rfl, rfl⟩)
            | (go_at_call 37; refine (read_any (0 : Int) HVr.out).mono ?_; rw [show (0 : Int) = ((0 : Nat) : Int) from rfl, HRD.out]; rintro e w3 ⟨rfl, hb3⟩; obtain ⟨cap1, W2, hcap1, hconv, hb256, hbW⟩ := conv_bytes w3 s hs; have hB3 := HB.out.1.below (hb3.trans (hbW.mono hb3.size)); have k0 := hB3.blk.cell 0; have f0 := hB3.blk.frozen 0; simp at k0; have HN := Lib.hid (Lay.head0 HB.out hb3 hbW hb256 hcap1); clear hB3 hb256 hbW))
          go_roundw
          case rel => exact ⟨0 + 1, _, _, _, _, _, _, _, by omega, by go_num, by rw [BL_head0, HSC.out]; exact HN.out⟩
          case measure => simp [intOf]
        · go_wp2_with (first
            | (go_at_call 36; refine (HLN.out _ HVr.out).mono ?_; rintro e w3 ⟨rfl, rfl⟩)
            | (go_at_call 37; refine (read_any (1 : Int) HVr.out).mono ?_; rw [show (1 : Int) = ((1 : Nat) : Int) from rfl, HRD.out]; rintro e w3 ⟨rfl, hb3⟩; obtain ⟨cap1, W2, hcap1, hconv, hb256, hbW⟩ := conv_bytes w3 s hs; have hB3 := HB.out.1.below (hb3.trans (hbW.mono hb3.size)); have k0 := hB3.blk.cell 1; have f0 := hB3.blk.frozen 1; simp at k0; have HN := Lib.hid (Lay.head1 HB.out hb3 hbW hb256 hcap1); clear hB3 hb256 hbW))
          go_roundw
          case rel => exact ⟨1 + 1, _, _, _, _, _, _, _, by omega, by go_num, by rw [BL_head1, HSC.out]; exact HN.out⟩
          case measure => simp [intOf]
      · obtain ⟨q, rfl⟩ : ∃ q, j = 2 + q := ⟨j - 2, by omega⟩
        have hA := arU_length (m := m) (j := q) HWF.out
        have hAr : (BL st m (2 + q)).area = arU st m q := by unfold BL; rw [show 2 + q - 2 = q by omega]
        have hcp := fun (w3 : World) (hb3 : Below wr.heap.size wr w3) => run_copy_string_min (P := Tryz.prog) w3 31 9 3 5 ga (q * 256) (256 * m - q * 256) (ca - q * 256) s 256 (by rw [hs]; exact Nat.min_eq_left (by omega)) Tryz.underlying31 (by intro w; go_simp) (fun i hi => by
            have h3 := (hB.below hb3).ar
            rewrite [hAr, hA] at h3
            rewrite [h3.cellAt (q * 256 + i) (by omega), List.getElem?_eq_getElem (by rw [Lib.byteCells_length, hA]; omega)]
            rfl) (fun i hi => by
            have h3 := (hB.below hb3).ar
            rewrite [hAr, hA] at h3
            exact h3.frozenAt (q * 256 + i))
        have hca : 256 * m ≤ ca := by
          have h3 := hB.ar
          rewrite [hAr, hA] at h3
          rcases h3.2 with ⟨e, _⟩ | ⟨g, c, cur, e, _, _, hc, _⟩
          · cases e
          · injection e with e1 e2 e3
            omega
        have HCP := Lib.hid hcp
        have HB := Lib.hid (And.intro hB (And.intro hft hbel))
        have HAA := Lib.hid (And.intro hA hAr)
        have hqm : q < m := by omega
        have hcq : ¬ (ca = q * 256) := by omega
        have hst2 : List.take 256 s.data.toList = s.data.toList := List.take_of_length_le (by rw [Array.length_toList]; show s.size ≤ 256; omega)
        have HST := Lib.hid hst2
        clear hst2
        rewrite [show ((2 + q : Nat) : Int) = 2 + (q : Int) by omega] at HRD ⊢
        clear hB hft hbel hcp hA hAr
        go_wp2_with (first
          | (go_at_call 36; refine (HLN.out _ HVr.out).mono ?_; rintro e w3 ⟨rfl, rfl⟩)
          | (go_at_call 37; refine (read_any (2 + (q : Int)) HVr.out).mono ?_; rw [HRD.out]; rintro e w3 ⟨rfl, hb3⟩; have hB3 := HB.out.1.below hb3; have k2 := hB3.blk.cell 2; simp [HAA.out.1, HAA.out.2] at k2; have hcp := HCP.out w3 hb3; have HN := Lib.hid (Lay.copied HB.out hb3 s.data.toList (q * 256)); clear hB3))
        go_roundw
        case rel =>
          refine ⟨2 + q + 1, g0, g1, ga, c0, c1, ca, vr, by omega, by go_num, ?_⟩
          have hn := HN.out
          rewrite [HAA.out.2, ← HSC.out, Nat.mul_comm q 256, ← BL_area HWF.out hqm] at hn
          have e : List.take 256 (List.map (fun x => Value.int IntKind.u8 (x.toNat : Int)) s.data.toList) = (st.sct (2 + q)).map fun x => Value.int IntKind.u8 (x.toNat : Int) := by rw [← List.map_take, HST.out, HSC.out]
          rewrite [e, Nat.mul_comm q 256]
          exact hn
        case measure => simp [intOf]; omega
    --P2
    · obtain rfl : j = m + 2 := by omega
      have hB1 : Lay w wr bb g0 g1 ga c0 c1 ca vr (pickB st m 0) := by
        have : pickB st m 0 = BL st m (m + 2) := by rw [BL_full HL.out]; rfl
        rewrite [this]
        exact ⟨hB, hft, hbel⟩
      have HB1 := Lib.hid hB1
      clear hB hft hbel hB1
      go_wp2_with ((go_at_call 36; refine (HLN.out _ HVr.out).mono ?_; rintro e w3 ⟨rfl, rfl⟩))
      go_loopw [8, 9, 10] (fun en fd i wr2 => ∃ (k g0 g1 ga c0 c1 ca : Nat) (vr : Value), k ≤ 2 ∧ en = .int .i64 ((pickH st (256 * m) k).1.en : Int) ∧ fd = .bool (pickH st (256 * m) k).2 ∧ i = .int .i64 (k : Int) ∧ Lay w wr2 bb g0 g1 ga c0 c1 ca vr (pickB st m k)) (fun _ _ i _ => 2 - (intOf i).toNat)
      case atStart => exact ⟨0, g0, g1, ga, c0, c1, ca, vr, by omega, rfl, rfl, rfl, HB1.out⟩
      case round =>
        clear HB1 HVr
        obtain ⟨k, g0, g1, ga, c0, c1, ca, vr, hk, rfl, rfl, rfl, hB⟩ := hrel
        by_cases hk2 : k < 2
        --P1
        · have hs := HWF.out.content k
          have hstep : pickH st (256 * m) (k + 1) = if (readHd (st.sct k) k (256 * m)).2 && (!(pickH st (256 * m) k).2 || decide ((pickH st (256 * m) k).1.num < (readHd (st.sct k) k (256 * m)).1.num)) then ((readHd (st.sct k) k (256 * m)).1, true) else pickH st (256 * m) k := rfl
          have hrb := readHd_bool (s := st.sct k) (k := k) (n := 256 * m)
          have hpa := fun (w' : World) => parse_any (st.content k) hs k (256 * m) (by omega) w'
          have hH : ∃ g c, wr.cell? ⟨bb, k, none⟩ = some (.slice (some ⟨g, 0, none⟩) 256 c) ∧ H256 wr g (st.content k).data.toList ∧ 256 ≤ c := by
            have hk01 : k = 0 ∨ k = 1 := by omega
            rcases hk01 with rfl | rfl
            · exact ⟨g0, c0, hB.1.blk.cell 0, hB.1.h0, hB.1.k0⟩
            · exact ⟨g1, c1, hB.1.blk.cell 1, hB.1.h1, hB.1.k1⟩
          obtain ⟨gh, ch, hcell, hH256, hch⟩ := hH
          have hsc : st.sct k = (st.content k).data.toList := rfl
          rewrite [← hsc] at hpa
          obtain ⟨s, hs0⟩ : ∃ s, st.content k = s := ⟨_, rfl⟩
          rewrite [hs0] at hs hpa hH256
          have hAl : st.area.length = 256 * m := by rw [HWF.out.area, HL.out]; rfl
          obtain ⟨N, hN⟩ : ∃ N, 256 * m = N := ⟨_, rfl⟩
          have k2 : wr.cell? ⟨bb, 2, none⟩ = some (.slice (some ⟨ga, 0, none⟩) N ca) := by have := hB.1.blk.cell 2; rw [← hN, ← hAl]; exact this
          rewrite [hN] at hpa hstep hrb ⊢
          obtain ⟨⟨rh, ro⟩, hR⟩ : ∃ r, readHd (st.sct k) k N = r := ⟨_, rfl⟩
          obtain ⟨⟨ph, po⟩, hP⟩ : ∃ r, pickH st N k = r := ⟨_, rfl⟩
          unfold ParsePost at hpa
          have hBk : pickB st m k = ⟨st.sct 0, st.sct 1, st.area, ⟨ph.num, ph.first, ph.beg, [], 0⟩⟩ := by unfold pickB; rw [hN, hP]
          rewrite [hR] at hpa hrb
          rewrite [hR, hP] at hstep
          simp only at hstep
          rewrite [hP]
          rewrite [hBk] at hB
          simp only at hpa hrb ⊢
          have HS := Lib.hid (fun (w' : World) (hb : Below wr.heap.size wr w') => And.intro ((hb.cell (p := ⟨bb, k, none⟩) hB.1.blk.lt).trans hcell) (And.intro ((hb.cell (p := ⟨bb, 2, none⟩) hB.1.blk.lt).trans k2) ((hH256.turn (G := []) (Turn.ofBelow hb (Nat.le_refl _)) (by simp)).cv hch)))
          have HPA := Lib.hid hpa
          have HB := Lib.hid hB
          have HSTEP := Lib.hid hstep
          have HRB := Lib.hid hrb
          have HNN := Lib.hid hN
          have hb : Below wr.heap.size wr wr.drew := (Below.refl _ _).drew
          have hN2 : N ≤ 16384 := by omega
          clear hpa hB hstep hrb hP hR hBk hH256 hAl hs0 hsc k2 hcell hN
          have kI : (k : Int) < 2 := by omega
          have kI0 : (0 : Int) ≤ (k : Int) := by omega
          obtain ⟨q1, q2, q3⟩ := HS.out _ hb
          go_wp2_with fail
          have ha0 : Below wr.heap.size wr (wr.alloc (.cells #[.int .i64 0, .int .i64 0, .int .i64 0, .int .i64 0] 106)).drew := ((Below.refl _ wr).alloc (Nat.le_refl _) _).drew
          have hbA : ∀ (W : World), Below wr.heap.size wr W → ∀ v0 v1 v2 v3 : Value, Below wr.heap.size wr (W.alloc (.cells #[v0, v1, v2, v3] 106)) := fun W h v0 v1 v2 v3 => h.alloc h.size _
          have hbS : ∀ (W : World), Below wr.heap.size wr W → ∀ v0 v1 v2 v3 : Value, Below wr.heap.size wr ((((W.setCell ⟨wr.heap.size, 0, none⟩ v0).setCell ⟨wr.heap.size, 1, none⟩ v1).setCell ⟨wr.heap.size, 2, none⟩ v2).setCell ⟨wr.heap.size, 3, none⟩ v3) := fun W h v0 v1 v2 v3 =>
            (((h.setCell (p := ⟨wr.heap.size, 0, none⟩) (Nat.le_refl _) v0).setCell (p := ⟨wr.heap.size, 1, none⟩) (Nat.le_refl _) v1).setCell (p := ⟨wr.heap.size, 2, none⟩) (Nat.le_refl _) v2).setCell (p := ⟨wr.heap.size, 3, none⟩) (Nat.le_refl _) v3
          have bz : Blk (wr.alloc (.cells #[.int .i64 0, .int .i64 0, .int .i64 0, .int .i64 0] 106)).drew wr.heap.size 106 #[.int .i64 0, .int .i64 0, .int .i64 0, .int .i64 0] := (Blk.new _ _ _).drew
          go_cut [11, 12] (fun xb ok w' => ∃ (b : Nat) (x0 x1 x2 x3 : Int), xb = .pointer (some ⟨b, 0, none⟩) ∧ ok = .bool ro ∧ Blk w' b 106 #[.int .i64 x0, .int .i64 x1, .int .i64 x2, .int .i64 x3] ∧ Below wr.heap.size wr w' ∧ wr.heap.size ≤ b ∧ (ro = true → x0 = (rh.num : Int) ∧ x1 = (rh.first : Int) ∧ x2 = (rh.beg : Int) ∧ x3 = (rh.en : Int)))
          case first =>
            go_region_held3 (fun w' => w'.cell? ⟨bb, k, none⟩ = some (Value.slice (some ⟨gh, 0, none⟩) 256 ch) ∧ w'.cell? ⟨bb, 2, none⟩ = some (Value.slice (some ⟨ga, 0, none⟩) N ca) ∧ (convert 31 9 (Value.slice (some ⟨gh, 0, none⟩) 256 ch)).run Tryz.prog w' = Result.ok (Value.string s) w')
              (first | with_reducible exact ⟨q1, q2, q3⟩ | with_reducible exact HS.out _ ha0 | with_reducible exact HS.out _ (hbA _ hbp _ _ _ _) | with_reducible exact HS.out _ (hbS _ hbp _ _ _ _))
              (first
                | (go_at_call 56; with_reducible refine (HPA.out wr.drew).mono ?_; rintro e w5 ⟨x0, x1, x2, x3, rfl, hx, hb5⟩; have hbp : Below wr.heap.size wr w5 := hb.trans (hb5.mono hb.size); obtain ⟨q1, q2, q3⟩ := HS.out _ hbp)
                | (go_at_call 56; with_reducible refine (HPA.out (wr.alloc (.cells #[.int .i64 0, .int .i64 0, .int .i64 0, .int .i64 0] 106)).drew).mono ?_; rintro e w5 ⟨x0, x1, x2, x3, rfl, hx, hb5⟩; have hbp : Below wr.heap.size wr w5 := ha0.trans (hb5.mono ha0.size); obtain ⟨q1, q2, q3⟩ := HS.out _ hbp; have bz := bz.below hb5 bz.lt; have z0 := bz.cell 0; have z1 := bz.cell 1; have z2 := bz.cell 2; have z3 := bz.cell 3; have f0 := bz.frozen 0; have f1 := bz.frozen 1; have f2 := bz.frozen 2; have f3 := bz.frozen 3; simp at z0 z1 z2 z3)
                | fail)
            all_goals go_wp2_with fail
            all_goals go_meet
            · exact ⟨w5.heap.size, x0, x1, x2, x3, rfl, rfl, Blk.new _ _ _, hbA _ hbp _ _ _ _, hbp.size, hx⟩
            · exact ⟨wr.heap.size, x0, x1, x2, x3, rfl, rfl, (((bz.set_ 0 _).set_ 1 _).set_ 2 _).set_ 3 _, hbS _ hbp _ _ _ _, Nat.le_refl _, hx⟩
          obtain ⟨b, x0, x1, x2, x3, rfl, rfl, hblk, hb6, hbs, hx⟩ := hcut
          have hL6 := HB.out.below hb6
          have x0c : wc.cell? ⟨b, 0, none⟩ = some (.int .i64 x0) := hblk.cell 0
          have x1c : wc.cell? ⟨b, 1, none⟩ = some (.int .i64 x1) := hblk.cell 1
          have x2c : wc.cell? ⟨b, 2, none⟩ = some (.int .i64 x2) := hblk.cell 2
          have x3c : wc.cell? ⟨b, 3, none⟩ = some (.int .i64 x3) := hblk.cell 3
          have k3 : wc.cell? ⟨bb, 3, none⟩ = some (.int .i64 (ph.num : Int)) := hL6.1.blk.cell 3
          have HL6 := Lib.hid hL6
          have hbn : b ≠ bb := by have := HB.out.1.blk.lt; omega
          clear q1 q2 q3 ha0 hbA hbS bz hb hL6 HS HPA
          have hcase : (ro && (!po || decide (ph.num < rh.num))) = true ∨ (ro && (!po || decide (ph.num < rh.num))) = false := by cases (ro && (!po || decide (ph.num < rh.num))) <;> simp
          have no : (ro && (!po || decide (ph.num < rh.num))) = false → pickH st N (k + 1) = (ph, po) := fun h => by rw [HSTEP.out, h]; rfl
          have yes : (ro && (!po || decide (ph.num < rh.num))) = true → pickH st N (k + 1) = (rh, true) := fun h => by rw [HSTEP.out, h]; rfl
          have HNO := Lib.hid no
          have HYES := Lib.hid yes
          clear no yes hcase
          cases ro with
          | false =>
            have hfin := HNO.out rfl
            have HFIN := Lib.hid hfin
            clear hfin
            go_wp2_with fail
            go_quiet (fail)
            go_wp2_with fail
            go_roundw
            case rel => exact ⟨k + 1, g0, g1, ga, c0, c1, ca, vr, by omega, by rw [HFIN.out], by rw [HFIN.out], by go_num, by unfold pickB; rw [HNN.out, HFIN.out]; exact HL6.out.below (below_drewN (Below.refl _ _))⟩
            case measure => simp [intOf]; omega
          | true =>
            obtain ⟨rfl, rfl, rfl, rfl⟩ := hx rfl
            have hyes := HYES.out
            have hno := HNO.out
            clear HYES HNO hx
            cases po with
            | true =>
              obtain ⟨dc, hdc⟩ : ∃ d, decide (ph.num < rh.num) = d := ⟨_, rfl⟩
              have dI : decide ((ph.num : Int) < (rh.num : Int)) = dc := by rw [← hdc, decide_eq_decide]; omega
              rewrite [hdc] at hyes hno
              cases dc with
              | false =>
                have hfin := hno rfl
                have HFIN := Lib.hid hfin
                clear hfin hyes hno
                go_wp2_with fail
                go_quiet (fail)
                go_wp2_with fail
                go_roundw
                case rel => exact ⟨k + 1, g0, g1, ga, c0, c1, ca, vr, by omega, by rw [HFIN.out], by rw [HFIN.out], by go_num, by unfold pickB; rw [HNN.out, HFIN.out]; exact HL6.out.below (below_drewN (Below.refl _ _))⟩
                case measure => simp [intOf]; omega
              | true =>
                have hfin := hyes rfl
                have HFIN := Lib.hid hfin
                clear hfin hyes hno
                go_wp2_with fail
                go_quiet (fail)
                go_wp2_with fail
                have hb7 : Below wr.heap.size wr (wc.drewN nq) := below_drewN hb6
                have x0d : (wc.drewN nq).cell? ⟨b, 0, none⟩ = some (.int .i64 (rh.num : Int)) := x0c
                have x1d : (wc.drewN nq).cell? ⟨b, 1, none⟩ = some (.int .i64 (rh.first : Int)) := x1c
                have x2d : (wc.drewN nq).cell? ⟨b, 2, none⟩ = some (.int .i64 (rh.beg : Int)) := x2c
                have x3d : (wc.drewN nq).cell? ⟨b, 3, none⟩ = some (.int .i64 (rh.en : Int)) := x3c
                obtain ⟨W7, hW7⟩ : ∃ W, wc.drewN nq = W := ⟨_, rfl⟩
                rewrite [hW7] at hb7 x0d x1d x2d x3d ⊢
                have hL7 := HB.out.below hb7
                have k3 := hL7.1.blk.cell 3
                have k4 := hL7.1.blk.cell 4
                have k5 := hL7.1.blk.cell 5
                have f3 := hL7.1.blk.frozen 3
                have f4 := hL7.1.blk.frozen 4
                have f5 := hL7.1.blk.frozen 5
                simp at k3 k4 k5
                have HN7 := Lib.hid (HB.out.sethd hb7 rh)
                clear hW7 hL7 x0c x1c x2c x3c hblk
                go_region
                all_goals
                  go_wp2_with fail
                  go_roundw
                  case rel => exact ⟨k + 1, g0, g1, ga, c0, c1, ca, vr, by omega, by rw [HFIN.out], by rw [HFIN.out], by go_num, by unfold pickB; rw [HNN.out, HFIN.out]; exact HN7.out.below ((Below.refl _ _).drew)⟩
                  case measure => simp [intOf]; omega
            | false =>
              have hfin := hyes rfl
              have HFIN := Lib.hid hfin
              clear hfin hyes hno
              go_wp2_with fail
              go_quiet (fail)
              go_wp2_with fail
              have hb7 : Below wr.heap.size wr (wc.drewN nq) := below_drewN hb6
              have x0d : (wc.drewN nq).cell? ⟨b, 0, none⟩ = some (.int .i64 (rh.num : Int)) := x0c
              have x1d : (wc.drewN nq).cell? ⟨b, 1, none⟩ = some (.int .i64 (rh.first : Int)) := x1c
              have x2d : (wc.drewN nq).cell? ⟨b, 2, none⟩ = some (.int .i64 (rh.beg : Int)) := x2c
              have x3d : (wc.drewN nq).cell? ⟨b, 3, none⟩ = some (.int .i64 (rh.en : Int)) := x3c
              obtain ⟨W7, hW7⟩ : ∃ W, wc.drewN nq = W := ⟨_, rfl⟩
              rewrite [hW7] at hb7 x0d x1d x2d x3d ⊢
              have hL7 := HB.out.below hb7
              have k3 := hL7.1.blk.cell 3
              have k4 := hL7.1.blk.cell 4
              have k5 := hL7.1.blk.cell 5
              have f3 := hL7.1.blk.frozen 3
              have f4 := hL7.1.blk.frozen 4
              have f5 := hL7.1.blk.frozen 5
              simp at k3 k4 k5
              have HN7 := Lib.hid (HB.out.sethd hb7 rh)
              clear hW7 hL7 x0c x1c x2c x3c hblk
              go_region
              all_goals
                go_wp2_with fail
                go_roundw
                case rel => exact ⟨k + 1, g0, g1, ga, c0, c1, ca, vr, by omega, by rw [HFIN.out], by rw [HFIN.out], by go_num, by unfold pickB; rw [HNN.out, HFIN.out]; exact HN7.out.below ((Below.refl _ _).drew)⟩
                case measure => simp [intOf]; omega
        --P2
        · obtain rfl : k = 2 := by omega
          obtain ⟨hf1, hf2⟩ := pickH_find st (256 * m)
          have hfp := found_parts HWF.out HL.out
          have hfb := findHd_bool (s0 := st.sct 0) (s1 := st.sct 1) (n := 256 * m)
          obtain ⟨⟨P, po⟩, hP⟩ : ∃ r, pickH st (256 * m) 2 = r := ⟨_, rfl⟩
          have hBk : pickB st m 2 = ⟨st.sct 0, st.sct 1, st.area, ⟨P.num, P.first, P.beg, [], 0⟩⟩ := by unfold pickB; rw [hP]
          rewrite [hBk] at hB
          rewrite [hP] at hf1 hf2 ⊢
          simp only at hf1 hf2 ⊢
          rewrite [← hf1] at hfp hfb
          cases po with
          | false =>
            simp only [Bool.false_eq_true, if_false] at hfp
            have HFP := Lib.hid hfp
            have HB := Lib.hid hB
            clear hf1 hf2 hfp hfb hP hBk hB
            go_wp2_with fail
            go_loopw [13] (fun _ wr2 => wr2 = wr) (fun _ _ => 0)
            case atStart => rfl
            case round =>
              obtain rfl := hrel
              go_wp2_with fail
              go_ret2
              exact ⟨bb, _, by rw [HFP.out]; rfl, HB.out.2.2, HB.out.2.1, fun S hS => by rw [HFP.out] at hS; cases hS⟩
          | true =>
            rewrite [if_pos rfl, ← hf2 rfl] at hfp
            rewrite [← hf2 rfl] at hfb
            obtain ⟨hsm, hbe, heb⟩ := hfb rfl
            obtain ⟨_, hsf, hsb, hse⟩ := hsm
            have hA : st.area.length = 256 * m := by rw [HWF.out.area, HL.out]; rfl
            have HFP := Lib.hid hfp
            have HB := Lib.hid hB
            have HAL := Lib.hid hA
            clear hf1 hf2 hfp hfb hP hBk hB hA
            obtain ⟨i0, hi, hz0, hz1, hz2⟩ := info_parts ju8_info
            obtain ⟨i1, hi1, hz3, hz4, hz5⟩ := info_parts brec_info
            go_wp2_with fail
            go_loopw [13] (fun _ wr2 => Lp3 w wr2 bb st P) (fun _ wr2 => 1048577 - rowLen (wr2.cell? ⟨bb, 6, none⟩))
            case atStart => exact ⟨⟨[], g0, g1, ga, c0, c1, ca, vr, HB.out, trivial, hbe, rfl⟩⟩
            case round =>
              clear HB
              obtain ⟨⟨l, g0, g1, ga, c0, c1, ca, vr, hB, hch, hre, hfr⟩⟩ := hrel
              have hge := rend_ge hch
              have hll : l.length ≤ 16384 := by omega
              have hrb : ∀ r, r ∈ l → r.1 + 16 + r.2.size ≤ 1125899906842624 := fun r hr => by
                obtain ⟨i, hi⟩ := List.getElem?_of_mem hr
                have := (chain_get hch hi).2.2
                omega
              obtain ⟨p, hp⟩ : ∃ p, rend P.beg l = p := ⟨_, rfl⟩
              have HNX := Lib.hid (fun (w' : World) (hb : Below wr.heap.size wr w') => by
                have := bnext_any (hB.1.below hb) (by show l.length ≤ _; omega) hrb
                rewrite [show (BS.s ⟨st.sct 0, st.sct 1, st.area, ⟨P.num, P.first, P.beg, l, l.length⟩⟩).next = p from hp] at this
                exact this)
              rewrite [hp] at hre hfr hge
              have hpB : p ≤ 562949953421312 := by omega
              have HB := Lib.hid hB
              have HFR := Lib.hid hfr
              have HCH := Lib.hid (And.intro hch hp)
              have hbr := Below.refl wr.heap.size wr
              clear hB hch hrb hp hfr
              by_cases h16 : p + 16 ≤ P.en
              · have d16 : decide ((p : Int) + 16 ≤ (P.en : Int)) = true := by simp; omega
                have hby := fun (w' : World) (hb : Below wr.heap.size wr w') (q n : Nat) (hq : q ≤ 1125899906842624) (hn : n ≤ 1048576) => bbytes_any (HB.out.1.below hb) q n hq hn (by show 0 < st.area.length; rw [HAL.out]; omega) (by show st.area.length ≤ _; rw [HAL.out]; omega)
                have hls := fun (w' : World) (hb : Below wr.heap.size wr w') => blast_any (HB.out.1.below hb) (by show P.first ≤ _; omega) (by show l.length ≤ _; omega)
                obtain ⟨la, hla⟩ : ∃ la, (P.first : Int) + (l.length : Int) - 1 = la := ⟨_, rfl⟩
                have hls' : ∀ w', Below wr.heap.size wr w' → Calls Tryz.prog 45 #[.pointer (some ⟨bb, 0, none⟩)] w' fun e w'' => e = .returned (.int .i64 la) ∧ ∃ n, w'' = w'.drewN n := fun w' hb => by
                  have := hls w' hb
                  rewrite [show (BS.s ⟨st.sct 0, st.sct 1, st.area, ⟨P.num, P.first, P.beg, l, l.length⟩⟩).last = la from hla] at this
                  exact this
                obtain ⟨A, hAe⟩ : ∃ A, st.area = A := ⟨_, rfl⟩
                have HAE := Lib.hid hAe
                obtain ⟨H, hH⟩ : ∃ H, rd A p 16 = H := ⟨_, rfl⟩
                have hHl : H.length = 16 := by rw [← hH]; exact rd_length _ _ _
                have hb16 : ∀ w', Below wr.heap.size wr w' → Calls Tryz.prog 58 #[.pointer (some ⟨bb, 0, none⟩), .int .i64 (p : Int), .int .i64 16] w' fun e w'' => ∃ v, e = .returned v ∧ w''.ownsRow w'.heap.size 5 1 v 16 (Lib.byteCells H) ∧ Below w'.heap.size w' w'' := fun w' hb => by
                  have := hby w' hb p 16 (by omega) (by omega)
                  rewrite [show (BS.area ⟨st.sct 0, st.sct 1, st.area, ⟨P.num, P.first, P.beg, l, l.length⟩⟩) = A from hAe, hH] at this
                  exact this
                obtain ⟨n, hn⟩ : ∃ n, fsize A p = n := ⟨_, rfl⟩
                have hn32 : n < 4294967296 := by
                  rewrite [← hn]
                  unfold fsize field
                  have := beV_lt (((rd A p 16).drop 0).take 4)
                  rewrite [hH, List.length_take, List.length_drop, hHl] at this
                  rewrite [hH]
                  exact this
                have hnv : lread (sg H 0 4) 0 = (n : Int) := by
                  have e : beV (sg H 0 4) = n := by rw [← hn, ← hH]; rfl
                  rw [lread_low _ (by rw [e]; omega), e]
                obtain ⟨D, hD⟩ : ∃ D, rd A (p + 16) n = D := ⟨_, rfl⟩
                have hDl : D.length = n := by rw [← hD]; exact rd_length _ _ _
                have hfd : fdata A p = D := by unfold fdata; rw [hn, hD]
                have hbd : n ≤ 65536 → ∀ w', Below wr.heap.size wr w' → Calls Tryz.prog 58 #[.pointer (some ⟨bb, 0, none⟩), .int .i64 ((p : Int) + 16), .int .i64 (n : Int)] w' fun e w'' => ∃ v, e = .returned v ∧ w''.ownsRow w'.heap.size 5 1 v n (Lib.byteCells D) ∧ Below w'.heap.size w' w'' := fun hn6 w' hb => by
                  have := hby w' hb (p + 16) n (by omega) (by omega)
                  rewrite [show (BS.area ⟨st.sct 0, st.sct 1, st.area, ⟨P.num, P.first, P.beg, l, l.length⟩⟩) = A from hAe, hD, show ((p + 16 : Nat) : Int) = (p : Int) + 16 by omega] at this
                  exact this
                have HLS := Lib.hid hls'
                have HB16 := Lib.hid hb16
                have HBD := Lib.hid hbd
                have HEQ := Lib.hid (And.intro hH (And.intro hn (And.intro hD (And.intro hfd (And.intro hla (And.intro hnv (And.intro hHl hDl)))))))
                have hbc := hbr
                have hlab : -1 ≤ la ∧ la ≤ 562949953421312 := by omega
                clear hby hls hls' hb16 hbd hH hn hD hfd hla hAe hHl hDl hnv hbr
                go_wp2_with (first
                  | (go_at_call 57; refine (HNX.out _ hbc).mono ?_; rintro e w2 ⟨rfl, hb2⟩; have hbc := hbc.trans (hb2.mono hbc.size); clear hb2)
                  | (go_at_call 58; refine (HB16.out _ hbc).mono ?_; rintro e w3 ⟨v3, rfl, ho3, hb3⟩; obtain ⟨gl, cl, rfl⟩ := lframe_slice ho3 (by decide); have hbc := hbc.trans (hb3.mono hbc.size); clear hb3))
                have hcl : 16 ≤ cl := by
                  rcases ho3.2 with ⟨e, _⟩ | ⟨g, c, cur, e, _, _, hc, _⟩
                  · cases e
                  · injection e with _ _ e3; omega
                have HO3 := Lib.hid ho3
                have HRD := Lib.hid (fun (w' : World) (hb : Below w3.heap.size w3 w') (a k c : Nat) (ha : a + k ≤ 16) => lread_any (Byts.below (row_sub HO3.out HEQ.out.2.2.2.2.2.2.1 a k c ha (by decide)) hb))
                have n4 : ¬ cl = 4 := by omega
                have n12 : ¬ cl = 12 := by omega
                have i4 : (4 : Int) ≤ (cl : Int) := by omega
                have i12 : (12 : Int) ≤ (cl : Int) := by omega
                have i16 : (16 : Int) ≤ (cl : Int) := by omega
                have hb : Below w3.heap.size w3 w3.drew := (Below.refl _ _).drew
                clear ho3
                go_wp2_with fail
                go_region_held3 (fun _ => True) (first | trivial)
                  ((go_at_call 59; refine Calls.mono (HRD.out _ hb _ _ _ ?hh) ?_; (case hh => decide); rintro e w4 ⟨rfl, rfl⟩))
                rewrite [HEQ.out.2.2.2.2.2.1]
                obtain ⟨kI, hkI⟩ : ∃ x, lread (sg H 4 8) 0 = x := ⟨_, rfl⟩
                rewrite [hkI]
                have hbc := hbc.drew
                obtain ⟨w4, hw4⟩ : ∃ w4, w3.drew = w4 := ⟨_, rfl⟩
                rewrite [hw4] at hbc hb ⊢
                have hk3 : kI = la + 1 ↔ field (rd A p 16) 4 8 = P.first + l.length := by
                  rewrite [← hkI, ← HEQ.out.2.2.2.2.1, show (P.first : Int) + (l.length : Int) - 1 + 1 = ((P.first + l.length : Nat) : Int) by omega, lread_num _ _ (by omega), HEQ.out.1]
                  exact Iff.rfl
                have HK3 := Lib.hid hk3
                have HB4 := Lib.hid hb
                clear hk3 hkI hw4 hb
                by_cases a1 : n ≤ 65536
                · have d1 : decide (65536 < (n : Int)) = false := by simp; omega
                  by_cases a2 : p + 16 + n ≤ P.en
                  · have d2 : decide ((P.en : Int) < (p : Int) + 16 + (n : Int)) = false := by simp; omega
                    by_cases a3 : kI = la + 1
                    · have d3 : (kI != la + 1) = false := by rw [bne_eq_false_iff_eq]; exact a3
                      have hfit : fsize A p ≤ 65536 ∧ p + 16 + fsize A p ≤ P.en ∧ field (rd A p 16) 4 8 = P.first + l.length := by rw [HEQ.out.2.1]; exact ⟨a1, a2, HK3.out.1 a3⟩
                      have HFIT := Lib.hid hfit
                      have HBD' := Lib.hid (HBD.out a1)
                      clear hfit a3 HBD
                      go_wp2_with (first
                        | (go_at_call 45; refine (HLS.out _ hbc).mono ?_; rintro e w5 ⟨rfl, n5, rfl⟩; have hbc := below_drewN (n := n5) hbc; have hb5 : Below w3.heap.size w3 (w4.drewN n5) := below_drewN HB4.out)
                        | (go_at_call 58; refine (HBD'.out _ hbc).mono ?_; rintro e w6 ⟨v6, rfl, ho6, hb6⟩; obtain ⟨ao, c6, rfl⟩ := brow_shape ho6; have hbc := hbc.trans (hb6.mono hbc.size); have hb6 := hb5.trans (hb6.mono hb5.size); clear hb5))
                      have HO6 := Lib.hid ho6
                      have hrl := row_turn HO3.out (Turn.ofBelow (F := []) hb6 (Nat.le_refl _)) (fun _ _ => by simp)
                      have HRL := Lib.hid hrl
                      have HRD6 := Lib.hid (fun (w' : World) (hb : Below w6.heap.size w6 w') (a k c : Nat) (ha : a + k ≤ 16) => lread_any (Byts.below (row_sub HRL.out HEQ.out.2.2.2.2.2.2.1 a k c ha (by decide)) hb))
                      have HDX := Lib.hid (fun (w' : World) (hb : Below w6.heap.size w6 w') => row_shown (row_turn HO6.out (Turn.ofBelow (F := []) hb (Nat.le_refl _)) (fun _ _ => by simp)))
                      have hownA : (w6.alloc (.cells #[] 5)).drew.ownsRow w6.heap.size 5 1 (.slice (some ⟨w6.heap.size, 0, none⟩) 0 0) 0 [] := row_turn (empty_row w6 (Nat.le_refl _) _) ((Turn.refl [] _).drew) (fun _ _ => by simp)
                      have hbA : Below w6.heap.size w6 (w6.alloc (.cells #[] 5)).drew := ((Below.refl _ w6).alloc (Nat.le_refl _) _).drew
                      have newsl := row_news_sub (row_turn HRL.out (Turn.ofBelow (F := []) hbA (Nat.le_refl _)) (fun _ _ => by simp)) 12
                      have hs12 : (sg H 0 12).length = 12 := by unfold sg; rw [List.length_take, List.length_drop, HEQ.out.2.2.2.2.2.2.1]; rfl
                      have hl12 : (Lib.byteCells (sg H 0 12)).length = 12 * 1 := by rw [Lib.byteCells_length, hs12]
                      have hlD : (Lib.byteCells D).length = n * 1 := by rw [Lib.byteCells_length, HEQ.out.2.2.2.2.2.2.2, Nat.mul_one]
                      have hbd6 : Below w6.heap.size w6 w6.drew := (Below.refl _ _).drew
                      have hxl : (sg H 0 12 ++ D).length = 12 + n := by rw [List.length_append, hs12, HEQ.out.2.2.2.2.2.2.2]
                      have HXL := Lib.hid hxl
                      have HSM := Lib.hid hs12
                      have sumI : crc ((rd A p 16).take 12 ++ fdata A p) = field (rd A p 16) 12 4 ↔ (crc (sg H 0 12 ++ D) : Int) = lread (sg H 12 4) 0 := by
                        have e : beV (sg H 12 4) = field (rd A p 16) 12 4 := by rw [HEQ.out.1]; rfl
                        have hlt := beV_lt (sg H 12 4)
                        have hl4 : (sg H 12 4).length ≤ 4 := by unfold sg; rw [List.length_take]; omega
                        have h256 : 256 ^ (sg H 12 4).length ≤ 256 ^ 4 := Nat.pow_le_pow_right (by decide) hl4
                        rewrite [lread_low _ (by omega), e, HEQ.out.2.2.2.1, HEQ.out.1]
                        show crc (sg H 0 12 ++ D) = _ ↔ _
                        omega
                      have HSI := Lib.hid sumI
                      clear ho6 hrl sumI hs12 hxl
                      go_region_held3 (fun _ => True) (first | trivial)
                        (first
                          | (go_at_call 60; refine (lcrc_any hby8 (by rw [HXL.out]; omega)).mono ?_; rintro e w9 ⟨rfl, rfl⟩)
                          | (go_at_call 59; refine Calls.mono (HRD6.out _ ?hw _ _ _ ?hh) ?_; (case hw => first | with_reducible exact hb8 | with_reducible exact hb7 | with_reducible exact hbA | with_reducible exact hbd6); (case hh => decide); rintro e w10 ⟨rfl, rfl⟩)
                          | (refine step_append_any _ (by rfl) _ _ _ (by rfl) w6.heap.size 5 i0 _ 1 1 Tryz.underlying31 hi hz0 hz1 hz2 rfl (by decide) g7 12 cap7 (Lib.byteCells (sg H 0 12)) (by rfl) ho7 ao n c6 (Lib.byteCells D) (by rfl) hlD (HDX.out _ hb7) (byteCells_one _) (by unfold maxLen; omega) (by omega) hb7.size ?_; intro g8 cap8 w8 ho8 hg8; have hb8 : Below w6.heap.size w6 w8 := hb7.grown hg8 hb7.size (fun x hx => by injection hx with hx; subst hx; exact (ho7.lt _ rfl).1); have hby8 : Byts w8 (.slice (some ⟨g8, 0, none⟩) (12 + n) cap8) (sg H 0 12 ++ D) := by (have hx := HXL.out; rw [← hx] at ho8 ⊢; exact Byts.of_row (by rw [byteCells_app]; exact ho8) (by rw [hx]; omega)))
                          | (refine step_append_shown _ (by rfl) _ _ _ (by rfl) w6.heap.size 5 i0 _ 1 1 Tryz.underlying31 hi hz0 hz1 hz2 rfl (by decide) w6.heap.size (by rfl) hownA (some ⟨gl, 0, none⟩) 12 cl (Lib.byteCells (sg H 0 12)) (by rfl) hl12 (.inr ⟨_, rfl, newsl⟩) (byteCells_one _) (by decide) (by decide) hbA.size ?_; intro g7 cap7 w7 ho7 hg7; have hb7 : Below w6.heap.size w6 w7 := hbA.grown hg7 hbA.size (fun x hx => by injection hx with hx; subst hx; exact Nat.le_refl _))
                          | fail)
                      have hbc8 := hbc.trans (hb8.mono hbc.size)
                      by_cases hsum : crc ((rd A p 16).take 12 ++ fdata A p) = field (rd A p 16) 12 4
                      · have e5 : ((crc (sg H 0 12 ++ D) : Int) != lread (sg H 12 4) 0) = false := by rw [bne_eq_false_iff_eq]; exact HSI.out.1 hsum
                        have hnx := fr_next h16 HFIT.out hsum
                        rewrite [HEQ.out.2.1, HEQ.out.2.2.2.1] at hnx
                        have HNX5 := Lib.hid hnx
                        have hB8 := HB.out.1.below hbc8
                        obtain ⟨aor, cr, hvr⟩ := brow_shape hB8.rs
                        subst hvr
                        have HB8 := Lib.hid hB8
                        have hne : (Value.slice aor l.length cr).ownBlock ≠ some bb := hB8.rs_ne
                        have lb8 : bb < w8.heap.size := hB8.blk.lt
                        have hr1 : (w8.alloc (.cells #[.string ⟨D.toArray⟩, .int .i64 (p : Int), .bool true] 82)).drew.ownsRow 0 82 3 (.slice aor l.length cr) l.length (bcells l.length l) := row_turn hB8.rs (((Turn.refl [] w8).alloc _).drew) (fun _ _ => by simp)
                        have HD8 := Lib.hid (row_turn HO6.out (Turn.ofBelow (F := []) hb8 (Nat.le_refl _)) (fun _ _ => by simp))
                        have hbZ : Below w8.heap.size w8 (w8.alloc (.cells #[.string ⟨D.toArray⟩, .int .i64 (p : Int), .bool true] 82)).drew := ((Below.refl _ w8).alloc (Nat.le_refl _) _).drew
                        have hsa : (w8.alloc (.cells #[.string ⟨D.toArray⟩, .int .i64 (p : Int), .bool true] 82)).drew.heap.size = w8.heap.size + 1 := by simp
                        have q6 : w8.drew.cell? ⟨bb, 6, none⟩ = some (.slice aor l.length cr) := hB8.blk.cell 6
                        have qc : (convert 31 9 (.slice ao n c6)).run Tryz.prog w8.drew = .ok (.string ⟨D.toArray⟩) w8.drew := row_conv (row_turn HD8.out ((Turn.refl [] w8).drew) (fun _ _ => by simp)) HEQ.out.2.2.2.2.2.2.2
                        have r6 : (w8.alloc (.cells #[.string ⟨D.toArray⟩, .int .i64 (p : Int), .bool true] 82)).drew.cell? ⟨bb, 6, none⟩ = some (.slice aor l.length cr) := (hbZ.cell (p := ⟨bb, 6, none⟩) lb8).trans (hB8.blk.cell 6)
                        have g6 : (w8.alloc (.cells #[.string ⟨D.toArray⟩, .int .i64 (p : Int), .bool true] 82)).drew.frozen? ⟨bb, 6, none⟩ = false := (hbZ.frozen (p := ⟨bb, 6, none⟩) lb8).trans (hB8.blk.frozen 6)
                        have rc : (convert 31 9 (.slice ao n c6)).run Tryz.prog (w8.alloc (.cells #[.string ⟨D.toArray⟩, .int .i64 (p : Int), .bool true] 82)).drew = .ok (.string ⟨D.toArray⟩) (w8.alloc (.cells #[.string ⟨D.toArray⟩, .int .i64 (p : Int), .bool true] 82)).drew := row_conv (row_turn HD8.out (((Turn.refl [] w8).alloc _).drew) (fun _ _ => by simp)) HEQ.out.2.2.2.2.2.2.2
                        have hnw : (w8.alloc (.cells #[.string ⟨D.toArray⟩, .int .i64 (p : Int), .bool true] 82)).drew.heap[w8.heap.size]? = some (.cells #[.string ⟨D.toArray⟩, .int .i64 (p : Int), .bool true] 82 (0, 0)) := heap_alloc_new w8 _
                        clear hnx hB8 hb8 hby8 ho8 hg8 hb7 ho7 hg7 hbA hownA newsl hbd6
                        go_wp2_with fail
                        go_region_law (first
                          | (refine step_append_lies _ (by rfl) _ _ _ (by rfl) 0 82 i1 _ 3 32 Tryz.underlying34 hi1 hz3 hz4 hz5 rfl (by omega) (.slice aor l.length cr) l.length (bcells l.length l) (by rfl) hr1 ⟨w8.heap.size, 0, none⟩ 1 1 [.string ⟨D.toArray⟩, .int .i64 (p : Int), .bool true] (by rfl) (by rfl) (World.news_of_block (cs := #[.string ⟨D.toArray⟩, .int .i64 (p : Int), .bool true]) (t := 82) (fr := (0, 0)) hnw) (by simp [Value.oneCell']) (by omega) (by unfold maxLen; omega) (by omega) (Nat.zero_le _) (w8.heap.size + 1) hsa ?_; intro g9 cap9 w9 hown9 hg9 hat9 hlt9; have k9 := (hg9.cell_far ⟨bb, 6, none⟩ (by show bb < _; rw [hsa]; omega) (fun e => hne e.symm)).trans r6; have f9 := (hg9.frozen_far ⟨bb, 6, none⟩ (by show bb < _; rw [hsa]; omega) (fun e => hne e.symm)).trans g6)
                          | fail)
                        all_goals
                          have hLP := HB.out.pushed (hbc8.trans (hbZ.mono hbc8.size)) hg9 hown9 (hat9.imp id (fun e => by have := hbc8.size; omega))
                          have HLP := Lib.hid hLP
                          clear hLP hg9 hown9 hat9 hr1 hnw k9 f9 q6 qc r6 rc g6
                          go_wp2_with fail
                          go_roundw
                          case rel =>
                            have hds : (⟨D.toArray⟩ : ByteArray).size = n := by show D.toArray.size = n; rw [List.size_toArray]; exact HEQ.out.2.2.2.2.2.2.2
                            have h1 : Chain P.beg (l ++ [(p, (⟨D.toArray⟩ : ByteArray))]) := chain_append.2 ⟨HCH.out.1, HCH.out.2.symm, by show ByteArray.size ⟨D.toArray⟩ ≤ _; rw [hds]; exact a1, trivial⟩
                            have h2 : rend P.beg (l ++ [(p, (⟨D.toArray⟩ : ByteArray))]) ≤ P.en := by
                              rewrite [rend_snoc]
                              show p + 16 + ByteArray.size ⟨D.toArray⟩ ≤ _
                              rewrite [hds]; exact a2
                            have h3 : fr st.area P.en P.beg P.first = (l ++ [(p, (⟨D.toArray⟩ : ByteArray))]) ++ fr st.area P.en (rend P.beg (l ++ [(p, (⟨D.toArray⟩ : ByteArray))])) (P.first + (l ++ [(p, (⟨D.toArray⟩ : ByteArray))]).length) := by
                              rewrite [HFR.out, HAE.out, HNX5.out, rend_snoc, List.append_assoc, List.length_append]
                              show l ++ (p, _) :: _ = l ++ ([(p, _)] ++ fr A P.en (p + 16 + ByteArray.size ⟨D.toArray⟩) (P.first + (l.length + 1)))
                              rewrite [hds]
                              rfl
                            have hL3 := (Lp3.mk ⟨_, _, _, _, _, _, _, _, HLP.out, h1, h2, h3⟩ : Lp3 w _ bb st P)
                            repeat apply Exists.intro
                            exact ⟨hL3, rfl⟩
                          case measure =>
                            have e1 := HLP.out.1.blk.cell 6
                            have e2 := HB.out.1.blk.cell 6
                            rewrite [e1, e2]
                            show 1048577 - (l.length + 1) < 1048577 - l.length
                            omega
                      · have e5 : ((crc (sg H 0 12 ++ D) : Int) != lread (sg H 12 4) 0) = true := by rw [bne_iff_ne]; exact fun h => hsum (HSI.out.2 h)
                        have hno := fr_sum (A := st.area) (en := P.en) (p := p) (k := P.first + l.length) (by rw [HAE.out]; exact hsum)
                        have HNO := Lib.hid hno
                        clear hno
                        go_wp2_with fail
                        go_ret2
                        exact scan_done (HB.out.below hbc8) HFP.out (by rw [HFR.out, HNO.out, List.append_nil])
                    · have d3 : (kI != la + 1) = true := by rw [bne_iff_ne]; exact a3
                      have hno := fr_not (A := st.area) (en := P.en) (p := p) (k := P.first + l.length) (by rw [HAE.out]; exact fun h => a3 (HK3.out.2 h.2.2))
                      have HNO := Lib.hid hno
                      clear hno a3
                      go_wp2_with ((go_at_call 45; refine (HLS.out _ hbc).mono ?_; rintro e w5 ⟨rfl, n5, rfl⟩; have hbc := below_drewN (n := n5) hbc))
                      go_ret2
                      exact scan_done (HB.out.below hbc) HFP.out (by rw [HFR.out, HNO.out, List.append_nil])
                  · have d2 : decide ((P.en : Int) < (p : Int) + 16 + (n : Int)) = true := by simp; omega
                    have hno := fr_not (A := st.area) (en := P.en) (p := p) (k := P.first + l.length) (by rw [HAE.out, HEQ.out.2.1]; exact fun h => a2 h.2.1)
                    have HNO := Lib.hid hno
                    clear hno
                    go_wp2_with fail
                    go_ret2
                    exact scan_done (HB.out.below hbc) HFP.out (by rw [HFR.out, HNO.out, List.append_nil])
                · have d1 : decide (65536 < (n : Int)) = true := by simp; omega
                  have hno := fr_not (A := st.area) (en := P.en) (p := p) (k := P.first + l.length) (by rw [HAE.out, HEQ.out.2.1]; exact fun h => a1 h.1)
                  have HNO := Lib.hid hno
                  clear hno
                  go_wp2_with fail
                  go_ret2
                  exact scan_done (HB.out.below hbc) HFP.out (by rw [HFR.out, HNO.out, List.append_nil])
              · have hend := fr_end (A := st.area) (en := P.en) (p := p) (k := P.first + l.length) (by omega)
                have HEND := Lib.hid hend
                have d16 : decide ((p : Int) + 16 ≤ (P.en : Int)) = false := by simp; omega
                clear hend
                go_wp2_with ((go_at_call 57; refine (HNX.out _ hbr).mono ?_; rintro e w2 ⟨rfl, hb2⟩))
                go_ret2
                exact scan_done (HB.out.below hb2) HFP.out (by rw [HFR.out, HEND.out, List.append_nil])
end Go.Proofs.YtfdnpchbbngpjaaGreat
