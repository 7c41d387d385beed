/- The book's commit. -/
import Derived.Test.YtfdnpchbbngpjaaGreatJbh
import Derived.Test.YtfdnpchbbngpjaaGreatJpa
namespace Go.Proofs.YtfdnpchbbngpjaaGreat
attribute [local go_sem ↓] Go.wp_at_zero Go.wp_at_succ
open Go.RowKit Go.Maps

theorem bcells_commit {l : List Rc} {i : Nat} (h : i < l.length) : (bcells i l).set (i * 3 + 2) (.bool true) = bcells (i + 1) l := by
  induction l generalizing i with
  | nil => simp at h
  | cons r t ih =>
    cases i with
    | zero => rfl
    | succ i =>
      have := ih (i := i) (by simpa using h)
      rw [show (i + 1) * 3 + 2 = (i * 3 + 2) + 1 + 1 + 1 by omega]
      simp only [bcells, List.set_cons_succ, Nat.add_sub_cancel]
      rw [this]
      simp
theorem puts_append' (A : List UInt8) (k : Nat) (l m : List Rc) : puts A k (l ++ m) = puts (puts A k l) (k + l.length) m := by
  induction l generalizing A k with
  | nil => rfl
  | cons r t ih =>
    show puts (Go.Proofs.YtfdnpchbbngpjaaGreat.wr A r.1 (frameL k r.2.data.toList)) (k + 1) (t ++ m) = _
    rw [ih]
    show _ = puts (puts (Go.Proofs.YtfdnpchbbngpjaaGreat.wr A r.1 (frameL k r.2.data.toList)) (k + 1) t) (k + (t.length + 1)) m
    rw [show k + 1 + t.length = k + (t.length + 1) by omega]
theorem puts_snoc' (A : List UInt8) (k : Nat) (l : List Rc) (r : Rc) : puts A k (l ++ [r]) = Go.Proofs.YtfdnpchbbngpjaaGreat.wr (puts A k l) r.1 (frameL (k + l.length) r.2.data.toList) := by
  rw [puts_append']
  rfl
theorem wr_step (A : List UInt8) (p : Nat) (l : List UInt8) {k : Nat} (hk : k < l.length) : Go.Proofs.YtfdnpchbbngpjaaGreat.wr A p (l.take (k + 1)) = (Go.Proofs.YtfdnpchbbngpjaaGreat.wr A p (l.take k)).set ((p + k) % A.length) (l.getD k 0) := by
  rw [List.take_add_one, List.getElem?_eq_getElem hk, wr_append, List.length_take, Nat.min_eq_left (by omega), List.getD_eq_getElem?_getD, List.getElem?_eq_getElem hk]
  show (Go.Proofs.YtfdnpchbbngpjaaGreat.wr A p (l.take k)).set ((p + k) % (Go.Proofs.YtfdnpchbbngpjaaGreat.wr A p (l.take k)).length) l[k] = _
  rw [wr_length]
  rfl
section
variable {w : World} {bb g0 g1 ga c0 c1 ca : Nat} {vr : Value} {B : BS}
theorem Bk.vr_ga (h : Bk w bb g0 g1 ga c0 c1 ca vr B) : vr.ownBlock ≠ some ga := own_own_ne' h.ar h.rs (by decide) rfl
theorem Bk.area_set (h : Bk w bb g0 g1 ga c0 c1 ca vr B) (i : Nat) (x : UInt8) : Bk (w.setCell ⟨ga, i, none⟩ (.int .u8 (x.toNat : Int))) bb g0 g1 ga c0 c1 ca vr { B with area := B.area.set i x } ∧ Turn [ga] w (w.setCell ⟨ga, i, none⟩ (.int .u8 (x.toNat : Int))) := by
  have t : Turn [ga] w (w.setCell ⟨ga, i, none⟩ (.int .u8 (x.toNat : Int))) := (Turn.refl _ w).setCell (p := ⟨ga, i, none⟩) (.inl (by simp)) _
  have s1 := (h.ar.stored i (.int .u8 (x.toNat : Int))).1
  rw [cells_setJ] at s1
  have hl : ({ B with area := B.area.set i x } : BS).area.length = B.area.length := List.length_set
  refine ⟨⟨?_, h.h0.turn t (by simpa using h.n0), h.h1.turn t (by simpa using h.n1), h.k0, h.k1, ?_, row_turn h.rs t (fun y hy => by simp; rintro rfl; exact h.vr_ga hy), h.n0, h.n1⟩, t⟩
  · rw [hl]; exact h.blk.turn t (by simpa using h.ar_ne.symm)
  · rw [hl]; exact s1
theorem Bk.commit_set {gr n cap i : Nat} (h : Bk w bb g0 g1 ga c0 c1 ca (.slice (some ⟨gr, 0, none⟩) n cap) B) (hi : B.s.comm = i) (hin : i < B.s.recs.length) (hn : B.s.recs.length = n) :
    Bk (w.setCell ⟨gr, i * 3 + 2, none⟩ (.bool true)) bb g0 g1 ga c0 c1 ca (.slice (some ⟨gr, 0, none⟩) n cap) { B with s := { B.s with comm := i + 1 } } ∧ Turn [gr] w (w.setCell ⟨gr, i * 3 + 2, none⟩ (.bool true)) := by
  have t : Turn [gr] w (w.setCell ⟨gr, i * 3 + 2, none⟩ (.bool true)) := (Turn.refl _ w).setCell (p := ⟨gr, i * 3 + 2, none⟩) (.inl (by simp)) _
  have hrs := h.rs
  rw [hn, hi] at hrs
  have s1 := (hrs.stored (i * 3 + 2) (.bool true)).1
  rw [bcells_commit hin] at s1
  have hga : ga ≠ gr := fun e => h.vr_ga (by simp [Value.ownBlock, e])
  have hbb : bb ≠ gr := fun e => h.rs_ne (by simp [Value.ownBlock, e])
  have hu : ∀ {x : Nat} {l : List UInt8}, H256 w x l → x ≠ gr := by
    intro x l hx e
    subst e
    rcases hrs.2 with ⟨e1, _⟩ | ⟨g', cap', cur, e1, _, hh, _⟩
    · cases e1
    · injection e1 with e1
      injection e1 with e1
      injection e1 with e1
      subst e1
      exact hx.ne (show Blk w x _ cur from hh) (by decide) rfl
  refine ⟨⟨h.blk.turn t (by simpa using hbb), h.h0.turn t (by simpa using hu h.h0), h.h1.turn t (by simpa using hu h.h1), h.k0, h.k1, row_turn h.ar t (fun y hy => by
    have : y = ga := by simpa [Value.ownBlock] using hy.symm
    subst this; simpa using hga), ?_, h.n0, h.n1⟩, t⟩
  show World.ownsRow _ 0 _ 3 _ B.s.recs.length (bcells (i + 1) B.s.recs)
  rw [hn]
  exact s1
end
/-- the book when the records before i are committed -/
def BS.at_ (B : BS) (i : Nat) : BS := ⟨B.h0, B.h1, puts B.area (B.s.first + B.s.comm) ((B.s.recs.drop B.s.comm).take (i - B.s.comm)), { B.s with comm := max B.s.comm i }⟩
theorem BS.at_area (B : BS) (i : Nat) : (B.at_ i).area.length = B.area.length := puts_length _ _ _
theorem BS.at_low {B : BS} {i : Nat} (h : i ≤ B.s.comm) : B.at_ i = B := by
  unfold BS.at_
  rw [Nat.sub_eq_zero_of_le h, Nat.max_eq_left h]
  rfl
theorem BS.at_next {B : BS} {i : Nat} {p : Nat} {d : ByteArray} (h : B.s.comm ≤ i) (hx : B.s.recs[i]? = some (p, d)) : B.at_ (i + 1) = ⟨B.h0, B.h1, Go.Proofs.YtfdnpchbbngpjaaGreat.wr (B.at_ i).area p (frameL (B.s.first + i) d.data.toList), { B.s with comm := i + 1 }⟩ := by
  unfold BS.at_
  have hg : (B.s.recs.drop B.s.comm)[i - B.s.comm]? = some (p, d) := by rw [List.getElem?_drop, show B.s.comm + (i - B.s.comm) = i by omega]; exact hx
  have hlk : i - B.s.comm < (B.s.recs.drop B.s.comm).length := (List.getElem?_eq_some_iff.1 hg).1
  rw [show i + 1 - B.s.comm = (i - B.s.comm) + 1 by omega, List.take_add_one, hg, Nat.max_eq_right (by omega)]
  simp only [Option.toList]
  rw [puts_snoc', List.length_take, Nat.min_eq_left (by omega), show B.s.first + B.s.comm + (i - B.s.comm) = B.s.first + i by omega]
set_option maxRecDepth 100000 in
theorem bcommit_none {w : World} {bb g0 g1 ga c0 c1 ca : Nat} {vr : Value} {B : BS} (h : Bk w bb g0 g1 ga c0 c1 ca vr B) (hc : B.s.comm = B.s.recs.length) (hlen : B.s.recs.length ≤ 1048576) (hf : B.s.first ≤ 1048576) :
    Calls Tryz.prog 34 #[.pointer (some ⟨bb, 0, none⟩)] w fun e w' => e = .returned (.tuple #[]) ∧ ∃ n, w' = w.drewN n := by
  have hd : B.s.durable = B.s.last := by unfold JS.durable JS.last; rw [hc]
  have HD := Lib.hid (fun n => bdurable_any (h.below (below_drewN (Below.refl _ w) n)) (by omega) hlen (by omega))
  have HL := Lib.hid (fun n => blast_any (h.below (below_drewN (Below.refl _ w) n)) (by omega) (by omega))
  obtain ⟨x, hx⟩ : ∃ x, B.s.last = x := ⟨_, rfl⟩
  rw [hx] at HL hd
  rw [hd] at HD
  have e1 : (x == x) = true := by simp
  clear h hd hx
  go_enter Tryz.func34, Tryz.ntmps34
  go_wp2_with (first
    | (go_at_call 42; refine (HD.out 0).mono ?_; rintro e w1 ⟨rfl, n1, rfl⟩)
    | (go_at_call 45; refine (HL.out n1).mono ?_; rintro e w2 ⟨rfl, n2, rfl⟩))
  refine bodyPost_ret (results_none rfl _ _ _) rfl ?_
  exact ⟨rfl, _, rfl⟩
theorem lframe_slice {w : World} {B e n : Nat} {v : Value} {xs : List Value} (h : w.ownsRow B e 1 v n xs) (hn : 0 < n) : ∃ g c, v = .slice (some ⟨g, 0, none⟩) n c := by
  rcases h.2 with ⟨_, h2⟩ | ⟨g, cap, cur, h1, _⟩
  · omega
  · exact ⟨g, cap, h1⟩
set_option maxRecDepth 100000 in
set_option maxHeartbeats 8000000 in
theorem bcommit_go {w : World} {bb : Nat} {B : BS} {G : List Nat} (h : BkF w bb B G) (hc : B.s.comm < B.s.recs.length) (hlen : B.s.recs.length ≤ 1048576) (hf : B.s.first ≤ 1048576) (hh : B.s.h ≤ 1048576) (hbg : B.s.beg ≤ 1125899906842624) (hnx : B.s.next ≤ 1125899906842624)
    (hch : ∀ r, r ∈ B.s.recs → r.1 + 16 + r.2.size ≤ 1125899906842624 ∧ r.2.size ≤ 65536) (hA0 : 0 < B.area.length) (hA : B.area.length ≤ 1048576) :
    Calls Tryz.prog 34 #[.pointer (some ⟨bb, 0, none⟩)] w fun e w' => e = .returned (.tuple #[]) ∧ BStep G w w' bb B.commit := by
  obtain ⟨g0, g1, ga, c0, c1, ca, vr, h, rfl⟩ := h
  obtain ⟨n, hn⟩ : ∃ n, B.s.recs.length = n := ⟨_, rfl⟩
  obtain ⟨ao, cap, hvr⟩ := brow_shape h.rs
  rw [hn] at hvr hc hlen
  subst hvr
  have hrw := h.rs
  rw [hn] at hrw
  obtain ⟨gr, cr, hao⟩ : ∃ gr cr, Value.slice ao n cap = .slice (some ⟨gr, 0, none⟩) n cr := by
    rcases hrw.2 with ⟨_, h2⟩ | ⟨g, cap', cur, h1, _⟩
    · omega
    · exact ⟨g, cap', h1⟩
  rw [hao] at h hrw ⊢
  clear hao hrw
  have hd1 : B.s.durable ≠ B.s.last := by unfold JS.durable JS.last; rw [hn]; omega
  have HD := Lib.hid (fun n => bdurable_any (h.below (below_drewN (Below.refl _ w) n)) (by omega) (by omega) (by omega))
  have HL := Lib.hid (fun n => blast_any (h.below (below_drewN (Below.refl _ w) n)) (by omega) (by omega))
  obtain ⟨x, hx⟩ : ∃ x, B.s.last = x := ⟨_, rfl⟩
  obtain ⟨y, hy⟩ : ∃ y, B.s.durable = y := ⟨_, rfl⟩
  rw [hx] at HL hd1
  rw [hy] at HD hd1
  have e1 : (y == x) = false := by rw [beq_eq_false_iff_ne]; exact hd1
  clear hd1 hx hy
  go_enter Tryz.func34, Tryz.ntmps34
  go_wp2_with (first
    | (go_at_call 42; refine (HD.out 0).mono ?_; rintro e w1 ⟨rfl, n1, rfl⟩)
    | (go_at_call 45; refine (HL.out n1).mono ?_; rintro e w2 ⟨rfl, n2, rfl⟩))
  clear HD HL e1
  go_loopw [2] (fun i wr_ => ∃ k : Nat, k ≤ n ∧ i = .int .i64 (k : Int) ∧ Bk wr_ bb g0 g1 ga c0 c1 ca (.slice (some ⟨gr, 0, none⟩) n cr) (B.at_ k) ∧ Turn [ga, gr] w wr_) (fun i _ => n - (intOf i).toNat)
  case atStart => exact ⟨0, Nat.zero_le _, rfl, by rw [BS.at_low (Nat.zero_le _)]; exact h.below (below_drewN (Below.refl _ w) _), (Turn.refl _ w).drewN _⟩
  case round =>
    obtain ⟨k, hk, rfl, hB, hT⟩ := hrel
    have c6 : wr.cell? ⟨bb, 6, none⟩ = some (.slice (some ⟨gr, 0, none⟩) n cr) := hB.blk.cell 6
    by_cases hkn : k < n
    · obtain ⟨r, hr⟩ : ∃ r, B.s.recs[k]? = some r := ⟨_, List.getElem?_eq_getElem (by omega)⟩
      obtain ⟨p, d⟩ := r
      have hrow := hB.rs
      rw [show (B.at_ k).s.recs = B.s.recs from rfl, hn] at hrow
      obtain ⟨g', hg', d0, d1, d2⟩ := rec_cells hrow hr hkn
      obtain rfl : gr = g' := by injection hg' with e; injection e
      obtain ⟨hrb, hds⟩ := hch _ (List.mem_of_getElem? hr)
      simp only at d0 d1 hrb hds
      by_cases hkc : k < B.s.comm
      · rw [show (B.at_ k).s.comm = max B.s.comm k from rfl, decide_eq_true (by omega)] at d2
        have hB2 : Bk wr bb g0 g1 ga c0 c1 ca (.slice (some ⟨gr, 0, none⟩) n cr) (B.at_ (k + 1)) := by
          rw [BS.at_low (by omega)] at hB ⊢
          exact hB
        have HB := Lib.hid (And.intro hB2 hT)
        clear hB hB2 hT hrow hr
        go_wp2_with fail
        go_roundw
        case rel => exact ⟨k + 1, by omega, by go_num, HB.out⟩
        case measure => simp [intOf]; omega
      · rw [show (B.at_ k).s.comm = max B.s.comm k from rfl, decide_eq_false (by omega)] at d2
        have c4 : wr.cell? ⟨bb, 4, none⟩ = some (.int .i64 (B.s.first : Int)) := hB.blk.cell 4
        go_wp2_with fail
        have hwr : IntKind.i64.wrap ((B.s.first : Int) + (k : Int)) = (B.s.first : Int) + (k : Int) := by rw [IntKind.wrap_i64]; omega
        have c4 : wr.drew.cell? ⟨bb, 4, none⟩ = some (.int .i64 (B.s.first : Int)) := c4
        have d0 : wr.drew.cell? ⟨gr, k * 3, none⟩ = some (.string d) := d0
        have lb : bb < wr.heap.size := hB.blk.lt
        have lg : gr < wr.heap.size := (hrow.lt gr rfl).2
        have lga : ga < wr.heap.size := hB.lt ga (by simp [bfoot])
        have hat : B.at_ k = ⟨B.h0, B.h1, (B.at_ k).area, { B.s with comm := k }⟩ := by unfold BS.at_; rw [Nat.max_eq_right (by omega)]
        have hal : (B.at_ k).area.length = B.area.length := B.at_area k
        have hnext := BS.at_next (show B.s.comm ≤ k by omega) hr
        obtain ⟨Ak, hAk⟩ : ∃ Ak, (B.at_ k).area = Ak := ⟨_, rfl⟩
        rw [hAk] at hat hal hnext
        rw [hat] at hB
        obtain ⟨FL, hFL⟩ : ∃ FL, frameL (B.s.first + k) d.data.toList = FL := ⟨_, rfl⟩
        have hFl : FL.length = 16 + d.size := by rw [← hFL]; exact frame_size _ _
        rw [hFL] at hnext
        have HR := Lib.hid hr
        have HF := Lib.hid (lframe_any (B.s.first + k) d (by omega) (by omega))
        rw [hFL] at HF
        have HB := Lib.hid (And.intro hB (And.intro hT hnext))
        clear hB hT hrow hat hnext hFL hAk hr d1 d2 c6
        go_region_held3 (fun w' => w'.cell? ⟨bb, 4, none⟩ = some (Value.int .i64 (B.s.first : Int)) ∧ w'.cell? ⟨gr, k * 3, none⟩ = some (Value.string d))
          (with_reducible exact ⟨c4, d0⟩)
          (first
            | (go_at_call 69; refine (HF.out _).mono ?_; rintro e w3 ⟨v, rfl, hfr, hb3⟩; obtain ⟨gf, cf, rfl⟩ := lframe_slice hfr (by omega); have c4 := (hb3.cell (p := ⟨bb, 4, none⟩) lb).trans c4; have d0 := (hb3.cell (p := ⟨gr, k * 3, none⟩) lg).trans d0))
        have hb3' : Below wr.heap.size wr w3 := ((Below.refl _ wr).drew).trans hb3
        have hfr : w3.ownsRow wr.heap.size 5 1 (.slice (some ⟨gf, 0, none⟩) (16 + d.size) cf) (16 + d.size) (Lib.byteCells FL) := hfr
        have hgf : wr.heap.size ≤ gf := (hfr.lt gf rfl).1
        obtain ⟨N0, hN0⟩ : ∃ N0, wr.heap.size = N0 := ⟨_, rfl⟩
        rw [hN0] at hfr hgf lb lg lga
        have hB3 := HB.out.1.below hb3'
        have hT3 := HB.out.2.1.below hb3' HB.out.2.1.size
        clear c4 d0 hb3
        go_wp2_with fail
        go_loopw [5] (fun i wr_ => ∃ q : Nat, q ≤ 16 + d.size ∧ i = .int .i64 (q : Int) ∧ Bk wr_ bb g0 g1 ga c0 c1 ca (.slice (some ⟨gr, 0, none⟩) n cr) ⟨B.h0, B.h1, Go.Proofs.YtfdnpchbbngpjaaGreat.wr Ak p (FL.take q), { B.s with comm := k }⟩ ∧ wr_.ownsRow N0 5 1 (.slice (some ⟨gf, 0, none⟩) (16 + d.size) cf) (16 + d.size) (Lib.byteCells FL) ∧ Turn [ga, gr] w wr_) (fun i _ => 16 + d.size - (intOf i).toNat)
        case atStart => exact ⟨0, Nat.zero_le _, rfl, hB3, hfr, hT3⟩
        case round =>
          clear hB3 hfr hT3 HF
          obtain ⟨q, hq, rfl, hBq, hfr, hTq⟩ := hrel
          have hrow := hBq.rs
          simp only at hrow
          rw [hn] at hrow
          obtain ⟨g', hg', b0, b1, b2⟩ := rec_cells hrow HR.out (by omega)
          obtain rfl : gr = g' := by injection hg' with e; injection e
          have hwl : (Go.Proofs.YtfdnpchbbngpjaaGreat.wr Ak p (FL.take q)).length = B.area.length := by rw [wr_length]; exact hal
          by_cases hqm : q < 16 + d.size
          · obtain ⟨x, hx⟩ : ∃ x, FL.getD q 0 = x := ⟨_, rfl⟩
            have l0 : wr.cell? ⟨gf, q, none⟩ = some (.int .u8 (x.toNat : Int)) := by
              rw [hfr.cellAt q (by omega), bcell_atJ FL q (by omega), ← hx, List.getD_eq_getElem?_getD, List.getElem?_eq_getElem (by omega)]
              rfl
            obtain ⟨al, hale⟩ : ∃ al, B.area.length = al := ⟨_, rfl⟩
            rw [hale] at hwl hA0 hA
            have hst := wr_step Ak p FL (k := q) (by omega)
            rw [hal, hale, hx] at hst
            obtain ⟨ix, hix⟩ : ∃ ix, (p + q) % al = ix := ⟨_, rfl⟩
            have hixl : ix < al := by rw [← hix]; exact Nat.mod_lt _ hA0
            have em : ((p : Int) + (q : Int)) % (al : Int) = (ix : Int) := by rw [← hix]; rfl
            have em2 : ((p : Int) + (q : Int)).tmod (al : Int) = (ix : Int) := by rw [Int.tmod_eq_emod_of_nonneg (by omega)]; exact em
            rw [hix] at hst
            have c2 : wr.cell? ⟨bb, 2, none⟩ = some (.slice (some ⟨ga, 0, none⟩) al ca) := by rw [← hwl]; exact hBq.blk.cell 2
            have har := hBq.ar
            simp only [hwl] at har
            obtain ⟨u, hu⟩ : ∃ u, wr.cell? ⟨ga, ix, none⟩ = some u := by
              rw [har.cellAt ix (by omega)]
              exact ⟨_, List.getElem?_eq_getElem (by rw [Lib.byteCells_length, hwl]; exact hixl)⟩
            have hfz := har.frozenAt ix
            obtain ⟨hB5, hT5⟩ := hBq.area_set ix x
            simp only at hB5
            rw [← hst] at hB5
            have hfr5 := row_turn hfr hT5 (fun y hy => by
              have : y = gf := by simpa [Value.ownBlock] using hy.symm
              subst this; simp; omega)
            have H5 := Lib.hid (And.intro hB5 (And.intro hfr5 (hTq.trans hT5 (fun i hi => .inl (by simp at hi; simp [hi])))))
            have hwp : IntKind.i64.wrap ((p : Int) + (q : Int)) = (p : Int) + (q : Int) := by rw [IntKind.wrap_i64]; omega
            have hale0 : (al == 0) = false := by rw [beq_eq_false_iff_ne]; omega
            have hale1 : ¬ ((al : Int) = 0) := by omega
            clear hB5 hT5 hfr5 hBq hfr hTq hst hix hx har hrow hal hale hwl
            go_wp2_with fail
            go_region
            go_wp2_with fail
            go_roundw
            case rel => exact ⟨q + 1, by omega, by go_num, H5.out.1.below (below_drewN (Below.refl _ _) 1), row_turn H5.out.2.1 ((Turn.refl [] _).drew) (fun _ _ => by simp), H5.out.2.2.drew⟩
            case measure => simp [intOf]; omega
          · obtain rfl : q = 16 + d.size := by omega
            rw [List.take_of_length_le (by omega)] at hBq
            obtain ⟨hB6, hT6⟩ := hBq.commit_set (i := k) rfl (by show k < B.s.recs.length; omega) hn
            have fz := hrow.frozenAt (k * 3 + 2)
            have hB7 : Bk (wr.setCell ⟨gr, k * 3 + 2, none⟩ (.bool true)) bb g0 g1 ga c0 c1 ca (.slice (some ⟨gr, 0, none⟩) n cr) (B.at_ (k + 1)) := by
              rw [HB.out.2.2]
              exact hB6
            have H7 := Lib.hid (And.intro hB7 (hTq.trans hT6 (fun i hi => .inl (by simp at hi; simp [hi]))))
            clear hB6 hT6 hB7 hBq hTq hfr hrow
            go_wp2_with fail
            go_roundw
            case rel => exact ⟨k + 1, by omega, by go_num, H7.out⟩
            case measure => simp [intOf]; omega
    · obtain rfl : k = n := by omega
      have hen : (B.at_ k).s.en = B.s.next := by
        show rend B.s.beg (B.s.recs.take (max B.s.comm k)) = rend B.s.beg B.s.recs
        rw [List.take_of_length_le (by omega)]
      have hhd := bheader_any ⟨_, _, _, _, _, _, _, hB, rfl⟩ hh hf hbg (by rw [hen]; exact hnx) (by show max B.s.comm k ≤ B.s.recs.length; omega) (by show B.s.recs.length ≤ _; omega) (fun r hr => (hch r hr).1)
      have hcm : BS.header (B.at_ k) (B.at_ k).bump.s = B.commit := by
        unfold BS.commit
        rw [if_neg (by omega)]
        unfold BS.at_ BS.bump BS.header JS.commit
        simp only
        rw [Nat.max_eq_right (by omega), hn, List.take_of_length_le (by rw [List.length_drop]; omega)]
      rw [hcm] at hhd
      have HHD := Lib.hid (And.intro hhd (And.intro hT hB))
      clear hhd hcm hen hT hB
      go_wp2_with (first
        | (go_at_call 33; refine HHD.out.1.mono ?_; rintro e w3 ⟨rfl, hst3⟩))
      go_end0
      refine ⟨rfl, ?_⟩
      obtain ⟨G3, m1, m2, m3⟩ := hst3
      have hT := HHD.out.2.1
      have hsub : ∀ i, i ∈ [ga, gr] → i ∈ bfoot bb g0 g1 ga (.slice (some ⟨gr, 0, none⟩) k cr) := by
        intro i hi
        simp at hi
        simp [bfoot, Value.ownBlock]
        rcases hi with rfl | rfl <;> simp
      refine ⟨G3, m1, (hT.mono hsub).trans m2 (fun i hi => .inl hi), fun i hi => ?_⟩
      rcases m3 i hi with e | e
      · exact .inl e
      · exact .inr (Nat.le_trans hT.size e)
end Go.Proofs.YtfdnpchbbngpjaaGreat
