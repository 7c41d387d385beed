/- Bytes are put into the ring. -/
import Derived.Test.YtfdnpchbbngpjaaGreatJrn
import Derived.Test.YtfdnpchbbngpjaaGreatJfr
import Derived.BigQuiet
namespace Go.Proofs.YtfdnpchbbngpjaaGreat
attribute [local go_sem ↓] Go.wp_at_zero Go.wp_at_succ
open Go.RowKit Go.Maps

section
variable {P : Program}
theorem run_copy_string_min (w : World) (dT sT ty elem : TypeId) (b o dLen dCap : Nat) (t : ByteArray) (q : Nat) (hmin : Nat.min t.size dLen = q)
    (hu : P.underlying dT = some (.slice elem)) (hz : ∀ w, (Go.sizeOf elem).run P w = .ok 1 w)
    (hc : ∀ j, j < q → (w.cell? ⟨b, o + j, none⟩).isSome = true) (hf : ∀ j, j < q → w.frozen? ⟨b, o + j, none⟩ = false) :
    (Builtin.copy_ #[dT, sT] ty #[.slice (some ⟨b, o, none⟩) dLen dCap, .string t]).run P w = .ok (goInt q) (w.setCells b o ((t.data.toList.take q).map fun x => Value.int .u8 (x.toNat : Int))) := by
  have hq : q ≤ t.size := by rw [← hmin]; exact Nat.min_le_left _ _
  have hl : ((t.data.toList.take q).map fun x => Value.int .u8 (x.toNat : Int)).length = q := by rw [List.length_map, List.length_take, ← Lib.size_eq]; omega
  have hst := run_storeCells_cells (P := P) b o ((t.data.toList.take q).map fun x => Value.int .u8 (x.toNat : Int)) 0 w (by rw [hl]; simpa using hc) (by rw [hl]; simpa using hf) (by
    intro v hv
    obtain ⟨x, _, rfl⟩ := List.mem_map.1 hv
    rfl)
  simp [Builtin.copy_, run_underlying hu, Builtin.lenOf, Builtin.firstCells, hz, hmin]
  simp only [List.map_take] at hst
  rw [hst]
  simp [Result.andThen]
theorem wpList_copy_bytes {w : World} {ops : Array Oper} {rest : List Oper} {o : Oper} {a : Act} {Q : Exit → Act → World → Prop} (hgd : o.guard = none) (d s : Operand) (dT sT : TypeId)
    (ho : o.op = .call { callee := .builtin .copy, args := #[d, s], argTypes := #[dT, sT] }) (elem : TypeId) (hu : P.underlying dT = some (.slice elem)) (hz : ∀ w, (Go.sizeOf elem).run P w = .ok 1 w)
    (g off dLen dCap : Nat) (hd : a.eval d = .slice (some ⟨g, off, none⟩) dLen dCap) (t : ByteArray) (hs : a.eval s = .string t) (q : Nat) (hmin : Nat.min t.size dLen = q)
    (hc : ∀ j, j < q → (w.cell? ⟨g, off + j, none⟩).isSome = true) (hf : ∀ j, j < q → w.frozen? ⟨g, off + j, none⟩ = false)
    (h : wpList P ops Q rest (a.put o.dst (goInt q)) (w.setCells g off ((t.data.toList.take q).map fun x => Value.int .u8 (x.toNat : Int)))) : wpList P ops Q (o :: rest) a w := by
  refine wpList_plain hgd fun K hK => ?_
  have hrun := run_copy_string_min (P := P) w dT sT o.type elem g off dLen dCap t q hmin hu hz hc hf
  unfold Oper.wp
  simp only [List.map_take] at h hrun
  simp [execOp, ho, resolve, invoke, builtin, hd, hs, hrun, Result.andThen]
  exact hK _ _ h
end
def strLen : Value → Nat | .string x => x.size | _ => 0
theorem int_info : (Tryz.prog.info? 3).map (fun i => (i.zero, i.size, i.bytes)) = some (some (.int .i64 0), 1, 8) := by kernel_rfl
theorem str_none {x : ByteArray} (h : x.size = 0) : (x.toList != []) = false := by
  have : x.data.toList = [] := List.eq_nil_of_length_eq_zero (by rw [Array.length_toList]; exact h)
  rw [ByteArray.toList_eq, this]; rfl
theorem str_some {x : ByteArray} (h : 0 < x.size) : (x.toList != []) = true := by
  rw [bne_iff_ne, ByteArray.toList_eq]
  intro e
  have := congrArg List.length e
  rw [Array.length_toList] at this
  have : x.size = 0 := this
  omega
theorem ext_segP (s : ByteArray) (a b : Nat) : (s.extract a b).data.toList = (s.data.toList.drop a).take (b - a) := by
  rw [ByteArray.data_extract, Array.toList_extract]
theorem set_same {w : World} {g i : Nat} {t : TypeId} {cs : Array Value} {v : Value} (h : Blk w g t cs) (hv : cs[i]? = some v) : w.setCell ⟨g, i, none⟩ v = w := by
  have hh : (w.setCell ⟨g, i, none⟩ v).heap = w.heap := by
    apply Array.ext_getElem?
    intro k
    by_cases e : k = g
    · subst e
      have h2 := h.set_ i v
      unfold Blk at h h2
      have : cs.setIfInBounds i v = cs := by
        apply Array.ext_getElem?
        intro j
        by_cases e : i = j
        · subst e
          rw [Array.getElem?_setIfInBounds_self, hv]
          simp [(Array.getElem?_eq_some_iff.1 hv).1]
        · rw [Array.getElem?_setIfInBounds_ne e]
      rw [h2, h, this]
    · exact Below.heap_setCell w ⟨g, i, none⟩ v k e
  cases w
  simp [World.setCell] at hh ⊢
  exact hh
theorem conv_bytes (w : World) (s : ByteArray) (hs : s.size = 256) : ∃ cap W2, 256 ≤ cap ∧ (convert 9 31 (.string s)).run Tryz.prog w = .ok (.slice (some ⟨w.heap.size, 0, none⟩) 256 cap) W2 ∧ B256 W2 w.heap.size s.data.toList ∧ Below w.heap.size w W2 := by
  have h := run_bytes_of_string (P := Tryz.prog) w 9 31 5 s Tryz.underlying9 Tryz.underlying31 Tryz.underlying5
  rw [hs] at h
  refine ⟨_, _, grownCap_ge w 256 0 5, h, B256.made w.drew s hs _, ?_⟩
  exact ((Below.refl _ w).drew).alloc (Nat.le_refl _) _
set_option maxRecDepth 100000 in
set_option maxHeartbeats 4000000 in
theorem put_any {w : World} {B rb mb vb m : Nat} {ov : Value} {os : List (Nat × Nat)} {A0 A1 : List UInt8} (h : Rng w B rb mb vb ov os A0 A1 m) {st : VS} {F : List Nat} (hV : VolF w vb st F) (hF : ∀ i, i ∈ F → i < B) (hd : st.down = false) (hl : st.dur.length = m + 2)
    (hm : 1 ≤ m) (hm2 : m ≤ 64) (hA : st.area = A0) (hB : B ≤ w.heap.size) (p : Nat) (hp : p ≤ 1125899906842624) (s : ByteArray) (hs : s.size ≤ 1048576) :
    Calls Tryz.prog 48 #[.pointer (some ⟨rb, 0, none⟩), .int .i64 (p : Int), .string s] w fun e w' => e = .returned (.tuple #[]) ∧ ∃ ov' os', Rng w' B rb mb vb ov' os' A0 (wr A1 p s.data.toList) m ∧ Turn (rfoot rb mb ov os) w w' ∧ ∀ i, i ∈ rfoot rb mb ov' os' → i ∈ rfoot rb mb ov os ∨ w.heap.size ≤ i := by
  obtain ⟨S, hS⟩ : ∃ S, s.data.toList = S := ⟨_, rfl⟩
  have hSl : S.length = s.size := by rw [← hS, Array.length_toList]; rfl
  rw [hS]
  have c0 := h.blk.cell 0
  simp at c0
  go_enter Tryz.func48, Tryz.ntmps48
  go_wp2_with (first | (go_at_call 66; refine (area_any hV hl).mono ?_; rintro e w' ⟨rfl, rfl⟩))
  clear c0
  go_loopw [1, 2] (fun i j wr_ => ∃ (d : Nat) (x : ByteArray) (ov' : Value) (os' : List (Nat × Nat)), d ≤ s.size ∧ i = .int .i64 ((p + d : Nat) : Int) ∧ j = .string x ∧ x.data.toList = S.drop d ∧ Rng wr_ B rb mb vb ov' os' A0 (wr A1 p (S.take d)) m ∧ Turn (rfoot rb mb ov os) w wr_ ∧ ∀ i, i ∈ rfoot rb mb ov' os' → i ∈ rfoot rb mb ov os ∨ w.heap.size ≤ i) (fun _ j _ => strLen j)
  case atStart => exact ⟨0, s, ov, os, Nat.zero_le _, rfl, rfl, by rw [hS]; rfl, h, Turn.refl _ _, fun _ hi => .inl hi⟩
  case round =>
    obtain ⟨d, x, ov', os', hds, rfl, rfl, hx, hR, hTu, hsub⟩ := hrel
    have hbel : Below B w wr := hTu.toBelow (fun i hi => (h.lt i hi).1) hB
    have HTU := Lib.hid (And.intro hTu hsub)
    clear hTu hsub
    have hxl : x.size = s.size - d := by
      have := congrArg List.length hx
      rw [List.length_drop, hSl, Array.length_toList] at this
      exact this
    have c0 := hR.blk.cell 0
    have c1 := hR.blk.cell 1
    have c2 := hR.blk.cell 2
    have c3 := hR.blk.cell 3
    simp at c0 c1 c2 c3
    by_cases hx0 : x.size = 0
    · have e1 := str_none hx0
      have e1' : x.toList.isEmpty = true := by have := str_none hx0; simpa using this
      have hfin : Rng wr B rb mb vb ov' os' A0 (Go.Proofs.YtfdnpchbbngpjaaGreat.wr A1 p S) m := by
        have : S.take d = S := List.take_of_length_le (by omega)
        rw [this] at hR
        exact hR
      have HF := Lib.hid hfin
      clear hR
      go_wp2
      go_end0
      exact ⟨rfl, _, _, HF.out, HTU.out⟩
    · have e1 := str_some (x := x) (by omega)
      have e1' : x.toList.isEmpty = false := by have := str_some (x := x) (by omega); simpa using this
      obtain ⟨o, ho⟩ : ∃ o, (p + d) % (256 * m) = o := ⟨_, rfl⟩
      have hom : o < 256 * m := by rw [← ho]; exact Nat.mod_lt _ (by omega)
      have em : ((p : Int) + (d : Int)) % (256 * (m : Int)) = (o : Int) := by rw [← ho]; rfl
      obtain ⟨q, hq, hq1⟩ : ∃ q, Nat.min x.size (256 - o % 256) = q ∧ 1 ≤ q := ⟨_, rfl, Nat.le_min.2 ⟨by omega, by omega⟩⟩
      have hAl : (Go.Proofs.YtfdnpchbbngpjaaGreat.wr A1 p (S.take d)).length = 256 * m := hR.alen
      have hso : 2 + o / 256 ≤ 65537 := by omega
      have hst : ∀ w2 ov2 os2, Rng w2 B rb mb vb ov2 os2 A0 (Go.Proofs.YtfdnpchbbngpjaaGreat.wr A1 p (S.take d)) m → ∀ g, (2 + o / 256, g) ∈ os2 →
          Rng (w2.setCells g (o % 256) ((x.data.toList.map fun y => Value.int .u8 (y.toNat : Int)).take q)) B rb mb vb ov2 os2 A0 (Go.Proofs.YtfdnpchbbngpjaaGreat.wr A1 p (S.take (d + q))) m ∧ Turn (rfoot rb mb ov2 os2) w2 (w2.setCells g (o % 256) ((x.data.toList.map fun y => Value.int .u8 (y.toNat : Int)).take q)) := by
        intro w2 ov2 os2 hR2 g hg
        have hql : (x.data.toList.take q).length = q := by rw [List.length_take, Array.length_toList]; have : q ≤ x.size := by rw [← hq]; exact Nat.min_le_left _ _
                                                           show min q x.size = q; omega
        have hq2 : q ≤ 256 - o % 256 := by rw [← hq]; exact Nat.min_le_right _ _
        have := hR2.copied (by omega) (p := p + d) (g := g) (d := x.data.toList.take q) (by rw [ho]; exact hg) (by rw [ho, hql]; omega)
        rw [ho] at this
        have e : Go.Proofs.YtfdnpchbbngpjaaGreat.wr (Go.Proofs.YtfdnpchbbngpjaaGreat.wr A1 p (S.take d)) (p + d) (x.data.toList.take q) = Go.Proofs.YtfdnpchbbngpjaaGreat.wr A1 p (S.take (d + q)) := by
          rw [List.take_add, wr_append, List.length_take, hx, show min d S.length = d by omega]
        rw [e] at this
        simp only [List.map_take] at this
        exact this
      have HST := Lib.hid hst
      have hqs : q ≤ x.size ∧ q ≤ 256 - o % 256 := ⟨by rw [← hq]; exact Nat.min_le_left _ _, by rw [← hq]; exact Nat.min_le_right _ _⟩
      have hx2 : (x.extract q (s.size - d)).data.toList = S.drop (d + q) := by
        rw [ext_segP, hx, List.drop_drop, List.take_of_length_le (by rw [List.length_drop]; omega)]
      have HX2 := Lib.hid hx2
      have HQ := Lib.hid hq
      clear hst hx2 hq
      by_cases hk : 2 + o / 256 ∈ os'.map (·.1)
      · obtain ⟨g, hg⟩ : ∃ g, (2 + o / 256, g) ∈ os' := by
          obtain ⟨y, hy, e⟩ := List.mem_map.1 hk
          exact ⟨y.2, by rw [← e]; exact hy⟩
        obtain ⟨cap, hcap, hrun⟩ := hR.get hg hso
        rw [show ((2 + o / 256 : Nat) : Int) = 2 + (o : Int) / 256 by omega] at hrun
        obtain ⟨_, hb, _, _⟩ := hR.byt _ hg
        simp only at hb
        have hcel : ∀ j, j < q → (wr.cell? ⟨g, o % 256 + j, none⟩).isSome = true := fun j hj => by rw [hb.cell (by omega)]; rfl
        have hfrz : ∀ j, j < q → wr.frozen? ⟨g, o % 256 + j, none⟩ = false := fun j hj => hb.frozen (by omega)
        have HC := Lib.hid (And.intro hcel hfrz)
        obtain ⟨hRn, hTn⟩ := HST.out _ _ _ hR g hg
        have HN := Lib.hid (And.intro hRn hTn)
        have heq := run_eql_slice_nil (P := Tryz.prog) wr 31 5 (some ⟨g, 0, none⟩) 256 cap Tryz.underlying31
        simp only [Option.isNone_some] at heq
        clear hcel hfrz hRn hTn hb hR hk hx
        have hcp := run_copy_string_min (P := Tryz.prog) wr 31 9 3 5 g (o % 256) (256 - o % 256) (cap - o % 256) x q HQ.out Tryz.underlying31 (by intro w; go_simp) HC.out.1 HC.out.2
        go_wp2_with fail
        go_quiet (fail)
        go_wp2_with fail
        go_roundw
        case rel =>
          exact ⟨d + q, x.extract q (s.size - d), ov', os', by omega, by go_num, rfl, HX2.out, HN.out.1.below (below_drewN (Below.refl _ _)), (HTU.out.1.trans HN.out.2 HTU.out.2).drewN _, HTU.out.2⟩
        case measure =>
          show (x.extract q (s.size - d)).size < x.size
          rw [ByteArray.size_extract]
          omega
      · have hno : (2 + o / 256) ∉ os'.map (·.1) := hk
        obtain ⟨zn, zc, hrun⟩ := hR.get_no hno hso
        rw [show ((2 + o / 256 : Nat) : Int) = 2 + (o : Int) / 256 by omega] at hrun
        have heq := run_eql_slice_nil (P := Tryz.prog) wr 31 5 none zn zc Tryz.underlying31
        simp only [Option.isNone_none] at heq
        have hV1 : VolF wr vb st F := hV.kept (fun i hi => hbel.block i (hF i hi))
        have hrd := read_in' hd (k := 2 + o / 256) (by omega)
        have hcs := hV.wf.content (2 + o / 256)
        obtain ⟨c, hc⟩ : ∃ c, st.content (2 + o / 256) = c := ⟨_, rfl⟩
        rw [hc] at hrd hcs
        have hcsec : c.data.toList = sec (Go.Proofs.YtfdnpchbbngpjaaGreat.wr A1 p (S.take d)) (2 + o / 256 - 2) := by
          rw [show 2 + o / 256 - 2 = o / 256 by omega, hR.rest (o / 256) (by omega) hno, ← hA, hV.wf.sec (by rw [hl]; omega)]
          show _ = (st.content (2 + o / 256)).data.toList
          rw [hc]
        have HRD := Lib.hid hrd
        have HCS := Lib.hid (And.intro hcs hcsec)
        have hR0 := hR
        have HR0 := Lib.hid hR0
        have HNO := Lib.hid hno
        obtain ⟨ao, cap0, rfl⟩ := row_shape hR.ord
        obtain ⟨i0, hi0, hz0, hz1, hz2⟩ := info_parts int_info
        have hflen := hR.few
        have f3 := hR.blk.frozen 3
        clear hrd hcs hcsec hR hno hk hx hc hR0 hV1
        have HV1 := Lib.hid (hV.kept (fun i hi => hbel.block i (hF i hi)))
        have HB1 : ∀ w1 : World, Below wr.heap.size wr w1 → B ≤ w1.heap.size := fun w1 h1 => Nat.le_trans hB (Nat.le_trans hbel.size h1.size)
        have HB3 : ∀ {W2 w1 : World} (w3 : World), W2.heap.size ≤ w3.heap.size → Below w1.heap.size w1 W2 → Below wr.heap.size wr w1 → B ≤ (w3.alloc (.cells #[.int .i64 ((2 + o / 256 : Nat) : Int)] 3)).heap.size := fun w3 h1 h2 h3 => by
          have := HB1 _ h3
          have := h2.size
          simp
          omega
        have hbk5 : ∀ {w3 w5 : World} {cs : Array Value}, Blk w3 rb 93 cs → (w3.alloc (.cells #[.int .i64 ((2 + o / 256 : Nat) : Int)] 3)).grownBy w5 (Value.slice ao os'.length cap0).ownBlock → (Value.slice ao os'.length cap0).ownBlock ≠ some rb → w5.frozen? ⟨rb, 1, none⟩ = false ∧ w5.cell? ⟨rb, 1, none⟩ = cs[1]? :=
          fun h1 h2 h3 => ⟨((h1.alloc _).grown h2 (fun e => h3 e.symm)).frozen 1, ((h1.alloc _).grown h2 (fun e => h3 e.symm)).cell 1⟩
        go_wp2_with (first
          | (go_at_call 37; refine (read_any ((2 + o / 256 : Nat) : Int) HV1.out).mono ?_; rw [HRD.out]; rintro e w1 ⟨rfl, hb1⟩; have hR1 := HR0.out.below hb1; have k3 := hR1.blk.cell 3; have f3 := hR1.blk.frozen 3; have k2 := hR1.blk.cell 2; simp at k2 k3; have hsame := set_same hR1.blk (i := 3) (v := .int .i64 0) rfl; obtain ⟨cap1, W2, hcap1, hconv, hb256, hb2⟩ := conv_bytes w1 c HCS.out.1; obtain ⟨D, hD, hlk⟩ := hR1.map; have hD2 := map_turn hD (Turn.ofBelow (F := []) hb2 (Nat.le_refl _)) (by simp); rw [HCS.out.2] at hb256)
          | (at_mapUpdate; refine wpList_mapUpdate_in _ rfl _ _ _ 90 rfl 3 31 ckey rmap_und RB mb os'.length D rfl hD2 (by unfold maxLen; omega) (.int .i64 ((2 + o / 256 : Nat) : Int)) _ (key (2 + o / 256)) (by rfl) rfl (keyOf_int_mk Tryz.underlying3 (WalkArith.wf_i64 (by omega))) _ [] (RB_yes hcap1) ?_; intro w3 hown3 hmt; have hg3 := hmt.grown; have hbk3 : Blk w3 rb _ _ := (hR1.blk.below hb2 hR1.blk.lt).grown hg3 (fun e => hR1.rb_mb (by simpa using e.symm)); have k1 := hbk3.cell 1; have f1 := hbk3.frozen 1; simp at k1; have hT3 : Turn [mb] w1 w3 := (Turn.ofBelow hb2 (Nat.le_refl _)).grown hg3 (fun x hx => .inl (by simpa using hx.symm)); have ho3 := row_turn hR1.ord hT3 (fun x hx hi => hR1.ov_mb (by simp at hi; subst hi; exact hx)))
          | (at_builtin; refine wpList_append_lies _ rfl _ _ 91 rfl B 3 i0 _ 1 8 Tryz.underlying91 hi0 hz0 hz1 hz2 rfl (by decide) (.slice ao os'.length cap0) os'.length _ rfl (row_turn ho3 ((Turn.refl [] w3).alloc _) (fun _ _ => by simp)) ⟨w3.heap.size, 0, none⟩ 1 1 [.int .i64 ((2 + o / 256 : Nat) : Int)] (by rfl) (by rfl) (World.news_of_block (cs := #[.int .i64 ((2 + o / 256 : Nat) : Int)]) (t := 3) (fr := (0, 0)) (heap_alloc_new w3 _)) (by simp [Value.oneCell']) (by omega) (by unfold maxLen; omega) (by omega) (HB3 w3 hg3.size hb2 hb1) (w3.heap.size + 1) (by simp) ?_; intro g2 cap2 w5 ho5 hg5 hat5 hlt5; obtain ⟨hR6, hT6, hf6⟩ := hR1.added HNO.out (by omega) (by omega) hb2 hb256 (Nat.le_refl _) (HB1 w1 hb1) hD.isMap hlk hown3 hg3 ((Below.refl _ w3).alloc (Nat.le_refl _) _) ho5 hg5 (hat5.imp id (fun e => by have := hb2.size; have := hg3.size; omega)); obtain ⟨f15, k15⟩ := hbk5 hbk3 hg5 hR1.ov_ne; simp at k15; have hmem : (2 + o / 256, w1.heap.size) ∈ os' ++ [(2 + o / 256, w1.heap.size)] := (by simp); obtain ⟨cap6, hcap6, hrun6⟩ := hR6.get hmem hso; obtain ⟨_, hb6, _, _⟩ := hR6.byt _ hmem; have k26 := hR6.blk.cell 2; simp at k26; rw [show ((2 + o / 256 : Nat) : Int) = 2 + (o : Int) / 256 by omega] at hrun6; have hcp6 := run_copy_string_min (P := Tryz.prog) _ 31 9 3 5 w1.heap.size (o % 256) (256 - o % 256) (cap6 - o % 256) x q HQ.out Tryz.underlying31 (by intro w; go_simp) (fun j hj => by rw [hb6.cell (by omega)]; rfl) (fun j hj => hb6.frozen (by omega)); obtain ⟨hRn, hTn⟩ := HST.out _ _ _ hR6 _ hmem; have HN := Lib.hid (And.intro hRn (And.intro hTn (And.intro hT6 hf6))); clear hRn hTn hT6 hR6 hb6 hf6))
        go_quiet (fail)
        go_wp2_with fail
        go_roundw
        case rel =>
          have t1 : Turn (rfoot rb mb ov os) w w1 := HTU.out.1.below hb1 HTU.out.1.size
          have t2 := t1.trans HN.out.2.2.1 HTU.out.2
          have sub : ∀ i, i ∈ rfoot rb mb (.slice (some ⟨g2, 0, none⟩) (os'.length + 1) cap2) (os' ++ [(2 + o / 256, w1.heap.size)]) → i ∈ rfoot rb mb ov os ∨ w.heap.size ≤ i := fun i hi => by
            rcases HN.out.2.2.2 i hi with e | e
            · exact HTU.out.2 i e
            · exact .inr (Nat.le_trans t1.size e)
          exact ⟨d + q, x.extract q (s.size - d), _, _, by omega, by go_num, rfl, HX2.out, HN.out.1.below (below_drewN (Below.refl _ _)), (t2.trans HN.out.2.1 sub).drewN _, sub⟩
        case measure =>
          show (x.extract q (s.size - d)).size < x.size
          rw [ByteArray.size_extract]
          omega
end Go.Proofs.YtfdnpchbbngpjaaGreat
