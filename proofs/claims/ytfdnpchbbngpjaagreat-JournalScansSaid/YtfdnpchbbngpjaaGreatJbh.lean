/- The book's header is written. -/
import Derived.Test.YtfdnpchbbngpjaaGreatJba
import Derived.Test.YtfdnpchbbngpjaaGreatJaz
namespace Go.Proofs.YtfdnpchbbngpjaaGreat
attribute [local go_sem ↓] Go.wp_at_zero Go.wp_at_succ
open Go.RowKit Go.Maps

theorem lit_row (w : World) {B : Nat} (hB : B ≤ w.heap.size) (e : TypeId) (cs : List Value) (n : Nat) (hn : cs.length = n) (hm : n ≤ 1048576) : (w.alloc (.cells cs.toArray e)).ownsRow B e 1 (.slice (some ⟨w.heap.size, 0, none⟩) n n) n cs :=
  ⟨by omega, .inr ⟨w.heap.size, n, cs.toArray, rfl, hB, heap_alloc_new w _, Nat.le_refl _, by unfold maxLen; omega, by rw [List.size_toArray, hn, Nat.mul_one], by rw [Nat.mul_one, List.take_of_length_le (by simp; omega)]⟩⟩
theorem step_append_zeros {P : Program} {ops : Array Oper} {o : Oper} {a : Act} (w : World) {K : Act → World → Prop} {Q : Exit → Act → World → Prop} {E : Prop} (hgd : o.guard = none) (s x : Operand) (t u : TypeId)
    (ho : o.op = .call { callee := .builtin .append, args := #[s, x], argTypes := #[t, u] }) (base : Nat) (e : TypeId) (i : TypeInfo) (ht : P.underlying t = some (.slice e)) (hu : P.underlying u = some (.int .i64)) (hi : P.info? e = some i) (hz : i.zero = some (.int .u8 0)) (hs1 : i.size = 1) (hby : i.bytes = 1)
    (g cap n : Nat) (xs : List Value) (hs : a.eval s = .slice (some ⟨g, 0, none⟩) n cap) (hown : w.ownsRow base e 1 (.slice (some ⟨g, 0, none⟩) n cap) n xs) (m : Nat) (hx : a.eval x = .int .i64 (m : Int)) (hm : m ≤ 1048576) (h0 : 0 < m) (hn : n ≤ 1048576) (hbase : base ≤ w.heap.size)
    (h : ∀ g' cap' w', w'.ownsRow base e 1 (.slice (some ⟨g', 0, none⟩) (n + m) cap') (n + m) (xs ++ zCells m) → w.grownBy w' (some g) → K (a.put o.dst (.slice (some ⟨g', 0, none⟩) (n + m) cap')) w') :
    if Region.wanted o (yielded ops a.tmps) = true then Oper.wp P o a w K Q else E := by
  have hw : Region.wanted o (yielded ops a.tmps) = true := by simp [Region.wanted, hgd]
  rw [if_pos hw]
  obtain ⟨v', w', hr, h2, h3⟩ := run_append_own_zeros (P := P) w base t u o.type e i ht hu hi hz hs1 hby g cap n xs hown m hm h0 hn hbase
  obtain ⟨g', cap', rfl, _, _⟩ := h2.form (by omega)
  unfold Oper.wp execOp
  simp only [ho, resolve, invoke, builtin, Sem.run_bind, Sem.run_pure, Result.andThen_ok, List.map_toArray, List.map_cons, List.map_nil, hs, hx, hr]
  exact h g' cap' w' h2 h3
theorem H256.of_row {w : World} {B g c : Nat} {l : List UInt8} (h : w.ownsRow B 5 1 (.slice (some ⟨g, 0, none⟩) 256 c) 256 (Lib.byteCells l)) (hl : l.length = 256) : H256 w g l := by
  rcases h.2 with ⟨h1, h2⟩ | ⟨g', cap, cur, h1, _, hh, hn, _, hs, ht⟩
  · cases h1
  · injection h1 with h1
    injection h1 with h1
    injection h1 with h1
    subst h1
    refine ⟨cur, (0, 0), hh, fun j hj => ?_, hl⟩
    have e : (Lib.byteCells l)[j]? = cur[j]? := by rw [← ht, List.getElem?_take_of_lt (by omega), Array.getElem?_toList]
    rw [← e]
    unfold Lib.byteCells
    rw [List.getElem?_map, List.getD_eq_getElem?_getD, List.getElem?_eq_getElem (by omega)]
    rfl
theorem zCells_bytes (m : Nat) : zCells m = Lib.byteCells (List.replicate m 0) := by
  unfold zCells Lib.byteCells
  rw [List.map_replicate]
  rfl
theorem row_base {w : World} {B C e size n : Nat} {v : Value} {xs : List Value} (h : w.ownsRow C e size v n xs) (hB : B ≤ C) : w.ownsRow B e size v n xs := by
  obtain ⟨h1, h2⟩ := h
  refine ⟨h1, ?_⟩
  rcases h2 with h2 | ⟨g, cap, cur, e1, hg, r⟩
  · exact .inl h2
  · exact .inr ⟨g, cap, cur, e1, Nat.le_trans hB hg, r⟩
theorem heap_alloc_new' (w : World) (o : Obj) : (w.alloc o).heap[w.heap.size]? = some o := by
  show (w.heap.push o)[w.heap.size]? = _
  simp
theorem wpList_append_new {P : Program} {w : World} {ops : Array Oper} {rest : List Oper} {o : Oper} {a : Act} {Q : Exit → Act → World → Prop} (hgd : o.guard = none) (s x : Operand) (t : TypeId)
    (ho : o.op = .call { callee := .builtin .append, args := #[s, x], argTypes := #[t, t] }) (e : TypeId) (i : TypeInfo) (ht : P.underlying t = some (.slice e)) (hi : P.info? e = some i) (hz : i.zero = some (.int .u8 0)) (hs1 : i.size = 1) (hby : i.bytes = 1)
    (b : Addr) (n : Nat) (olds : List Value) (hs : a.eval s = .slice (some b) n n) (hlo : olds.length = n) (holds : ∀ j v, olds[j]? = some v → w.cell? (b.add j) = some v)
    (ad : Addr) (m c : Nat) (news : List Value) (hx : a.eval x = .slice (some ad) m c) (hl : news.length = m) (hnews : ∀ j v, news[j]? = some v → w.cell? (ad.add j) = some v) (hm : 0 < m) (hb : n + m ≤ 1048576)
    (h : ∀ g cap w', w'.ownsRow w.heap.size e 1 (.slice (some ⟨g, 0, none⟩) (n + m) cap) (n + m) (olds ++ news) → Below w.heap.size w w' → wpList P ops Q rest (a.put o.dst (.slice (some ⟨g, 0, none⟩) (n + m) cap)) w') : wpList P ops Q (o :: rest) a w := by
  refine wpList_plain hgd fun K hK => ?_
  have hr := run_append_grow (P := P) w t o.type e i (.int .u8 0) ht hi hz b n n olds (by rw [hs1]; omega) holds ad m c news (by rw [hs1]; omega) hnews (by omega) (by omega) (by rw [hby]; exact growslice_fits (by omega) (by omega))
  have hge := grownCap_ge w (n + m) n e
  have hcm : grownCap w (n + m) n e ≤ maxLen := grownCap_le_maxLen w (n + m) n e (by unfold maxLen; omega)
  unfold Oper.wp execOp
  simp only [ho, resolve, invoke, builtin, Sem.run_bind, Sem.run_pure, Result.andThen_ok, List.map_toArray, List.map_cons, List.map_nil, hs, hx, hr]
  refine hK _ _ (h _ _ _ ⟨by rw [List.length_append]; omega, .inr ⟨w.heap.size, _, _, rfl, Nat.le_refl _, heap_alloc_new w.drew _, hge, hcm, ?_, ?_⟩⟩ ?_)
  · have hz1 : (Value.int IntKind.u8 0).cells.size = 1 := rfl
    simp only [Array.size_append, List.size_toArray, size_zeroCells, hz1]
    omega
  · simp only [Array.toList_append, List.append_assoc]
    rw [← List.append_assoc, show (n + m) * 1 = (olds ++ news).length by rw [List.length_append]; omega]
    exact List.take_left
  · exact ((Below.refl _ w).drew).alloc (Nat.le_refl _) _
theorem conv_lit (W : World) (C : Array Value) (n : Nat) (hn : C.size = n) : (convert 31 31 (.slice (some ⟨W.heap.size, 0, none⟩) n n)).run Tryz.prog (W.alloc (.cells C 5)) = .ok (.slice (some ⟨W.heap.size, 0, none⟩) n n) (W.alloc (.cells C 5 (n, n + 1))) := by
  have hsh : (W.alloc (.cells C 5)).shape? W.heap.size = some (5, C.size) := by
    have : (W.alloc (.cells C 5)).heap[W.heap.size]? = some (.cells C 5) := by
      show (W.heap.push (.cells C 5))[W.heap.size]? = _
      simp
    unfold World.shape?
    rw [this]
  have hfr : (W.alloc (.cells C 5)).freeze ⟨W.heap.size, n, none⟩ 1 = W.alloc (.cells C 5 (n, n + 1)) := by
    have hm : ∀ (a : Array Obj) (x : Obj) (f : Obj → Obj), (a.push x).modify a.size f = a.push (f x) := by
      intro a x f
      apply Array.ext
      · simp
      · intro i h1 h2
        simp only [Array.getElem_modify, Array.getElem_push]
        by_cases h : a.size = i
        · subst h
          simp
        · have hi : i < a.size := by simp at h1; omega
          simp [h, hi]
    unfold World.freeze
    rw [if_neg (by decide)]
    show ({ W.alloc (.cells C 5) with heap := (W.heap.push (.cells C 5)).modify W.heap.size _ } : World) = _
    rw [hm]
    rfl
  simp [convert, run_underlying Tryz.underlying31, markStringish, hsh, hn]
  exact hfr
/-- the book with the next header's number -/
def BS.bump (B : BS) : BS := { B with s := { B.s with h := B.s.h + 1 } }
set_option maxRecDepth 100000 in
set_option maxHeartbeats 8000000 in
theorem bheader_any {w : World} {bb : Nat} {B : BS} {G : List Nat} (h : BkF w bb B G) (hh : B.s.h ≤ 1048576) (hf : B.s.first ≤ 1048576) (hbg : B.s.beg ≤ 1125899906842624) (hen : B.s.en ≤ 1125899906842624) (hc : B.s.comm ≤ B.s.recs.length) (hlen : B.s.recs.length ≤ 1048576) (hch : ∀ r, r ∈ B.s.recs → r.1 + 16 + r.2.size ≤ 1125899906842624) :
    Calls Tryz.prog 33 #[.pointer (some ⟨bb, 0, none⟩)] w fun e w' => e = .returned (.tuple #[]) ∧ BStep G w w' bb (BS.header B B.bump.s) := by
  obtain ⟨g0, g1, ga, c0, c1, ca, vr, h, rfl⟩ := h
  have k3 : w.cell? ⟨bb, 3, none⟩ = some (.int .i64 (B.s.h : Int)) := h.blk.cell 3
  have f3 := h.blk.frozen 3
  have t0 : Turn [bb] w (w.setCell ⟨bb, 3, none⟩ (.int .i64 ((B.s.h : Int) + 1))) := (Turn.refl _ w).setCell (p := ⟨bb, 3, none⟩) (.inl (by simp)) _
  have h0 : Bk (w.setCell ⟨bb, 3, none⟩ (.int .i64 ((B.s.h : Int) + 1))) bb g0 g1 ga c0 c1 ca vr B.bump := by
    have e0 : g0 ≠ bb := h.h0.ne h.blk (by decide)
    have e1 : g1 ≠ bb := h.h1.ne h.blk (by decide)
    exact ⟨h.blk.set_ 3 _, h.h0.turn t0 (by simpa using e0), h.h1.turn t0 (by simpa using e1), h.k0, h.k1, row_turn h.ar t0 (fun x hx => by
      have : x = ga := by simpa [Value.ownBlock] using hx.symm
      subst this; simpa using h.ar_ne), row_turn h.rs t0 (fun x hx => by simp; rintro rfl; exact h.rs_ne hx), h.n0, h.n1⟩
  obtain ⟨W0, hW0⟩ : ∃ W0, w.setCell ⟨bb, 3, none⟩ (.int .i64 ((B.s.h : Int) + 1)) = W0 := ⟨_, rfl⟩
  obtain ⟨i0, hi, hz0, hz1, hz2⟩ := info_parts ju8_info
  have k3a : W0.cell? ⟨bb, 3, none⟩ = some (.int .i64 ((B.s.h : Int) + 1)) := by rw [← hW0]; exact (h.blk.set_ 3 (.int .i64 ((B.s.h : Int) + 1))).cell 3
  have hlb : bb < W0.heap.size := by rw [← hW0]; exact h0.blk.lt
  go_enter Tryz.func33, Tryz.ntmps33
  have b0 : Below W0.heap.size W0 (W0.alloc (.cells #[.int .u8 74, .int .u8 82, .int .u8 78, .int .u8 49] 5 (4, 5))) := (Below.refl _ W0).alloc (Nat.le_refl _) _
  have hcv := conv_lit W0 #[.int .u8 74, .int .u8 82, .int .u8 78, .int .u8 49] 4 rfl
  have hmc : ∀ w1, Below (W0.alloc (.cells #[.int .u8 74, .int .u8 82, .int .u8 78, .int .u8 49] 5 (4, 5))).heap.size (W0.alloc (.cells #[.int .u8 74, .int .u8 82, .int .u8 78, .int .u8 49] 5 (4, 5))) w1 → ∀ j v, [Value.int .u8 74, Value.int .u8 82, Value.int .u8 78, Value.int .u8 49][j]? = some v → w1.cell? ((⟨W0.heap.size, 0, none⟩ : Addr).add j) = some v := by
    intro w1 hb j v hv
    have e0 : ((⟨W0.heap.size, 0, none⟩ : Addr).add j) = ⟨W0.heap.size, j, none⟩ := by
      unfold Addr.add
      split
      · rename_i h0; subst h0; rfl
      · simp
    rw [e0, hb.cell (p := ⟨W0.heap.size, j, none⟩) (by simp)]
    show World.cell? _ _ = _
    unfold World.cell?
    have : (W0.alloc (.cells #[.int .u8 74, .int .u8 82, .int .u8 78, .int .u8 49] 5 (4, 5))).heap[W0.heap.size]? = some (.cells #[.int .u8 74, .int .u8 82, .int .u8 78, .int .u8 49] 5 (4, 5)) := heap_alloc_new' W0 _
    rw [this]
    simpa using hv
  have k3b : (W0.alloc (.cells #[.int .u8 74, .int .u8 82, .int .u8 78, .int .u8 49] 5 (4, 5))).cell? ⟨bb, 3, none⟩ = some (.int .i64 ((B.s.h : Int) + 1)) := (b0.cell (p := ⟨bb, 3, none⟩) hlb).trans k3a
  rw [hW0] at h0
  have HMC := Lib.hid hmc
  clear hmc
  go_wp2_with (first
    | (go_at_call 67; refine (lnumber_any (B.s.h + 1) 8 (by omega) (by decide) (by decide) _).mono ?_; rintro e w1 ⟨gn, rfl, ho1, hb1⟩)
    | (at_builtin; refine wpList_append_new rfl _ _ 31 rfl 5 i0 Tryz.underlying31 hi hz0 hz1 hz2 ⟨W0.heap.size, 0, none⟩ 4 [.int .u8 74, .int .u8 82, .int .u8 78, .int .u8 49] (by rfl) rfl (HMC.out _ hb1) ⟨gn, 0, none⟩ 8 8 (Lib.byteCells (beN 8 (B.s.h + 1))) (by rfl) (by rw [Lib.byteCells_length, beN_length]) (row_news ho1) (by decide) (by decide) ?_; intro gl cl w2 ho2 hb2))
  have hb01 : Below W0.heap.size W0 w1 := b0.trans (hb1.mono (by simp))
  have hbW : Below W0.heap.size W0 w2 := hb01.trans (hb2.mono hb01.size)
  obtain ⟨L0, hL0⟩ : ∃ L0, [Value.int .u8 74, .int .u8 82, .int .u8 78, .int .u8 49] ++ Lib.byteCells (beN 8 (B.s.h + 1)) = L0 := ⟨_, rfl⟩
  rw [hL0] at ho2
  have ho2 : w2.ownsRow W0.heap.size 5 1 (.slice (some ⟨gl, 0, none⟩) (4 + 8) cl) (4 + 8) L0 := row_base ho2 hb01.size
  have hrow : w2.drew.ownsRow W0.heap.size 5 1 (.slice (some ⟨gl, 0, none⟩) 12 cl) 12 L0 := ho2
  have hbW : Below W0.heap.size W0 w2.drew := hbW.drew
  have h2 := h0.below hbW
  have d4 : w2.drew.cell? ⟨bb, 4, none⟩ = some (.int .i64 (B.s.first : Int)) := h2.blk.cell 4
  have d5 : w2.drew.cell? ⟨bb, 5, none⟩ = some (.int .i64 (B.s.beg : Int)) := h2.blk.cell 5
  have lb : bb < w2.drew.heap.size := h2.blk.lt
  have hnb : ∀ {g n c : Nat} {W : World} {xs : List Value}, g = bb → W.ownsRow W0.heap.size 5 1 (.slice (some ⟨g, 0, none⟩) n c) n xs → False := by
    intro g n c W xs e hr
    have h1 : W0.heap.size ≤ g := (hr.lt g rfl).1
    omega
  clear h2 ho2 hb1 ho1 hb2 hcv k3b HMC
  refine startH (S := (fun w' => w'.cell? ⟨bb, 4, none⟩ = some (Value.int .i64 (B.s.first : Int)) ∧ w'.cell? ⟨bb, 5, none⟩ = some (Value.int .i64 (B.s.beg : Int)))) 18 (by kernel_rfl) (by kernel_rfl) ⟨d4, d5⟩ (fun hHeld => ?_)
  simp only [List.replicate_succ, List.replicate_zero]
  refine takeH (i := 0) (v := .slice (some ⟨gl, 0, none⟩) 12 cl) rfl rfl (by kernel_rfl) (by kernel_rfl) (by kernel_rfl) (fun _ _ _ h => h) (Or.inl ⟨rfl, fun _ _ => rfl⟩) hHeld ?_
  simp only [List.set_cons_zero, List.set_cons_succ]
  refine takeH (i := 1) (v := .pointer (some ⟨bb, 0, none⟩)) rfl rfl (by kernel_rfl) (by kernel_rfl) (by kernel_rfl) (fun _ _ _ h => h) (Or.inl ⟨rfl, fun _ _ => rfl⟩) hHeld ?_
  simp only [List.set_cons_zero, List.set_cons_succ]
  refine takeH (i := 2) (v := .pointer (some ⟨bb, 0, none⟩)) rfl rfl (by kernel_rfl) (by kernel_rfl) (by kernel_rfl) (fun _ _ _ h => h) (Or.inl ⟨rfl, by intro w' hSw; generalize hE : Act.eval _ = ρ; have e19 : ρ (.tmp 19) = .pointer (some ⟨bb, 0, none⟩) := (by rw [← hE]; rfl); clear hE; go_simp⟩) hHeld ?_
  simp only [List.set_cons_zero, List.set_cons_succ]
  refine takeH (i := 3) (v := .pointer (some ⟨bb, 4, none⟩)) rfl rfl (by kernel_rfl) (by kernel_rfl) (by kernel_rfl) (fun _ _ _ h => h) (Or.inl ⟨rfl, by intro w' hSw; generalize hE : Act.eval _ = ρ; have e20 : ρ (.tmp 20) = .pointer (some ⟨bb, 0, none⟩) := (by rw [← hE]; rfl); clear hE; go_simp⟩) hHeld ?_
  simp only [List.set_cons_zero, List.set_cons_succ]
  refine takeH (i := 4) (v := .int .i64 (B.s.first : Int)) rfl rfl (by kernel_rfl) (by kernel_rfl) (by kernel_rfl) (fun _ _ _ h => h) (Or.inl ⟨rfl, by intro w' hSw; generalize hE : Act.eval _ = ρ; have e21 : ρ (.tmp 21) = .pointer (some ⟨bb, 4, none⟩) := (by rw [← hE]; rfl); clear hE; go_simp⟩) hHeld ?_
  simp only [List.set_cons_zero, List.set_cons_succ]
  refine takeH (i := 7) (v := .pointer (some ⟨bb, 0, none⟩)) rfl rfl (by kernel_rfl) (by kernel_rfl) (by kernel_rfl) (fun _ _ _ h => h) (Or.inl ⟨rfl, fun _ _ => rfl⟩) hHeld ?_
  simp only [List.set_cons_zero, List.set_cons_succ]
  refine takeH (i := 8) (v := .pointer (some ⟨bb, 0, none⟩)) rfl rfl (by kernel_rfl) (by kernel_rfl) (by kernel_rfl) (fun _ _ _ h => h) (Or.inl ⟨rfl, by intro w' hSw; generalize hE : Act.eval _ = ρ; have e25 : ρ (.tmp 25) = .pointer (some ⟨bb, 0, none⟩) := (by rw [← hE]; rfl); clear hE; go_simp⟩) hHeld ?_
  simp only [List.set_cons_zero, List.set_cons_succ]
  refine takeH (i := 9) (v := .pointer (some ⟨bb, 5, none⟩)) rfl rfl (by kernel_rfl) (by kernel_rfl) (by kernel_rfl) (fun _ _ _ h => h) (Or.inl ⟨rfl, by intro w' hSw; generalize hE : Act.eval _ = ρ; have e26 : ρ (.tmp 26) = .pointer (some ⟨bb, 0, none⟩) := (by rw [← hE]; rfl); clear hE; go_simp⟩) hHeld ?_
  simp only [List.set_cons_zero, List.set_cons_succ]
  refine takeH (i := 10) (v := .int .i64 (B.s.beg : Int)) rfl rfl (by kernel_rfl) (by kernel_rfl) (by kernel_rfl) (fun _ _ _ h => h) (Or.inl ⟨rfl, by intro w' hSw; generalize hE : Act.eval _ = ρ; have e27 : ρ (.tmp 27) = .pointer (some ⟨bb, 5, none⟩) := (by rw [← hE]; rfl); clear hE; go_simp⟩) hHeld ?_
  simp only [List.set_cons_zero, List.set_cons_succ]
  refine takeH (i := 13) (v := .pointer (some ⟨bb, 0, none⟩)) rfl rfl (by kernel_rfl) (by kernel_rfl) (by kernel_rfl) (fun _ _ _ h => h) (Or.inl ⟨rfl, fun _ _ => rfl⟩) hHeld ?_
  simp only [List.set_cons_zero, List.set_cons_succ]
  refine wpAnyH_ready (rs := [5]) (by kernel_rfl) (by simp) ?_
  refine AllReadyH.cons (nthL_get rfl) (fun K hK => ?_) AllReadyH.nil
  go_simp
  refine (lnumber_any B.s.first 8 (by omega) (by decide) (by decide) _).mono ?_
  rintro e wn1 ⟨gn1, rfl, ho1n, hb1n⟩
  have d4 := (hb1n.cell (p := ⟨bb, 4, none⟩) lb).trans d4
  have d5 := (hb1n.cell (p := ⟨bb, 5, none⟩) lb).trans d5
  have lb := Nat.lt_of_lt_of_le lb hb1n.size
  refine hK.out _ _ ⟨d4, d5⟩ (fun hHeld => ?_)
  clear hK K
  simp only [List.setIfInBounds_toArray, List.set_cons_zero, List.set_cons_succ]
  refine wpAnyH_ready (rs := [6]) (by kernel_rfl) (by simp) ?_
  refine AllReadyH.cons (nthL_get rfl) (fun K hK => ?_) AllReadyH.nil
  have hr1 := row_turn hrow (Turn.ofBelow (F := []) hb1n (Nat.le_refl _)) (fun _ _ => by simp)
  refine step_append_lies _ (by rfl) _ _ _ (by rfl) W0.heap.size 5 i0 _ 1 1 Tryz.underlying31 hi hz0 hz1 hz2 rfl (by decide) (.slice (some ⟨gl, 0, none⟩) 12 cl) (12) (L0) (by rfl) hr1 ⟨gn1, 0, none⟩ 8 8 (Lib.byteCells (beN 8 B.s.first)) (by rfl) (by rw [Lib.byteCells_length, beN_length]) (row_news ho1n) (byteCells_one _) (by decide) (by unfold maxLen; omega) (by omega) (by have := hbW.size; have := hb1n.size; omega) wn1.heap.size rfl ?_
  intro gr1 cr1 wr1 hrow hgr1 _ _
  have d4 := (hgr1.cell_far ⟨bb, 4, none⟩ lb (fun e => hnb (by simpa [Value.ownBlock] using e.symm) hr1)).trans d4
  have d5 := (hgr1.cell_far ⟨bb, 5, none⟩ lb (fun e => hnb (by simpa [Value.ownBlock] using e.symm) hr1)).trans d5
  have lb := Nat.lt_of_lt_of_le lb hgr1.size
  have hbW := (hbW.trans (hb1n.mono hbW.size)).grown hgr1 (Nat.le_trans hbW.size hb1n.size) (fun x hx => (hr1.lt x hx).1)
  refine hK.out _ _ ⟨d4, d5⟩ (fun hHeld => ?_)
  clear hK K
  simp only [List.setIfInBounds_toArray, List.set_cons_zero, List.set_cons_succ]
  refine wpAnyH_ready (rs := [11]) (by kernel_rfl) (by simp) ?_
  refine AllReadyH.cons (nthL_get rfl) (fun K hK => ?_) AllReadyH.nil
  go_simp
  refine (lnumber_any B.s.beg 8 (by omega) (by decide) (by decide) _).mono ?_
  rintro e wn2 ⟨gn2, rfl, ho2n, hb2n⟩
  have d4 := (hb2n.cell (p := ⟨bb, 4, none⟩) lb).trans d4
  have d5 := (hb2n.cell (p := ⟨bb, 5, none⟩) lb).trans d5
  have lb := Nat.lt_of_lt_of_le lb hb2n.size
  refine hK.out _ _ ⟨d4, d5⟩ (fun hHeld => ?_)
  clear hK K
  simp only [List.setIfInBounds_toArray, List.set_cons_zero, List.set_cons_succ]
  refine wpAnyH_ready (rs := [12]) (by kernel_rfl) (by simp) ?_
  refine AllReadyH.cons (nthL_get rfl) (fun K hK => ?_) AllReadyH.nil
  have hr2 := row_turn hrow (Turn.ofBelow (F := []) hb2n (Nat.le_refl _)) (fun _ _ => by simp)
  refine step_append_lies _ (by rfl) _ _ _ (by rfl) W0.heap.size 5 i0 _ 1 1 Tryz.underlying31 hi hz0 hz1 hz2 rfl (by decide) (.slice (some ⟨gr1, 0, none⟩) (12 + 8) cr1) ((12 + 8)) (L0 ++ Lib.byteCells (beN 8 B.s.first)) (by rfl) hr2 ⟨gn2, 0, none⟩ 8 8 (Lib.byteCells (beN 8 B.s.beg)) (by rfl) (by rw [Lib.byteCells_length, beN_length]) (row_news ho2n) (byteCells_one _) (by decide) (by unfold maxLen; omega) (by omega) (by have := hbW.size; have := hb2n.size; omega) wn2.heap.size rfl ?_
  intro gr2 cr2 wr2 hrow hgr2 _ _
  have d4 := (hgr2.cell_far ⟨bb, 4, none⟩ lb (fun e => hnb (by simpa [Value.ownBlock] using e.symm) hr2)).trans d4
  have d5 := (hgr2.cell_far ⟨bb, 5, none⟩ lb (fun e => hnb (by simpa [Value.ownBlock] using e.symm) hr2)).trans d5
  have lb := Nat.lt_of_lt_of_le lb hgr2.size
  have hbW := (hbW.trans (hb2n.mono hbW.size)).grown hgr2 (Nat.le_trans hbW.size hb2n.size) (fun x hx => (hr2.lt x hx).1)
  refine hK.out _ _ ⟨d4, d5⟩ (fun hHeld => ?_)
  clear hK K
  simp only [List.setIfInBounds_toArray, List.set_cons_zero, List.set_cons_succ]
  refine wpAnyH_ready (rs := [14]) (by kernel_rfl) (by simp) ?_
  refine AllReadyH.cons (nthL_get rfl) (fun K hK => ?_) AllReadyH.nil
  go_simp
  refine (bend_any (h0.below hbW) hc hlen hch).mono ?_
  rintro e we ⟨rfl, ne, rfl⟩
  refine hK.out _ _ ⟨d4, d5⟩ (fun hHeld => ?_)
  clear hK K
  simp only [List.setIfInBounds_toArray, List.set_cons_zero, List.set_cons_succ]
  have hrow := row_turn hrow (Turn.ofBelow (F := []) (below_drewN (Below.refl _ _) ne) (Nat.le_refl _)) (fun _ _ => by simp)
  have hbW : Below W0.heap.size W0 (wr2.drewN ne) := below_drewN hbW ne
  have d4 : (wr2.drewN ne).cell? ⟨bb, 4, none⟩ = _ := d4
  have d5 : (wr2.drewN ne).cell? ⟨bb, 5, none⟩ = _ := d5
  have lb : bb < (wr2.drewN ne).heap.size := lb
  refine wpAnyH_ready (rs := [15]) (by kernel_rfl) (by simp) ?_
  refine AllReadyH.cons (nthL_get rfl) (fun K hK => ?_) AllReadyH.nil
  go_simp
  refine (lnumber_any B.s.en 8 (by omega) (by decide) (by decide) _).mono ?_
  rintro e wn3 ⟨gn3, rfl, ho3n, hb3n⟩
  have d4 := (hb3n.cell (p := ⟨bb, 4, none⟩) lb).trans d4
  have d5 := (hb3n.cell (p := ⟨bb, 5, none⟩) lb).trans d5
  have lb := Nat.lt_of_lt_of_le lb hb3n.size
  refine hK.out _ _ ⟨d4, d5⟩ (fun hHeld => ?_)
  clear hK K
  simp only [List.setIfInBounds_toArray, List.set_cons_zero, List.set_cons_succ]
  refine wpAnyH_ready (rs := [16]) (by kernel_rfl) (by simp) ?_
  refine AllReadyH.cons (nthL_get rfl) (fun K hK => ?_) AllReadyH.nil
  have hr3 := row_turn hrow (Turn.ofBelow (F := []) hb3n (Nat.le_refl _)) (fun _ _ => by simp)
  refine step_append_lies _ (by rfl) _ _ _ (by rfl) W0.heap.size 5 i0 _ 1 1 Tryz.underlying31 hi hz0 hz1 hz2 rfl (by decide) (.slice (some ⟨gr2, 0, none⟩) (12 + 8 + 8) cr2) ((12 + 8 + 8)) (L0 ++ Lib.byteCells (beN 8 B.s.first) ++ Lib.byteCells (beN 8 B.s.beg)) (by rfl) hr3 ⟨gn3, 0, none⟩ 8 8 (Lib.byteCells (beN 8 B.s.en)) (by rfl) (by rw [Lib.byteCells_length, beN_length]) (row_news ho3n) (byteCells_one _) (by decide) (by unfold maxLen; omega) (by omega) (by have := hbW.size; have := hb3n.size; omega) wn3.heap.size rfl ?_
  intro gr3 cr3 wr3 hrow hgr3 _ _
  have d4 := (hgr3.cell_far ⟨bb, 4, none⟩ lb (fun e => hnb (by simpa [Value.ownBlock] using e.symm) hr3)).trans d4
  have d5 := (hgr3.cell_far ⟨bb, 5, none⟩ lb (fun e => hnb (by simpa [Value.ownBlock] using e.symm) hr3)).trans d5
  have lb := Nat.lt_of_lt_of_le lb hgr3.size
  have hbW := (hbW.trans (hb3n.mono hbW.size)).grown hgr3 (Nat.le_trans hbW.size hb3n.size) (fun x hx => (hr3.lt x hx).1)
  refine hK.out _ _ ⟨d4, d5⟩ (fun hHeld => ?_)
  clear hK K
  simp only [List.setIfInBounds_toArray, List.set_cons_zero, List.set_cons_succ]
  refine takeH (i := 17) (v := .slice (some ⟨gr3, 0, none⟩) (12 + 8 + 8 + 8) cr3) rfl rfl (by kernel_rfl) (by kernel_rfl) (by kernel_rfl) (fun _ _ _ h => h) (Or.inl ⟨rfl, fun _ _ => rfl⟩) hHeld ?_
  simp only [List.set_cons_zero, List.set_cons_succ]
  refine wpAnyH_done (by kernel_rfl) ?_ _
  have hLL : L0 ++ Lib.byteCells (beN 8 B.s.first) ++ Lib.byteCells (beN 8 B.s.beg) ++ Lib.byteCells (beN 8 B.s.en) = Lib.byteCells (headL B.bump.s.hd) := by
    rw [← hL0]
    have e0 : [Value.int .u8 74, Value.int .u8 82, Value.int .u8 78, Value.int .u8 49] = Lib.byteCells magicL := rfl
    rw [e0, ← byteCells_app, ← byteCells_app, ← byteCells_app, ← byteCells_app]
    rfl
  rw [hLL] at hrow
  have hl36 := headL_length B.bump.s.hd
  obtain ⟨HL, hHL⟩ : ∃ HL, headL B.bump.s.hd = HL := ⟨_, rfl⟩
  rw [hHL] at hrow hl36
  have hrow : wr3.ownsRow W0.heap.size 5 1 (.slice (some ⟨gr3, 0, none⟩) 36 cr3) 36 (Lib.byteCells HL) := hrow
  have hby : Byts wr3 (.slice (some ⟨gr3, 0, none⟩) 36 cr3) HL := Byts.of_row (by rw [hl36]; exact hrow) (by omega)
  obtain ⟨cs, hcs⟩ : ∃ cs, crc HL = cs := ⟨_, rfl⟩
  have hcl : cs < 4294967296 := by rw [← hcs]; exact crc_lt _
  have HCR := Lib.hid (lcrc_any hby (by omega))
  rw [hcs] at HCR
  clear hby d4 d5 lb
  go_wp2_with (first
    | (go_at_call 60; refine HCR.out.mono ?_; rintro e w3 ⟨rfl, rfl⟩)
    | (go_at_call 67; refine (lnumber_any cs 4 (by omega) (by decide) (by decide) _).mono ?_; rintro e w4 ⟨g4, rfl, ho4, hb4⟩; have hrow := row_turn hrow (Turn.ofBelow (F := []) hb4 (Nat.le_refl _)) (fun _ _ => by simp))
    | (at_builtin; refine wpList_append_lies _ rfl _ _ 31 rfl W0.heap.size 5 i0 _ 1 1 Tryz.underlying31 hi hz0 hz1 hz2 rfl (by decide) (.slice (some ⟨gr3, 0, none⟩) 36 cr3) 36 (Lib.byteCells HL) rfl hrow ⟨g4, 0, none⟩ 4 4 (Lib.byteCells (beN 4 cs)) (by rfl) (by rw [Lib.byteCells_length, beN_length]) (row_news ho4) (byteCells_one _) (by decide) (by unfold maxLen; omega) (by omega) (by have := hbW.size; have := hb4.size; omega) w4.heap.size rfl ?_; intro g5 c5 w5 ho5 hg5 _ _))
  have hbW5 : Below W0.heap.size W0 w5 := (hbW.trans (hb4.mono hbW.size)).grown hg5 (Nat.le_trans hbW.size hb4.size) (fun x hx => (hrow.lt x hx).1)
  have hrow : w5.drew.ownsRow W0.heap.size 5 1 (.slice (some ⟨g5, 0, none⟩) 40 c5) 40 (Lib.byteCells HL ++ Lib.byteCells (beN 4 cs)) := ho5
  have hbW : Below W0.heap.size W0 w5.drew := hbW5.drew
  clear ho5 hg5 ho4 hb4 hbW5
  have h5 := h0.below hbW
  have d3 : w5.drew.cell? ⟨bb, 3, none⟩ = some (.int .i64 ((B.s.h : Int) + 1)) := h5.blk.cell 3
  have lb5 := h5.blk.lt
  rcases Nat.mod_two_eq_zero_or_one (B.s.h + 1) with hp | hp
  · have etm : ((B.s.h : Int) + 1).tmod 2 = 0 := by rw [Int.tmod_eq_emod_of_nonneg (by omega)]; omega
    refine startH (S := (fun w' => w'.cell? ⟨bb, 3, none⟩ = some (Value.int .i64 ((B.s.h : Int) + 1)))) 15 (by kernel_rfl) (by kernel_rfl) d3 (fun hHeld => ?_)
    simp only [List.replicate_succ, List.replicate_zero]
    refine takeH (i := 0) (v := .pointer (some ⟨bb, 0, none⟩)) rfl rfl (by kernel_rfl) (by kernel_rfl) (by kernel_rfl) (fun _ _ _ h => h) (Or.inl ⟨rfl, fun _ _ => rfl⟩) hHeld ?_
    simp only [List.set_cons_zero, List.set_cons_succ]
    refine takeH (i := 1) (v := .pointer (some ⟨bb, 0, none⟩)) rfl rfl (by kernel_rfl) (by kernel_rfl) (by kernel_rfl) (fun _ _ _ h => h) (Or.inl ⟨rfl, fun _ _ => rfl⟩) hHeld ?_
    simp only [List.set_cons_zero, List.set_cons_succ]
    refine takeH (i := 2) (v := .pointer (some ⟨bb, 0, none⟩)) rfl rfl (by kernel_rfl) (by kernel_rfl) (by kernel_rfl) (fun _ _ _ h => h) (Or.inl ⟨rfl, by intro w' hSw; generalize hE : Act.eval _ = ρ; have e41 : ρ (.tmp 41) = .pointer (some ⟨bb, 0, none⟩) := (by rw [← hE]; rfl); clear hE; go_simp⟩) hHeld ?_
    simp only [List.set_cons_zero, List.set_cons_succ]
    refine takeH (i := 3) (v := .pointer (some ⟨bb, 3, none⟩)) rfl rfl (by kernel_rfl) (by kernel_rfl) (by kernel_rfl) (fun _ _ _ h => h) (Or.inl ⟨rfl, by intro w' hSw; generalize hE : Act.eval _ = ρ; have e42 : ρ (.tmp 42) = .pointer (some ⟨bb, 0, none⟩) := (by rw [← hE]; rfl); clear hE; go_simp⟩) hHeld ?_
    simp only [List.set_cons_zero, List.set_cons_succ]
    refine takeH (i := 4) (v := .int .i64 ((B.s.h : Int) + 1)) rfl rfl (by kernel_rfl) (by kernel_rfl) (by kernel_rfl) (fun _ _ _ h => h) (Or.inl ⟨rfl, by intro w' hSw; generalize hE : Act.eval _ = ρ; have e43 : ρ (.tmp 43) = .pointer (some ⟨bb, 3, none⟩) := (by rw [← hE]; rfl); clear hE; go_simp⟩) hHeld ?_
    simp only [List.set_cons_zero, List.set_cons_succ]
    refine takeH (i := 5) (v := .int .i64 0) rfl rfl (by kernel_rfl) (by kernel_rfl) (by kernel_rfl) (fun _ _ _ h => h) (Or.inl ⟨rfl, by intro w' hSw; generalize hE : Act.eval _ = ρ; have e44 : ρ (.tmp 44) = .int .i64 ((B.s.h : Int) + 1) := (by rw [← hE]; rfl); have ec2 : ρ (.const (.int .i64 2)) = .int .i64 2 := (by rw [← hE]; rfl); clear hE; go_simp⟩) hHeld ?_
    simp only [List.set_cons_zero, List.set_cons_succ]
    refine takeH (i := 6) (v := .slice (some ⟨g5, 0, none⟩) 40 c5) rfl rfl (by kernel_rfl) (by kernel_rfl) (by kernel_rfl) (fun _ _ _ h => h) (Or.inl ⟨rfl, fun _ _ => rfl⟩) hHeld ?_
    simp only [List.set_cons_zero, List.set_cons_succ]
    refine takeH (i := 7) (v := .slice (some ⟨g5, 0, none⟩) 40 c5) rfl rfl (by kernel_rfl) (by kernel_rfl) (by kernel_rfl) (fun _ _ _ h => h) (Or.inl ⟨rfl, fun _ _ => rfl⟩) hHeld ?_
    simp only [List.set_cons_zero, List.set_cons_succ]
    refine takeH (i := 8) (v := .int .i64 40) rfl rfl (by kernel_rfl) (by kernel_rfl) (by kernel_rfl) (fun _ _ _ h => h) (Or.inl ⟨rfl, by intro w' hSw; generalize hE : Act.eval _ = ρ; have e47 : ρ (.tmp 47) = .slice (some ⟨g5, 0, none⟩) 40 c5 := (by rw [← hE]; rfl); clear hE; go_simp⟩) hHeld ?_
    simp only [List.set_cons_zero, List.set_cons_succ]
    refine takeH (i := 9) (v := .int .i64 216) rfl rfl (by kernel_rfl) (by kernel_rfl) (by kernel_rfl) (fun _ _ _ h => h) (Or.inl ⟨rfl, by intro w' hSw; generalize hE : Act.eval _ = ρ; have ec256 : ρ (.const (.int .i64 256)) = .int .i64 256 := (by rw [← hE]; rfl); have e48 : ρ (.tmp 48) = .int .i64 40 := (by rw [← hE]; rfl); clear hE; go_simp; decide⟩) hHeld ?_
    simp only [List.set_cons_zero, List.set_cons_succ]
    refine takeH (i := 11) (v := .pointer (some ⟨bb, 0, none⟩)) rfl rfl (by kernel_rfl) (by kernel_rfl) (by kernel_rfl) (fun _ _ _ h => h) (Or.inl ⟨rfl, by intro w' hSw; generalize hE : Act.eval _ = ρ; have e40 : ρ (.tmp 40) = .pointer (some ⟨bb, 0, none⟩) := (by rw [← hE]; rfl); clear hE; go_simp⟩) hHeld ?_
    simp only [List.set_cons_zero, List.set_cons_succ]
    refine takeH (i := 12) (v := .pointer (some ⟨bb, 0, none⟩)) rfl rfl (by kernel_rfl) (by kernel_rfl) (by kernel_rfl) (fun _ _ _ h => h) (Or.inl ⟨rfl, by intro w' hSw; generalize hE : Act.eval _ = ρ; have e51 : ρ (.tmp 51) = .pointer (some ⟨bb, 0, none⟩) := (by rw [← hE]; rfl); clear hE; go_simp⟩) hHeld ?_
    simp only [List.set_cons_zero, List.set_cons_succ]
    refine wpAnyH_ready (rs := [10]) (by kernel_rfl) (by simp) ?_
    refine AllReadyH.cons (nthL_get rfl) (fun K hK => ?_) AllReadyH.nil
    refine step_append_zeros _ (by rfl) _ _ _ _ (by rfl) W0.heap.size 5 i0 Tryz.underlying31 Tryz.underlying3 hi hz0 hz1 hz2 g5 c5 40 (Lib.byteCells HL ++ Lib.byteCells (beN 4 cs)) (by rfl) hrow 216 (by rfl) (by decide) (by decide) (by decide) hbW.size ?_
    intro gz cz wz hoz hgz
    have dz3 := (hgz.cell_far ⟨bb, 3, none⟩ lb5 (fun e => hnb (by simpa using e.symm) hrow)).trans d3
    have dzp := (hgz.cell_far ⟨bb, 0, none⟩ lb5 (fun e => hnb (by simpa using e.symm) hrow)).trans (h5.blk.cell 0)
    have fzp := (hgz.frozen_far ⟨bb, 0, none⟩ lb5 (fun e => hnb (by simpa using e.symm) hrow)).trans (h5.blk.frozen 0)
    simp at dzp
    refine hK.out _ _ dz3 (fun hHeld => ?_)
    clear hK K
    simp only [List.setIfInBounds_toArray, List.set_cons_zero, List.set_cons_succ]
    refine takeH (i := 13) (v := .pointer (some ⟨bb, 0, none⟩)) rfl rfl (by kernel_rfl) (by kernel_rfl) (by kernel_rfl) (fun _ _ _ h => h) (Or.inl ⟨rfl, by intro w' hSw; generalize hE : Act.eval _ = ρ; have e52 : ρ (.tmp 52) = .pointer (some ⟨bb, 0, none⟩) := (by rw [← hE]; rfl); have e45 : ρ (.tmp 45) = .int .i64 0 := (by rw [← hE]; rfl); clear hE; go_simp⟩) hHeld ?_
    simp only [List.set_cons_zero, List.set_cons_succ]
    refine wpAnyH_ready (rs := [14]) (by kernel_rfl) (by simp) ?_
    refine AllReadyH.cons (nthL_get rfl) (fun K hK => ?_) AllReadyH.nil
    go_simp
    refine hK.out _ _ ((World.cell?_setCell_other _ ⟨bb, 0, none⟩ ⟨bb, 3, none⟩ _ (by simp)).trans dz3) (fun hHeld => ?_)
    clear hK K
    simp only [List.setIfInBounds_toArray, List.set_cons_zero, List.set_cons_succ]
    refine wpAnyH_done (by kernel_rfl) ?_ _
    have hz256 : H256 wz gz (headT B.bump.s.hd) := by
      refine H256.of_row (B := W0.heap.size) (c := cz) ?_ (headT_length _)
      have e : Lib.byteCells (headT B.bump.s.hd) = Lib.byteCells HL ++ Lib.byteCells (beN 4 cs) ++ zCells 216 := by
        unfold headT
        rw [hHL, hcs, byteCells_app, byteCells_app, zCells_bytes]
      rw [e]
      exact hoz
    have hcz : 256 ≤ cz := by
      rcases hoz.2 with ⟨e, _⟩ | ⟨_, _, _, e, _, _, e2, _⟩
      · cases e
      · injection e with _ _ e
        omega
    have hbz : Below W0.heap.size W0 wz := hbW.grown hgz hbW.size (fun x hx => by
      have := (hrow.lt x (by simpa [Value.ownBlock] using hx)).1
      exact this)
    have hgz0 : W0.heap.size ≤ gz := (hoz.lt gz rfl).1
    have HZ := Lib.hid (And.intro hz256 (And.intro hcz (And.intro hbz hgz0)))
    clear hz256 hcz hbz hgz0 hoz hgz dz3 dzp fzp hrow hbW h5 d3
    go_wp2_with fail
    go_end0
    refine ⟨rfl, ?_⟩
    obtain ⟨hz256, hcz, hbz, hgz0⟩ := HZ.out
    have hz0' := h0.below hbz
    have tz : Turn [bb] wz ((wz.setCell ⟨bb, 0, none⟩ (.slice (some ⟨gz, 0, none⟩) 256 cz))) := ((Turn.refl _ wz).setCell (p := ⟨bb, 0, none⟩) (.inl (by simp)) _)
    have hbf : ∀ i, i ∈ bfoot bb g0 g1 ga vr → i < W0.heap.size := h0.lt
    have e0 : g0 ≠ bb := h0.h0.ne h0.blk (by decide)
    have e1 : g1 ≠ bb := h0.h1.ne h0.blk (by decide)
    have hga : ga < W0.heap.size := hbf ga (by simp [bfoot])
    have hT : Turn (bfoot bb g0 g1 ga vr) w ((wz.setCell ⟨bb, 0, none⟩ (.slice (some ⟨gz, 0, none⟩) 256 cz))) := by
      rw [hW0] at t0
      exact (((t0.below hbz t0.size).trans tz (fun i hi => .inl hi))).mono (fun i hi => by simp at hi; simp [bfoot, hi])
    have hsz : w.heap.size ≤ gz := by rw [hW0] at t0; have := t0.size; omega
    have hB' : BS.header B B.bump.s = { B.bump with h0 := headT B.bump.s.hd } := by
      unfold BS.header BS.setHead
      rw [if_pos (show B.bump.s.h % 2 = 0 from hp)]
      rfl
    rw [hB']
    refine ⟨bfoot bb gz g1 ga vr, ⟨gz, g1, ga, cz, c1, ca, vr, ⟨hz0'.blk.set_ 0 _, hz256.turn tz (by simp; omega), hz0'.h1.turn tz (by simpa using e1), hcz, h0.k1, row_turn hz0'.ar tz (fun x hx => by
      have : x = ga := by simpa [Value.ownBlock] using hx.symm
      subst this; simpa using h0.ar_ne), row_turn hz0'.rs tz (fun x hx => by simp; rintro rfl; exact h0.rs_ne hx), by omega, h0.n1⟩, rfl⟩, hT, fun i hi => ?_⟩
    unfold bfoot at hi ⊢
    simp only [List.mem_cons] at hi ⊢
    rcases hi with rfl | rfl | rfl | rfl | hi
    · exact .inl (.inl rfl)
    · exact .inr hsz
    · exact .inl (.inr (.inr (.inl rfl)))
    · exact .inl (.inr (.inr (.inr (.inl rfl))))
    · exact .inl (.inr (.inr (.inr (.inr hi))))
  · have etm : ((B.s.h : Int) + 1).tmod 2 = 1 := by rw [Int.tmod_eq_emod_of_nonneg (by omega)]; omega
    refine startH (S := (fun w' => w'.cell? ⟨bb, 3, none⟩ = some (Value.int .i64 ((B.s.h : Int) + 1)))) 15 (by kernel_rfl) (by kernel_rfl) d3 (fun hHeld => ?_)
    simp only [List.replicate_succ, List.replicate_zero]
    refine takeH (i := 0) (v := .pointer (some ⟨bb, 0, none⟩)) rfl rfl (by kernel_rfl) (by kernel_rfl) (by kernel_rfl) (fun _ _ _ h => h) (Or.inl ⟨rfl, fun _ _ => rfl⟩) hHeld ?_
    simp only [List.set_cons_zero, List.set_cons_succ]
    refine takeH (i := 1) (v := .pointer (some ⟨bb, 0, none⟩)) rfl rfl (by kernel_rfl) (by kernel_rfl) (by kernel_rfl) (fun _ _ _ h => h) (Or.inl ⟨rfl, fun _ _ => rfl⟩) hHeld ?_
    simp only [List.set_cons_zero, List.set_cons_succ]
    refine takeH (i := 2) (v := .pointer (some ⟨bb, 0, none⟩)) rfl rfl (by kernel_rfl) (by kernel_rfl) (by kernel_rfl) (fun _ _ _ h => h) (Or.inl ⟨rfl, by intro w' hSw; generalize hE : Act.eval _ = ρ; have e41 : ρ (.tmp 41) = .pointer (some ⟨bb, 0, none⟩) := (by rw [← hE]; rfl); clear hE; go_simp⟩) hHeld ?_
    simp only [List.set_cons_zero, List.set_cons_succ]
    refine takeH (i := 3) (v := .pointer (some ⟨bb, 3, none⟩)) rfl rfl (by kernel_rfl) (by kernel_rfl) (by kernel_rfl) (fun _ _ _ h => h) (Or.inl ⟨rfl, by intro w' hSw; generalize hE : Act.eval _ = ρ; have e42 : ρ (.tmp 42) = .pointer (some ⟨bb, 0, none⟩) := (by rw [← hE]; rfl); clear hE; go_simp⟩) hHeld ?_
    simp only [List.set_cons_zero, List.set_cons_succ]
    refine takeH (i := 4) (v := .int .i64 ((B.s.h : Int) + 1)) rfl rfl (by kernel_rfl) (by kernel_rfl) (by kernel_rfl) (fun _ _ _ h => h) (Or.inl ⟨rfl, by intro w' hSw; generalize hE : Act.eval _ = ρ; have e43 : ρ (.tmp 43) = .pointer (some ⟨bb, 3, none⟩) := (by rw [← hE]; rfl); clear hE; go_simp⟩) hHeld ?_
    simp only [List.set_cons_zero, List.set_cons_succ]
    refine takeH (i := 5) (v := .int .i64 1) rfl rfl (by kernel_rfl) (by kernel_rfl) (by kernel_rfl) (fun _ _ _ h => h) (Or.inl ⟨rfl, by intro w' hSw; generalize hE : Act.eval _ = ρ; have e44 : ρ (.tmp 44) = .int .i64 ((B.s.h : Int) + 1) := (by rw [← hE]; rfl); have ec2 : ρ (.const (.int .i64 2)) = .int .i64 2 := (by rw [← hE]; rfl); clear hE; go_simp⟩) hHeld ?_
    simp only [List.set_cons_zero, List.set_cons_succ]
    refine takeH (i := 6) (v := .slice (some ⟨g5, 0, none⟩) 40 c5) rfl rfl (by kernel_rfl) (by kernel_rfl) (by kernel_rfl) (fun _ _ _ h => h) (Or.inl ⟨rfl, fun _ _ => rfl⟩) hHeld ?_
    simp only [List.set_cons_zero, List.set_cons_succ]
    refine takeH (i := 7) (v := .slice (some ⟨g5, 0, none⟩) 40 c5) rfl rfl (by kernel_rfl) (by kernel_rfl) (by kernel_rfl) (fun _ _ _ h => h) (Or.inl ⟨rfl, fun _ _ => rfl⟩) hHeld ?_
    simp only [List.set_cons_zero, List.set_cons_succ]
    refine takeH (i := 8) (v := .int .i64 40) rfl rfl (by kernel_rfl) (by kernel_rfl) (by kernel_rfl) (fun _ _ _ h => h) (Or.inl ⟨rfl, by intro w' hSw; generalize hE : Act.eval _ = ρ; have e47 : ρ (.tmp 47) = .slice (some ⟨g5, 0, none⟩) 40 c5 := (by rw [← hE]; rfl); clear hE; go_simp⟩) hHeld ?_
    simp only [List.set_cons_zero, List.set_cons_succ]
    refine takeH (i := 9) (v := .int .i64 216) rfl rfl (by kernel_rfl) (by kernel_rfl) (by kernel_rfl) (fun _ _ _ h => h) (Or.inl ⟨rfl, by intro w' hSw; generalize hE : Act.eval _ = ρ; have ec256 : ρ (.const (.int .i64 256)) = .int .i64 256 := (by rw [← hE]; rfl); have e48 : ρ (.tmp 48) = .int .i64 40 := (by rw [← hE]; rfl); clear hE; go_simp; decide⟩) hHeld ?_
    simp only [List.set_cons_zero, List.set_cons_succ]
    refine takeH (i := 11) (v := .pointer (some ⟨bb, 0, none⟩)) rfl rfl (by kernel_rfl) (by kernel_rfl) (by kernel_rfl) (fun _ _ _ h => h) (Or.inl ⟨rfl, by intro w' hSw; generalize hE : Act.eval _ = ρ; have e40 : ρ (.tmp 40) = .pointer (some ⟨bb, 0, none⟩) := (by rw [← hE]; rfl); clear hE; go_simp⟩) hHeld ?_
    simp only [List.set_cons_zero, List.set_cons_succ]
    refine takeH (i := 12) (v := .pointer (some ⟨bb, 0, none⟩)) rfl rfl (by kernel_rfl) (by kernel_rfl) (by kernel_rfl) (fun _ _ _ h => h) (Or.inl ⟨rfl, by intro w' hSw; generalize hE : Act.eval _ = ρ; have e51 : ρ (.tmp 51) = .pointer (some ⟨bb, 0, none⟩) := (by rw [← hE]; rfl); clear hE; go_simp⟩) hHeld ?_
    simp only [List.set_cons_zero, List.set_cons_succ]
    refine wpAnyH_ready (rs := [10]) (by kernel_rfl) (by simp) ?_
    refine AllReadyH.cons (nthL_get rfl) (fun K hK => ?_) AllReadyH.nil
    refine step_append_zeros _ (by rfl) _ _ _ _ (by rfl) W0.heap.size 5 i0 Tryz.underlying31 Tryz.underlying3 hi hz0 hz1 hz2 g5 c5 40 (Lib.byteCells HL ++ Lib.byteCells (beN 4 cs)) (by rfl) hrow 216 (by rfl) (by decide) (by decide) (by decide) hbW.size ?_
    intro gz cz wz hoz hgz
    have dz3 := (hgz.cell_far ⟨bb, 3, none⟩ lb5 (fun e => hnb (by simpa using e.symm) hrow)).trans d3
    have dzp := (hgz.cell_far ⟨bb, 1, none⟩ lb5 (fun e => hnb (by simpa using e.symm) hrow)).trans (h5.blk.cell 1)
    have fzp := (hgz.frozen_far ⟨bb, 1, none⟩ lb5 (fun e => hnb (by simpa using e.symm) hrow)).trans (h5.blk.frozen 1)
    simp at dzp
    refine hK.out _ _ dz3 (fun hHeld => ?_)
    clear hK K
    simp only [List.setIfInBounds_toArray, List.set_cons_zero, List.set_cons_succ]
    refine takeH (i := 13) (v := .pointer (some ⟨bb, 1, none⟩)) rfl rfl (by kernel_rfl) (by kernel_rfl) (by kernel_rfl) (fun _ _ _ h => h) (Or.inl ⟨rfl, by intro w' hSw; generalize hE : Act.eval _ = ρ; have e52 : ρ (.tmp 52) = .pointer (some ⟨bb, 0, none⟩) := (by rw [← hE]; rfl); have e45 : ρ (.tmp 45) = .int .i64 1 := (by rw [← hE]; rfl); clear hE; go_simp⟩) hHeld ?_
    simp only [List.set_cons_zero, List.set_cons_succ]
    refine wpAnyH_ready (rs := [14]) (by kernel_rfl) (by simp) ?_
    refine AllReadyH.cons (nthL_get rfl) (fun K hK => ?_) AllReadyH.nil
    go_simp
    refine hK.out _ _ ((World.cell?_setCell_other _ ⟨bb, 1, none⟩ ⟨bb, 3, none⟩ _ (by simp)).trans dz3) (fun hHeld => ?_)
    clear hK K
    simp only [List.setIfInBounds_toArray, List.set_cons_zero, List.set_cons_succ]
    refine wpAnyH_done (by kernel_rfl) ?_ _
    have hz256 : H256 wz gz (headT B.bump.s.hd) := by
      refine H256.of_row (B := W0.heap.size) (c := cz) ?_ (headT_length _)
      have e : Lib.byteCells (headT B.bump.s.hd) = Lib.byteCells HL ++ Lib.byteCells (beN 4 cs) ++ zCells 216 := by
        unfold headT
        rw [hHL, hcs, byteCells_app, byteCells_app, zCells_bytes]
      rw [e]
      exact hoz
    have hcz : 256 ≤ cz := by
      rcases hoz.2 with ⟨e, _⟩ | ⟨_, _, _, e, _, _, e2, _⟩
      · cases e
      · injection e with _ _ e
        omega
    have hbz : Below W0.heap.size W0 wz := hbW.grown hgz hbW.size (fun x hx => by
      have := (hrow.lt x (by simpa [Value.ownBlock] using hx)).1
      exact this)
    have hgz0 : W0.heap.size ≤ gz := (hoz.lt gz rfl).1
    have HZ := Lib.hid (And.intro hz256 (And.intro hcz (And.intro hbz hgz0)))
    clear hz256 hcz hbz hgz0 hoz hgz dz3 dzp fzp hrow hbW h5 d3
    go_wp2_with fail
    go_end0
    refine ⟨rfl, ?_⟩
    obtain ⟨hz256, hcz, hbz, hgz0⟩ := HZ.out
    have hz0' := h0.below hbz
    have tz : Turn [bb] wz ((wz.setCell ⟨bb, 1, none⟩ (.slice (some ⟨gz, 0, none⟩) 256 cz))) := ((Turn.refl _ wz).setCell (p := ⟨bb, 1, none⟩) (.inl (by simp)) _)
    have hbf : ∀ i, i ∈ bfoot bb g0 g1 ga vr → i < W0.heap.size := h0.lt
    have e0 : g0 ≠ bb := h0.h0.ne h0.blk (by decide)
    have e1 : g1 ≠ bb := h0.h1.ne h0.blk (by decide)
    have hga : ga < W0.heap.size := hbf ga (by simp [bfoot])
    have hT : Turn (bfoot bb g0 g1 ga vr) w ((wz.setCell ⟨bb, 1, none⟩ (.slice (some ⟨gz, 0, none⟩) 256 cz))) := by
      rw [hW0] at t0
      exact (((t0.below hbz t0.size).trans tz (fun i hi => .inl hi))).mono (fun i hi => by simp at hi; simp [bfoot, hi])
    have hsz : w.heap.size ≤ gz := by rw [hW0] at t0; have := t0.size; omega
    have hB' : BS.header B B.bump.s = { B.bump with h1 := headT B.bump.s.hd } := by
      unfold BS.header BS.setHead
      rw [if_neg (by show ¬ (B.s.h + 1) % 2 = 0; omega)]
      rfl
    rw [hB']
    refine ⟨bfoot bb g0 gz ga vr, ⟨g0, gz, ga, c0, cz, ca, vr, ⟨hz0'.blk.set_ 1 _, hz0'.h0.turn tz (by simpa using e0), hz256.turn tz (by simp; omega), h0.k0, hcz, row_turn hz0'.ar tz (fun x hx => by
      have : x = ga := by simpa [Value.ownBlock] using hx.symm
      subst this; simpa using h0.ar_ne), row_turn hz0'.rs tz (fun x hx => by simp; rintro rfl; exact h0.rs_ne hx), h0.n0, by omega⟩, rfl⟩, hT, fun i hi => ?_⟩
    unfold bfoot at hi ⊢
    simp only [List.mem_cons] at hi ⊢
    rcases hi with rfl | rfl | rfl | rfl | hi
    · exact .inl (.inl rfl)
    · exact .inl (.inr (.inl rfl))
    · exact .inr hsz
    · exact .inl (.inr (.inr (.inr (.inl rfl))))
    · exact .inl (.inr (.inr (.inr (.inr hi))))
end Go.Proofs.YtfdnpchbbngpjaaGreat
