/- A device: Read. -/
import Derived.Test.YtfdnpchbbngpjaaGreatVole
namespace Go.Proofs.YtfdnpchbbngpjaaGreat
open Go.RowKit Go.Maps Go.Shelf
attribute [local go_sem] Oper.semAt_some

theorem last_none {ps : List (Nat × ByteArray)} {s : Nat} (h : ∀ x ∈ bw ps, x.2.1 ≠ s) : lastAt ps s = none := by
  unfold lastAt
  rw [← bw_snd, List.find?_eq_none.2]
  · rfl
  · intro p hp
    obtain ⟨x, hx, rfl⟩ := List.mem_map.1 hp
    simpa using h x hx
theorem last_some {ps : List (Nat × ByteArray)} {s : Nat} {ini : List WI} {x : WI} (hp : ini ++ [x] <+: bw ps) (h : ∀ y ∈ ini, y.2.1 ≠ s) (hx : x.2.1 = s) : lastAt ps s = some x.2.2 := by
  unfold lastAt
  obtain ⟨r, hr⟩ := hp
  rw [← bw_snd, ← hr, List.append_assoc, List.map_append, List.find?_append, List.find?_eq_none.2]
  · simp [hx]
  · intro p hp
    obtain ⟨y, hy, rfl⟩ := List.mem_map.1 hp
    simpa using h y hy

set_option maxRecDepth 100000 in
set_option maxHeartbeats 2000000 in
theorem read_ok (s : Nat) {w : World} {vb : Nat} {st : VS} {mb : Nat} {pv : Value} (h : Vol w vb st mb pv) (hdn : st.down = false) (hs : s < st.dur.length) :
    Calls Tryz.prog 37 #[.pointer (some ⟨vb, 0, none⟩), .int .i64 (s : Int)] w fun e w' => e = .returned (.tuple #[.string (st.content s), .int .i64 0]) ∧ Below w.heap.size w w' := by
  have c5 := h.blk.cell 5
  have c2 := h.blk.cell 2
  have lt := h.blk.lt
  simp [hdn] at c5
  simp at c2
  have hin : inR (s : Int) st.dur.length = true := inR_iff.2 ⟨by omega, by omega⟩
  have HR := Lib.hid hin
  obtain ⟨ao, cap0, hpv⟩ : ∃ ao cap, pv = .slice ao st.pend.length cap := by
    rcases h.row.2 with ⟨h1, h2⟩ | ⟨g, cap, cur, h1, _⟩
    · exact ⟨none, 0, by rw [h1, h2]⟩
    · exact ⟨_, _, h1⟩
  subst hpv
  have hbl : ∀ o1 o2 o3 : Obj, Below w.heap.size w (((w.alloc o1).alloc o2).alloc o3) := fun o1 o2 o3 => (((Below.refl _ w).alloc (Nat.le_refl _) _).alloc (by simp) _).alloc (by simp; omega) _
  have HB := Lib.hid hbl
  have a5 : ∀ o1 o2 o3 : Obj, (((w.alloc o1).alloc o2).alloc o3).cell? ⟨vb, 5, none⟩ = some (.bool false) := fun o1 o2 o3 => ((hbl o1 o2 o3).cell (p := ⟨vb, 5, none⟩) lt).trans c5
  have a2 : ∀ o1 o2 o3 : Obj, (((w.alloc o1).alloc o2).alloc o3).cell? ⟨vb, 2, none⟩ = some (.slice ao st.pend.length cap0) := fun o1 o2 o3 => ((hbl o1 o2 o3).cell (p := ⟨vb, 2, none⟩) lt).trans c2
  clear hdn hin hbl c5 c2
  refine (callsIn_wide (n := 4)).1 ?_
  refine callsIn_of_wp_marks Tryz.func37 rfl trivial ?_ rfl
  simp only [Tryz.ntmps37, List.size_toArray, List.length_cons, List.length_nil, Nat.reduceAdd, Nat.reduceSub, Array.replicate_succ, Array.replicate_zero, List.push_toArray, List.append_toArray, List.nil_append, List.cons_append]
  gi_wp2_with (first
    | (refine ⟨trivial, ?_⟩; gi_at_call 70; refine (callsIn_wide.2 (has_any _ (h.below (HB.out _ _ _)))).mono ?_; rw [HR.out]; rintro e w1 ⟨rfl, rfl⟩)
    | (refine ⟨trivial, ?_⟩; gi_at_call 71; refine (backward_in Fence.wide _ trivial rfl _ _ _ _).mono ?_; rintro e w' ⟨rfl, rfl⟩))
  have hsz : ((((w.alloc (.cells #[.int .i64 (s : Int)] 3)).alloc (.cells #[.string ⟨#[]⟩] 9)).alloc (.cells #[.int .i64 0] 44)).alloc (.cells #[.slice ao st.pend.length cap0] 78)).heap.size = w.heap.size + 4 := by simp
  have hbl : Below w.heap.size w ((((w.alloc (.cells #[.int .i64 (s : Int)] 3)).alloc (.cells #[.string ⟨#[]⟩] 9)).alloc (.cells #[.int .i64 0] 44)).alloc (.cells #[.slice ao st.pend.length cap0] 78)) := (HB.out _ _ _).alloc (by simp; omega) _
  have b0 := (((Boxed.new w 3 (.int .i64 (s : Int))).alloc (.cells #[.string ⟨#[]⟩] 9)).alloc (.cells #[.int .i64 0] 44)).alloc (.cells #[.slice ao st.pend.length cap0] 78)
  have b1 := ((Boxed.new (w.alloc (.cells #[.int .i64 (s : Int)] 3)) 9 (.string ⟨#[]⟩)).alloc (.cells #[.int .i64 0] 44)).alloc (.cells #[.slice ao st.pend.length cap0] 78)
  have b2 := (Boxed.new ((w.alloc (.cells #[.int .i64 (s : Int)] 3)).alloc (.cells #[.string ⟨#[]⟩] 9)) 44 (.int .i64 0)).alloc (.cells #[.slice ao st.pend.length cap0] 78)
  have b3 := Boxed.new (((w.alloc (.cells #[.int .i64 (s : Int)] 3)).alloc (.cells #[.string ⟨#[]⟩] 9)).alloc (.cells #[.int .i64 0] 44)) 78 (.slice ao st.pend.length cap0)
  simp only [World.size_alloc] at b1 b2 b3
  obtain ⟨W0, hW0⟩ : ∃ W0, (((w.alloc (.cells #[.int .i64 (s : Int)] 3)).alloc (.cells #[.string ⟨#[]⟩] 9)).alloc (.cells #[.int .i64 0] 44)).alloc (.cells #[.slice ao st.pend.length cap0] 78) = W0 := ⟨_, rfl⟩
  rw [hW0] at hsz hbl b0 b1 b2 b3 ⊢
  clear hW0 a5 a2 HB
  have hP : PRow W0.heap.size W0 (.slice ao st.pend.length cap0) st.pend := by
    rcases h.prow.below hbl with e | ⟨g, cap, e, hg, hc⟩
    · exact .inl e
    · exact .inr ⟨g, cap, e, by omega, hc⟩
  have hreach := h.wf.room
  refine wpIn_rangeFunc_ownH rfl (by omega) (gf := 84) (lb := #[.pointer (some ⟨w.heap.size + 1 + 1 + 1, 0, none⟩)]) rfl trivial (enters_of Tryz.func84 (by kernel_rfl) rfl)
    (backward_stops Fence.wide 3 trivial rfl (by omega) (w.heap.size + 1 + 1 + 1) W0.heap.size _ st.pend hreach W0 (by omega) (Nat.le_refl _) b3.cell hP) belowK_t (belowK_b (Nat.le_refl _)) (Below.refl _ _) (fun _ => rfl)
    (fun pre W => (∀ x ∈ pre, x.2.1 ≠ s) ∧ Below W0.heap.size W0 W)
    (fun c pre W => (c = .ret ∧ ∃ ini x, pre = ini ++ [x] ∧ (∀ y ∈ ini, y.2.1 ≠ s) ∧ x.2.1 = s ∧ Boxed W (w.heap.size + 1) 9 (.string x.2.2) ∧ Boxed W (w.heap.size + 1 + 1) 44 (.int .i64 0)) ∧ Below w.heap.size w W)
    (OwnFrom.and (ownFrom_pure _ _) (ownFrom_below (Nat.le_refl _) (Nat.le_refl _)))
    (fun c => OwnFrom.and (Own.from (fun s' A B row hs hg hr => by
      obtain ⟨hc, ini, x, e1, e2, e3, e4, e5⟩ := hs
      exact ⟨hc, ini, x, e1, e2, e3, boxed_own _ _ (fun (_ : Unit) => _) () A B row e4 hg hr, boxed_own _ _ (fun (_ : Unit) => _) () A B row e5 hg hr⟩) _) (ownFrom_below (Nat.le_refl _) (by omega)))
    ⟨by simp, Below.refl _ _⟩
    (fun x a' W => ∃ Bx, W0.heap.size ≤ Bx ∧ Blk W Bx 102 #[.int .i64 (x.2.1 : Int), .string x.2.2] ∧ a' = { tmps := #[.pointer (some ⟨vb, 0, none⟩), .int .i64 (s : Int), undef, .pointer (some ⟨w.heap.size, 0, none⟩), .pointer (some ⟨w.heap.size + 1, 0, none⟩), .pointer (some ⟨w.heap.size + 1 + 1, 0, none⟩), undef, .pointer (some ⟨Bx, 0, none⟩), .bool false, .pointer (some ⟨vb, 0, none⟩), .bool false, .bool false, .pointer (some ⟨vb, 0, none⟩), .pointer (some ⟨vb, 0, none⟩), .pointer (some ⟨vb, 5, none⟩), .bool false, .bool false, .pointer (some ⟨vb, 0, none⟩), .int .i64 (s : Int), .bool true, .bool false, .pointer (some ⟨vb, 0, none⟩), .pointer (some ⟨vb, 0, none⟩), .pointer (some ⟨vb, 2, none⟩), .slice ao st.pend.length cap0, .func (.func 84) #[] #[.pointer (some ⟨w.heap.size + 1 + 1 + 1, 0, none⟩)], .int .i64 x.1, .agg #[.int .i64 (x.2.1 : Int), .string x.2.2], undef, undef, undef, undef, undef, undef, undef, undef, undef], defers := [] })
    (fun x a' _ X Y row hs hg hr => by
      obtain ⟨Bx, h1, h2, h3⟩ := hs
      exact ⟨Bx, h1, h2.grown hg (fun e => by obtain ⟨_, o, ho, hc⟩ := hr _ e.symm; rw [show X.heap[Bx]? = _ from h2] at ho; cases ho; cases hc), h3⟩)
    ?assign ?body ?done ?stop
  case assign =>
    rintro l pre x W K ⟨hne, hB⟩ hK
    simp only [encW]
    gi_wp2
    exact hK _ _ ((KeepsOthers.alloc _ _).from _) ((Below.refl _ W).alloc hB.size _) ⟨hne, hB.alloc hB.size _⟩ ⟨W.heap.size, hB.size, Blk.new W _ _, rfl⟩
  case body =>
    rintro l pre x a' W hl _ ⟨hne, hB⟩ ⟨Bx, hBx, bX, rfl⟩ hlt
    have x0 := bX.cell 0
    have x1 := bX.cell 1
    simp at x0 x1
    have y0 := (hB.cell (p := ⟨w.heap.size, 0, none⟩) b0.lt).trans b0.cell
    have y1 : Boxed W (w.heap.size + 1) _ _ := (hB.block _ b1.lt).trans b1
    have y2 : Boxed W (w.heap.size + 1 + 1) _ _ := (hB.block _ b2.lt).trans b2
    have c1 := y1.cell
    have f1 := y1.frozen
    have c2 := y2.cell
    have f2 := y2.frozen
    by_cases hx : x.2.1 = s
    · have ex : ((x.2.1 : Int) == (s : Int)) = true := by rw [hx]; simp
      have z2 := (y2.other (B' := w.heap.size + 1) (by omega) (.string x.2.2))
      have zc := z2.cell
      have zf := z2.frozen
      gi_wp2
      refine ⟨((KeepsOthers.setCell _ _ _).trans (KeepsOthers.setCell _ _ _)).from _, ⟨rfl, pre, x, rfl, hne, hx, ?_, z2.set _⟩, ?_⟩
      · exact (y1.set _).other (by omega) _
      · exact ((hbl.trans (hB.mono (by omega))).setCell (p := ⟨w.heap.size + 1, 0, none⟩) (by simp) _).setCell (p := ⟨w.heap.size + 1 + 1, 0, none⟩) (by simp; omega) _
    · have ex : ((x.2.1 : Int) == (s : Int)) = false := by rw [beq_eq_false_iff_ne]; omega
      gi_wp2
      exact ⟨KeepsFrom.refl _ _, Below.refl _ _, fun y hy => (List.mem_append.1 hy).elim (hne y) (fun e => by simp at e; subst e; exact hx), hB⟩
  case done =>
    rintro D ys W hD rfl ⟨hne, hB⟩ hK
    have hcon : st.content s = st.at_ s := by unfold VS.content; rw [last_none hne]; rfl
    have HCON := Lib.hid hcon
    have y0 := (hB.cell (p := ⟨w.heap.size, 0, none⟩) b0.lt).trans b0.cell
    have y1 : Boxed W (w.heap.size + 1) _ _ := (hB.block _ b1.lt).trans b1
    have y2 : Boxed W (w.heap.size + 1 + 1) _ _ := (hB.block _ b2.lt).trans b2
    have hBW := hbl.trans (hB.mono (by omega))
    have hV := h.below hBW
    have hDl := (Array.getElem?_eq_some_iff.1 hK).1
    clear hcon hne
    gi_wp2_with ((refine ⟨trivial, ?_⟩; gi_at_call 55; refine (callsIn_wide.2 (stable_any s hV hs)).mono ?_; rintro e w1 ⟨rfl, hb⟩; have z1 : Boxed w1 (w.heap.size + 1) _ _ := (hb.block _ y1.lt).trans y1; have z2 : Boxed w1 (w.heap.size + 1 + 1) _ _ := (hb.block _ y2.lt).trans y2; have z3 := z2.other (B' := w.heap.size + 1) (by omega) (.string (st.at_ s)); have c1 := z1.cell; have f1 := z1.frozen; have c3 := z3.cell; have f3 := z3.frozen))
    have hK1 : w1.heap[D]? = some (.deferred (some [])) := (hb.block _ hDl).trans hK
    have hK2 := ((KeepsOthers.setCell w1 ⟨w.heap.size + 1, 0, none⟩ (.string (st.at_ s))).trans (KeepsOthers.setCell _ ⟨w.heap.size + 1 + 1, 0, none⟩ (.int .i64 0))).same D _ hK1 rfl
    have r1 := (z1.set (.string (st.at_ s))).other (B' := w.heap.size + 1 + 1) (by omega) (.int .i64 0)
    have r2 := z3.set (.int .i64 0)
    have e1 := (r1.kept (grownBy_putObj' _ D (.deferred none)) (fun e => by cases e; rw [show _ = _ from r1] at hK2; cases hK2)).cell
    have e2 := (r2.kept (grownBy_putObj' _ D (.deferred none)) (fun e => by cases e; rw [show _ = _ from r2] at hK2; cases hK2)).cell
    refine ⟨by simp, .inl ⟨_, _, rfl, run_takeDeferred hK2, ?_⟩⟩
    refine ⟨.tuple #[.string (st.at_ s), .int .i64 0], ?_, by rw [HCON.out], ?_⟩
    · simp [results, Tryz.f37, go_sem, e1, e2]
    · have hB1 : Below w.heap.size w w1 := hBW.trans (hb.mono hBW.size)
      have hB2 := (hB1.setCell (p := ⟨w.heap.size + 1, 0, none⟩) (by simp) (.string (st.at_ s))).setCell (p := ⟨w.heap.size + 1 + 1, 0, none⟩) (by simp; omega) (.int .i64 0)
      exact hB2.trans (belowK_b (w := w) (Nat.le_refl _) _ D _ _ (by omega) hK2 rfl rfl)
  case stop =>
    rintro D c pre W hD hpre ⟨⟨rfl, ini, x, rfl, hne, hx, y1, y2⟩, hB⟩ hK
    have hcon : st.content s = x.2.2 := by unfold VS.content; rw [last_some hpre hne hx]; rfl
    have HCON := Lib.hid hcon
    clear hcon hne hpre
    gi_wp2
    have e1 := (y1.kept (grownBy_putObj' _ D (.deferred none)) (fun e => by cases e; rw [show _ = _ from y1] at hK; cases hK)).cell
    have e2 := (y2.kept (grownBy_putObj' _ D (.deferred none)) (fun e => by cases e; rw [show _ = _ from y2] at hK; cases hK)).cell
    refine ⟨by simp, .inl ⟨_, _, rfl, run_takeDeferred hK, ?_⟩⟩
    refine ⟨.tuple #[.string x.2.2, .int .i64 0], ?_, by rw [HCON.out], ?_⟩
    · simp [results, Tryz.f37, go_sem, e1, e2]
    · exact hB.trans (belowK_b (w := w) (Nat.le_refl _) _ D _ _ (by omega) hK rfl rfl)
end Go.Proofs.YtfdnpchbbngpjaaGreat
