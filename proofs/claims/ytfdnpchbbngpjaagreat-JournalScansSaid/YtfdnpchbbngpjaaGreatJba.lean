/- A record is appended to the book. -/
import Derived.Test.YtfdnpchbbngpjaaGreatJbk
import Derived.Test.YtfdnpchbbngpjaaGreatJtk
import Derived.Deep.AppendLies
namespace Go.Proofs.YtfdnpchbbngpjaaGreat
attribute [local go_sem ↓] Go.wp_at_zero Go.wp_at_succ
open Go.RowKit Go.Maps

theorem own_own_ne' {w : World} {base base' : Nat} {e e' : TypeId} {size size' n n' : Nat} {v v' : Value} {xs xs' : List Value} (h : w.ownsRow base e size v n xs) (h' : w.ownsRow base' e' size' v' n' xs') (hne : e ≠ e') {g : Nat} (hg : v.ownBlock = some g) : v'.ownBlock ≠ some g := by
  rcases h.2 with ⟨rfl, _⟩ | ⟨g', cap, cur, rfl, _, hh, _⟩
  · simp [Value.ownBlock] at hg
  · have : g' = g := by simpa [Value.ownBlock] using hg
    subst this
    exact own_blk_ne h' (show Blk w g' e cur from hh) (Ne.symm hne)
theorem brec_info : (Tryz.prog.info? 82).map (fun i => (i.zero, i.size, i.bytes)) = some (some (.agg #[.string ⟨#[]⟩, .int .i64 0, .bool false]), 3, 32) := by kernel_rfl
theorem bcells_snoc {c : Nat} {l : List Rc} (h : c ≤ l.length) (r : Rc) : bcells c (l ++ [r]) = bcells c l ++ [.string r.2, .int .i64 (r.1 : Int), .bool false] := by
  induction l generalizing c with
  | nil =>
    simp at h
    subst h
    rfl
  | cons q t ih =>
    simp only [List.length_cons] at h
    simp only [List.cons_append, bcells]
    rw [ih (by omega)]
def BS.push (B : BS) (d : ByteArray) : BS := { B with s := { B.s with recs := B.s.recs ++ [(B.s.next, d)] } }
theorem Bk.pushed {w w1 w2 : World} {bb g0 g1 ga c0 c1 ca : Nat} {vr : Value} {B : BS} (h : Bk w bb g0 g1 ga c0 c1 ca vr B) (hc : B.s.comm ≤ B.s.recs.length) (d : ByteArray) (hb : Below w.heap.size w w1) (hg : w1.grownBy w2 vr.ownBlock) {g cap : Nat}
    (hown : w2.ownsRow 0 82 3 (.slice (some ⟨g, 0, none⟩) (B.s.recs.length + 1) cap) (B.s.recs.length + 1) (bcells B.s.comm B.s.recs ++ [.string d, .int .i64 (B.s.next : Int), .bool false])) (hat : vr.ownBlock = some g ∨ w.heap.size ≤ g) :
    Bk (w2.setCell ⟨bb, 6, none⟩ (.slice (some ⟨g, 0, none⟩) (B.s.recs.length + 1) cap)) bb g0 g1 ga c0 c1 ca (.slice (some ⟨g, 0, none⟩) (B.s.recs.length + 1) cap) (B.push d) ∧
      Turn (bfoot bb g0 g1 ga vr) w (w2.setCell ⟨bb, 6, none⟩ (.slice (some ⟨g, 0, none⟩) (B.s.recs.length + 1) cap)) ∧ ∀ i, i ∈ bfoot bb g0 g1 ga (.slice (some ⟨g, 0, none⟩) (B.s.recs.length + 1) cap) → i ∈ bfoot bb g0 g1 ga vr ∨ w.heap.size ≤ i := by
  have t1 : Turn vr.ownBlock.toList w w2 := (Turn.ofBelow hb (Nat.le_refl _)).grown hg (fun x hx => .inl (by simp [hx]))
  have hrn : bb ∉ vr.ownBlock.toList := fun hi => h.rs_ne (by simpa using hi)
  have hblk := h.blk.turn t1 hrn
  have hu8 : ∀ {x : Nat} {l : List UInt8}, H256 w x l → x ∉ vr.ownBlock.toList := by
    intro x l hx hi
    rcases h.rs.2 with ⟨e, _⟩ | ⟨g', cap', cur, e, _, hh, _⟩
    · rw [e] at hi; simp [Value.ownBlock] at hi
    · rw [e] at hi
      have : x = g' := by simpa [Value.ownBlock] using hi
      subst this
      exact hx.ne (show Blk w x _ cur from hh) (by decide) rfl
  have har : ga ∉ vr.ownBlock.toList := by
    intro hi
    have := own_own_ne' h.ar h.rs (by decide) (g := ga) rfl
    exact this (by simpa using hi)
  have hgb : g ≠ bb := by
    have := own_blk_ne hown hblk (by decide)
    intro e; apply this; simp [Value.ownBlock, e]
  have ts : Turn [bb] w2 (w2.setCell ⟨bb, 6, none⟩ (.slice (some ⟨g, 0, none⟩) (B.s.recs.length + 1) cap)) := (Turn.refl _ w2).setCell (p := ⟨bb, 6, none⟩) (.inl (by simp)) _
  have hb0 : g0 ≠ bb := h.h0.ne h.blk (by decide)
  have hb1 : g1 ≠ bb := h.h1.ne h.blk (by decide)
  refine ⟨⟨hblk.set_ 6 _, (h.h0.turn t1 (hu8 h.h0)).turn ts (by simpa using hb0), (h.h1.turn t1 (hu8 h.h1)).turn ts (by simpa using hb1), h.k0, h.k1, row_turn (row_turn h.ar t1 (fun x hx => by
      have : x = ga := by simpa [Value.ownBlock] using hx.symm
      subst this; exact har)) ts (fun x hx => by
      have : x = ga := by simpa [Value.ownBlock] using hx.symm
      subst this; simpa using h.ar_ne), ?_, h.n0, h.n1⟩, ?_, ?_⟩
  · show World.ownsRow _ 0 _ 3 _ (B.s.recs ++ [(B.s.next, d)]).length (bcells B.s.comm (B.s.recs ++ [(B.s.next, d)]))
    rw [List.length_append, bcells_snoc hc]
    exact row_turn hown ts (fun x hx => by
      have : x = g := by simpa [Value.ownBlock] using hx.symm
      subst this; simpa using hgb)
  · refine (t1.mono (fun i hi => ?_)).setCell (p := ⟨bb, 6, none⟩) (.inl (by simp [bfoot])) _
    simp at hi
    simp [bfoot, hi]
  · intro i hi
    unfold bfoot at hi ⊢
    simp [Value.ownBlock] at hi ⊢
    rcases hi with rfl | rfl | rfl | rfl | rfl
    · exact .inl (.inl rfl)
    · exact .inl (.inr (.inl rfl))
    · exact .inl (.inr (.inr (.inl rfl)))
    · exact .inl (.inr (.inr (.inr (.inl rfl))))
    · rcases hat with e | e
      · exact .inl (.inr (.inr (.inr (.inr e))))
      · exact .inr e
set_option maxRecDepth 100000 in
set_option maxHeartbeats 4000000 in
theorem bappend_any (d : ByteArray) {w : World} {bb : Nat} {B : BS} {G : List Nat} (h : BkF w bb B G) (hc : B.s.comm ≤ B.s.recs.length) (hlen : B.s.recs.length ≤ 1048575) (hch : ∀ r, r ∈ B.s.recs → r.1 + 16 + r.2.size ≤ 1125899906842624) (hA : B.area.length ≤ 1048576) (hb1 : B.s.beg ≤ 1125899906842624) (hb2 : B.s.next ≤ 1125899906842624) (hf : B.s.first ≤ 1048576) :
    Calls Tryz.prog 25 #[.pointer (some ⟨bb, 0, none⟩), .string d] w fun e w' => e = .returned (.tuple #[.int .i64 (B.append d).1, .int .i64 ((B.append d).2.1 : Int)]) ∧ BStep G w w' bb (B.append d).2.2 := by
  obtain ⟨g0, g1, ga, c0, c1, ca, vr, h, rfl⟩ := h
  have low : ∀ w', Below w.heap.size w w' → BStep (bfoot bb g0 g1 ga vr) w w' bb B := fun w' hb => ⟨_, ⟨_, _, _, _, _, _, _, h.below hb, rfl⟩, Turn.ofBelow hb (Nat.le_refl _), fun i hi => .inl hi⟩
  have HFR := Lib.hid (bfree_any h (by omega) hch hA hb1 hb2)
  by_cases h1 : 65536 < d.size
  · have e : B.append d = (0, 10, B) := by unfold BS.append JS.append; rw [if_pos h1]
    rw [e]
    have HSJ := Lib.hid (low _ (Below.refl _ w))
    have d1 : decide (65536 < (d.size : Int)) = true := by simp; omega
    clear h e low HFR
    go_enter Tryz.func25, Tryz.ntmps25
    go_wp2
    go_ret2
    exact ⟨rfl, HSJ.out⟩
  · have d1 : decide (65536 < (d.size : Int)) = false := by simp; omega
    obtain ⟨f, hf0⟩ : ∃ f, B.s.free B.area.length = f := ⟨_, rfl⟩
    rw [hf0] at HFR
    by_cases h2 : f < (d.size : Int)
    · have e : B.append d = (0, 37, B) := by unfold BS.append JS.append; rw [if_neg h1, hf0, if_pos h2]
      rw [e]
      have HSJ := Lib.hid low
      have d2 : decide (f < (d.size : Int)) = true := by simpa using h2
      clear h e low
      go_enter Tryz.func25, Tryz.ntmps25
      go_wp2_with ((go_at_call 27; refine HFR.out.mono ?_; rintro e w1 ⟨rfl, hb1⟩))
      go_ret2
      exact ⟨rfl, HSJ.out _ hb1⟩
    · have e : B.append d = ((B.s.first : Int) + B.s.recs.length, 0, B.push d) := by unfold BS.append JS.append; rw [if_neg h1, hf0, if_neg h2]; rfl
      rw [e]
      have d2 : decide (f < (d.size : Int)) = false := by simpa using h2
      obtain ⟨n, hn⟩ : ∃ n, B.s.recs.length = n := ⟨_, rfl⟩
      obtain ⟨ao, cap0, hvr⟩ := brow_shape h.rs
      subst hvr
      rw [hn]
      have HB := Lib.hid h
      have HNX := Lib.hid (fun (w' : World) (hb : Below w.heap.size w w') => bnext_any (h.below hb) (by omega) hch)
      obtain ⟨i0, hi0, hz0, hz1, hz2⟩ := info_parts brec_info
      clear h e hf0 low
      go_enter Tryz.func25, Tryz.ntmps25
      go_wp2_with ((go_at_call 27; refine HFR.out.mono ?_; rintro e w1 ⟨rfl, hb1⟩))
      have hw1 := HB.out.below hb1
      have c6 : w1.cell? ⟨bb, 6, none⟩ = some (.slice ao n cap0) := by rw [← hn]; exact hw1.blk.cell 6
      have lb1 := hw1.blk.lt
      have HB' := Lib.hid (fun (w4 w5 : World) (g cap : Nat) (hb : Below w.heap.size w w4) (hg : (w4.alloc (.cells #[.string d, .int .i64 (B.s.next : Int), .bool false] 82)).grownBy w5 (Value.slice ao n cap0).ownBlock)
        (hown : w5.ownsRow 0 82 3 (.slice (some ⟨g, 0, none⟩) (n + 1) cap) (n + 1) (bcells B.s.comm B.s.recs ++ [.string d, .int .i64 (B.s.next : Int), .bool false])) (hat : (Value.slice ao n cap0).ownBlock = some g ∨ w.heap.size ≤ g) => by
          have h' := HB.out
          rw [hn] at h'
          have := h'.pushed hc d (hb.alloc hb.size _) hg (g := g) (cap := cap) (by rw [hn]; exact hown) hat
          rw [hn] at this
          exact this)
      clear hw1
      refine startH (S := fun _ => True) 14 (by kernel_rfl) (by kernel_rfl) trivial (fun hHeld => ?_)
      simp only [List.replicate_succ, List.replicate_zero]
      refine takeH (i := 0) (v := .pointer (some ⟨bb, 0, none⟩)) rfl rfl (by kernel_rfl) (by kernel_rfl) (by kernel_rfl) (fun _ _ _ h => h) (Or.inl ⟨rfl, fun _ _ => rfl⟩) hHeld ?_
      simp only [List.set_cons_zero, List.set_cons_succ]
      refine takeH (i := 1) (v := .pointer (some ⟨bb, 0, none⟩)) rfl rfl (by kernel_rfl) (by kernel_rfl) (by kernel_rfl) (fun _ _ _ h => h) (Or.inl ⟨rfl, fun _ _ => rfl⟩) hHeld ?_
      simp only [List.set_cons_zero, List.set_cons_succ]
      refine takeH (i := 2) (v := .pointer (some ⟨bb, 0, none⟩)) rfl rfl (by kernel_rfl) (by kernel_rfl) (by kernel_rfl) (fun _ _ _ h => h) (Or.inl ⟨rfl, by intro w' _; generalize hE : Act.eval _ = ρ; have e15 : ρ (.tmp 15) = .pointer (some ⟨bb, 0, none⟩) := (by rw [← hE]; rfl); clear hE; go_simp⟩) hHeld ?_
      simp only [List.set_cons_zero, List.set_cons_succ]
      refine takeH (i := 3) (v := .pointer (some ⟨bb, 6, none⟩)) rfl rfl (by kernel_rfl) (by kernel_rfl) (by kernel_rfl) (fun _ _ _ h => h) (Or.inl ⟨rfl, by intro w' _; generalize hE : Act.eval _ = ρ; have e16 : ρ (.tmp 16) = .pointer (some ⟨bb, 0, none⟩) := (by rw [← hE]; rfl); clear hE; go_simp⟩) hHeld ?_
      simp only [List.set_cons_zero, List.set_cons_succ]
      refine takeH (i := 5) (v := .string d) rfl rfl (by kernel_rfl) (by kernel_rfl) (by kernel_rfl) (fun _ _ _ h => h) (Or.inl ⟨rfl, fun _ _ => rfl⟩) hHeld ?_
      simp only [List.set_cons_zero, List.set_cons_succ]
      refine takeH (i := 6) (v := .pointer (some ⟨bb, 0, none⟩)) rfl rfl (by kernel_rfl) (by kernel_rfl) (by kernel_rfl) (fun _ _ _ h => h) (Or.inl ⟨rfl, fun _ _ => rfl⟩) hHeld ?_
      simp only [List.set_cons_zero, List.set_cons_succ]
      refine wpAnyH_ready (rs := [4, 7]) (by kernel_rfl) (by simp) ?_
      refine AllReadyH.cons (nthL_get rfl) (fun K hK => ?_) (AllReadyH.cons (nthL_get rfl) (fun K hK => ?_) AllReadyH.nil)
      · go_simp
        refine hK.out _ _ trivial (fun hHeld => ?_)
        clear hK K
        simp only [List.setIfInBounds_toArray, List.set_cons_zero, List.set_cons_succ]
        refine wpAnyH_ready (rs := [7]) (by kernel_rfl) (by simp) ?_
        refine AllReadyH.cons (nthL_get rfl) (fun K hK => ?_) AllReadyH.nil
        go_simp
        refine (HNX.out w1.drew hb1.drew).mono ?_
        rintro e w4 ⟨rfl, hb4⟩
        refine hK.out _ _ trivial (fun hHeld => ?_)
        clear hK K
        simp only [List.setIfInBounds_toArray, List.set_cons_zero, List.set_cons_succ]
        have hb14 : Below w1.heap.size w1 w4 := ((Below.refl _ w1).drew).trans hb4
        have k6 : w4.cell? ⟨bb, 6, none⟩ = some (.slice ao n cap0) := (hb14.cell (p := ⟨bb, 6, none⟩) lb1).trans c6
        have lb4 : bb < w4.heap.size := Nat.lt_of_lt_of_le lb1 hb14.size
        refine takeH (i := 8) (v := .agg #[.string d, .int .i64 (B.s.next : Int), .bool false]) rfl rfl (by kernel_rfl) (by kernel_rfl) (by kernel_rfl) (fun _ _ _ h => h) (Or.inl ⟨rfl, by intro w' _; generalize hE : Act.eval _ = ρ; have e19 : ρ (.tmp 19) = .string d := (by rw [← hE]; rfl); have e21 : ρ (.tmp 21) = .int .i64 (B.s.next : Int) := (by rw [← hE]; rfl); clear hE; go_simp⟩) hHeld ?_
        simp only [List.set_cons_zero, List.set_cons_succ]
        refine wpAnyH_ready (rs := [9]) (by kernel_rfl) (by simp) ?_
        refine AllReadyH.cons (nthL_get rfl) (fun K hK => ?_) AllReadyH.nil
        go_simp
        refine hK.out _ _ trivial (fun hHeld => ?_)
        clear hK K
        simp only [List.setIfInBounds_toArray, List.set_cons_zero, List.set_cons_succ]
        have ka6 : (w4.alloc (.cells #[.string d, .int .i64 (B.s.next : Int), .bool false] 82)).cell? ⟨bb, 6, none⟩ = some (.slice ao n cap0) := (((Below.refl _ w4).alloc (Nat.le_refl _) _).cell (p := ⟨bb, 6, none⟩) lb4).trans k6
        refine wpAnyH_ready (rs := [10]) (by kernel_rfl) (by simp) ?_
        refine AllReadyH.cons (nthL_get rfl) (fun K hK => ?_) AllReadyH.nil
        have h4 := HB.out.below (hb1.trans (hb14.mono hb1.size))
        rw [hn] at h4
        have hr4 := h4.rs
        rw [hn] at hr4
        refine step_append_lies _ (by rfl) _ _ _ (by rfl) 0 82 i0 _ 3 32 Tryz.underlying34 hi0 hz0 hz1 hz2 rfl (by omega) (.slice ao n cap0) n (bcells B.s.comm B.s.recs) (by rfl) (row_turn hr4 ((Turn.refl [] w4).alloc _) (fun _ _ => by simp)) ⟨w4.heap.size, 0, none⟩ 1 1 [.string d, .int .i64 (B.s.next : Int), .bool false] (by rfl) (by rfl) (World.news_of_block (cs := #[.string d, .int .i64 (B.s.next : Int), .bool false]) (t := 82) (fr := (0, 0)) (heap_alloc_new w4 _)) (by simp [Value.oneCell']) (by omega) (by unfold maxLen; omega) (by omega) (Nat.zero_le _) (w4.heap.size + 1) (by simp) ?_
        intro g cap w5 hown hg hat hlt
        refine hK.out _ _ trivial (fun hHeld => ?_)
        clear hK K
        simp only [List.setIfInBounds_toArray, List.set_cons_zero, List.set_cons_succ]
        refine takeH (i := 11) (v := .pointer (some ⟨bb, 0, none⟩)) rfl rfl (by kernel_rfl) (by kernel_rfl) (by kernel_rfl) (fun _ _ _ h => h) (Or.inl ⟨rfl, by intro w' _; generalize hE : Act.eval _ = ρ; have e14 : ρ (.tmp 14) = .pointer (some ⟨bb, 0, none⟩) := (by rw [← hE]; rfl); clear hE; go_simp⟩) hHeld ?_
        simp only [List.set_cons_zero, List.set_cons_succ]
        refine takeH (i := 12) (v := .pointer (some ⟨bb, 6, none⟩)) rfl rfl (by kernel_rfl) (by kernel_rfl) (by kernel_rfl) (fun _ _ _ h => h) (Or.inl ⟨rfl, by intro w' _; generalize hE : Act.eval _ = ρ; have e25 : ρ (.tmp 25) = .pointer (some ⟨bb, 0, none⟩) := (by rw [← hE]; rfl); clear hE; go_simp⟩) hHeld ?_
        simp only [List.set_cons_zero, List.set_cons_succ]
        have k56 := (hg.cell_far ⟨bb, 6, none⟩ (by simp; omega) (fun e => h4.rs_ne e.symm)).trans ka6
        have f56 := (hg.frozen_far ⟨bb, 6, none⟩ (by simp; omega) (fun e => h4.rs_ne e.symm)).trans ((h4.blk.alloc _).frozen 6)
        refine wpAnyH_ready (rs := [13]) (by kernel_rfl) (by simp) ?_
        refine AllReadyH.cons (nthL_get rfl) (fun K hK => ?_) AllReadyH.nil
        go_simp
        refine hK.out _ _ trivial (fun hHeld => ?_)
        clear hK K
        simp only [List.setIfInBounds_toArray, List.set_cons_zero, List.set_cons_succ]
        refine wpAnyH_done (by kernel_rfl) ?_ _
        obtain ⟨hP, hT, hf5⟩ := HB'.out w4 w5 g cap (hb1.trans (hb14.mono hb1.size)) hg hown (hat.imp id (fun e => by have := hb1.size; have := hb14.size; omega))
        have hls := blast_any hP (by show B.s.first ≤ _; omega) (by show (B.s.recs ++ [(B.s.next, d)]).length ≤ _; rw [List.length_append, hn]; simp; omega)
        have el : (B.push d).s.last = (B.s.first : Int) + (n : Int) := by unfold JS.last; show (B.s.first : Int) + ((B.s.recs ++ [(B.s.next, d)]).length : Int) - 1 = _; rw [List.length_append, hn]; simp; omega
        rw [el] at hls
        have HLS := Lib.hid hls
        have HP := Lib.hid (And.intro hP (And.intro hT hf5))
        clear hls hP hT hf5 hown hr4 h4 hg k56 f56 ka6 k6
        go_wp2_with ((go_at_call 45; refine HLS.out.mono ?_; rintro e w6 ⟨rfl, n6, rfl⟩))
        go_ret2
        exact ⟨rfl, _, ⟨_, _, _, _, _, _, _, HP.out.1.below (below_drewN (Below.refl _ _) _), rfl⟩, HP.out.2.1.drewN _, HP.out.2.2⟩
      · go_simp
        refine (HNX.out w1.drew hb1.drew).mono ?_
        rintro e w4 ⟨rfl, hb4⟩
        refine hK.out _ _ trivial (fun hHeld => ?_)
        clear hK K
        simp only [List.setIfInBounds_toArray, List.set_cons_zero, List.set_cons_succ]
        have hb14 : Below w1.heap.size w1 w4 := ((Below.refl _ w1).drew).trans hb4
        have k6 : w4.cell? ⟨bb, 6, none⟩ = some (.slice ao n cap0) := (hb14.cell (p := ⟨bb, 6, none⟩) lb1).trans c6
        have lb4 : bb < w4.heap.size := Nat.lt_of_lt_of_le lb1 hb14.size
        refine takeH (i := 8) (v := .agg #[.string d, .int .i64 (B.s.next : Int), .bool false]) rfl rfl (by kernel_rfl) (by kernel_rfl) (by kernel_rfl) (fun _ _ _ h => h) (Or.inl ⟨rfl, by intro w' _; generalize hE : Act.eval _ = ρ; have e19 : ρ (.tmp 19) = .string d := (by rw [← hE]; rfl); have e21 : ρ (.tmp 21) = .int .i64 (B.s.next : Int) := (by rw [← hE]; rfl); clear hE; go_simp⟩) hHeld ?_
        simp only [List.set_cons_zero, List.set_cons_succ]
        refine wpAnyH_ready (rs := [4, 9]) (by kernel_rfl) (by simp) ?_
        refine AllReadyH.cons (nthL_get rfl) (fun K hK => ?_) (AllReadyH.cons (nthL_get rfl) (fun K hK => ?_) AllReadyH.nil)
        · go_simp
          refine hK.out _ _ trivial (fun hHeld => ?_)
          clear hK K
          simp only [List.setIfInBounds_toArray, List.set_cons_zero, List.set_cons_succ]
          refine wpAnyH_ready (rs := [9]) (by kernel_rfl) (by simp) ?_
          refine AllReadyH.cons (nthL_get rfl) (fun K hK => ?_) AllReadyH.nil
          go_simp
          refine hK.out _ _ trivial (fun hHeld => ?_)
          clear hK K
          simp only [List.setIfInBounds_toArray, List.set_cons_zero, List.set_cons_succ]
          have ka6 : (w4.alloc (.cells #[.string d, .int .i64 (B.s.next : Int), .bool false] 82)).cell? ⟨bb, 6, none⟩ = some (.slice ao n cap0) := (((Below.refl _ w4).alloc (Nat.le_refl _) _).cell (p := ⟨bb, 6, none⟩) lb4).trans k6
          refine wpAnyH_ready (rs := [10]) (by kernel_rfl) (by simp) ?_
          refine AllReadyH.cons (nthL_get rfl) (fun K hK => ?_) AllReadyH.nil
          have h4 := HB.out.below (hb1.trans (hb14.mono hb1.size))
          rw [hn] at h4
          have hr4 := h4.rs
          rw [hn] at hr4
          refine step_append_lies _ (by rfl) _ _ _ (by rfl) 0 82 i0 _ 3 32 Tryz.underlying34 hi0 hz0 hz1 hz2 rfl (by omega) (.slice ao n cap0) n (bcells B.s.comm B.s.recs) (by rfl) (row_turn hr4 ((Turn.refl [] w4).alloc _) (fun _ _ => by simp)) ⟨w4.heap.size, 0, none⟩ 1 1 [.string d, .int .i64 (B.s.next : Int), .bool false] (by rfl) (by rfl) (World.news_of_block (cs := #[.string d, .int .i64 (B.s.next : Int), .bool false]) (t := 82) (fr := (0, 0)) (heap_alloc_new w4 _)) (by simp [Value.oneCell']) (by omega) (by unfold maxLen; omega) (by omega) (Nat.zero_le _) (w4.heap.size + 1) (by simp) ?_
          intro g cap w5 hown hg hat hlt
          refine hK.out _ _ trivial (fun hHeld => ?_)
          clear hK K
          simp only [List.setIfInBounds_toArray, List.set_cons_zero, List.set_cons_succ]
          refine takeH (i := 11) (v := .pointer (some ⟨bb, 0, none⟩)) rfl rfl (by kernel_rfl) (by kernel_rfl) (by kernel_rfl) (fun _ _ _ h => h) (Or.inl ⟨rfl, by intro w' _; generalize hE : Act.eval _ = ρ; have e14 : ρ (.tmp 14) = .pointer (some ⟨bb, 0, none⟩) := (by rw [← hE]; rfl); clear hE; go_simp⟩) hHeld ?_
          simp only [List.set_cons_zero, List.set_cons_succ]
          refine takeH (i := 12) (v := .pointer (some ⟨bb, 6, none⟩)) rfl rfl (by kernel_rfl) (by kernel_rfl) (by kernel_rfl) (fun _ _ _ h => h) (Or.inl ⟨rfl, by intro w' _; generalize hE : Act.eval _ = ρ; have e25 : ρ (.tmp 25) = .pointer (some ⟨bb, 0, none⟩) := (by rw [← hE]; rfl); clear hE; go_simp⟩) hHeld ?_
          simp only [List.set_cons_zero, List.set_cons_succ]
          have k56 := (hg.cell_far ⟨bb, 6, none⟩ (by simp; omega) (fun e => h4.rs_ne e.symm)).trans ka6
          have f56 := (hg.frozen_far ⟨bb, 6, none⟩ (by simp; omega) (fun e => h4.rs_ne e.symm)).trans ((h4.blk.alloc _).frozen 6)
          refine wpAnyH_ready (rs := [13]) (by kernel_rfl) (by simp) ?_
          refine AllReadyH.cons (nthL_get rfl) (fun K hK => ?_) AllReadyH.nil
          go_simp
          refine hK.out _ _ trivial (fun hHeld => ?_)
          clear hK K
          simp only [List.setIfInBounds_toArray, List.set_cons_zero, List.set_cons_succ]
          refine wpAnyH_done (by kernel_rfl) ?_ _
          obtain ⟨hP, hT, hf5⟩ := HB'.out w4 w5 g cap (hb1.trans (hb14.mono hb1.size)) hg hown (hat.imp id (fun e => by have := hb1.size; have := hb14.size; omega))
          have hls := blast_any hP (by show B.s.first ≤ _; omega) (by show (B.s.recs ++ [(B.s.next, d)]).length ≤ _; rw [List.length_append, hn]; simp; omega)
          have el : (B.push d).s.last = (B.s.first : Int) + (n : Int) := by unfold JS.last; show (B.s.first : Int) + ((B.s.recs ++ [(B.s.next, d)]).length : Int) - 1 = _; rw [List.length_append, hn]; simp; omega
          rw [el] at hls
          have HLS := Lib.hid hls
          have HP := Lib.hid (And.intro hP (And.intro hT hf5))
          clear hls hP hT hf5 hown hr4 h4 hg k56 f56 ka6 k6
          go_wp2_with ((go_at_call 45; refine HLS.out.mono ?_; rintro e w6 ⟨rfl, n6, rfl⟩))
          go_ret2
          exact ⟨rfl, _, ⟨_, _, _, _, _, _, _, HP.out.1.below (below_drewN (Below.refl _ _) _), rfl⟩, HP.out.2.1.drewN _, HP.out.2.2⟩
        · go_simp
          refine hK.out _ _ trivial (fun hHeld => ?_)
          clear hK K
          simp only [List.setIfInBounds_toArray, List.set_cons_zero, List.set_cons_succ]
          have ka6 : (w4.alloc (.cells #[.string d, .int .i64 (B.s.next : Int), .bool false] 82)).cell? ⟨bb, 6, none⟩ = some (.slice ao n cap0) := (((Below.refl _ w4).alloc (Nat.le_refl _) _).cell (p := ⟨bb, 6, none⟩) lb4).trans k6
          refine wpAnyH_ready (rs := [4]) (by kernel_rfl) (by simp) ?_
          refine AllReadyH.cons (nthL_get rfl) (fun K hK => ?_) AllReadyH.nil
          go_simp
          refine hK.out _ _ trivial (fun hHeld => ?_)
          clear hK K
          simp only [List.setIfInBounds_toArray, List.set_cons_zero, List.set_cons_succ]
          refine wpAnyH_ready (rs := [10]) (by kernel_rfl) (by simp) ?_
          refine AllReadyH.cons (nthL_get rfl) (fun K hK => ?_) AllReadyH.nil
          have h4 := HB.out.below (hb1.trans (hb14.mono hb1.size))
          rw [hn] at h4
          have hr4 := h4.rs
          rw [hn] at hr4
          refine step_append_lies _ (by rfl) _ _ _ (by rfl) 0 82 i0 _ 3 32 Tryz.underlying34 hi0 hz0 hz1 hz2 rfl (by omega) (.slice ao n cap0) n (bcells B.s.comm B.s.recs) (by rfl) (row_turn hr4 ((Turn.refl [] w4).alloc _) (fun _ _ => by simp)) ⟨w4.heap.size, 0, none⟩ 1 1 [.string d, .int .i64 (B.s.next : Int), .bool false] (by rfl) (by rfl) (World.news_of_block (cs := #[.string d, .int .i64 (B.s.next : Int), .bool false]) (t := 82) (fr := (0, 0)) (heap_alloc_new w4 _)) (by simp [Value.oneCell']) (by omega) (by unfold maxLen; omega) (by omega) (Nat.zero_le _) (w4.heap.size + 1) (by simp) ?_
          intro g cap w5 hown hg hat hlt
          refine hK.out _ _ trivial (fun hHeld => ?_)
          clear hK K
          simp only [List.setIfInBounds_toArray, List.set_cons_zero, List.set_cons_succ]
          refine takeH (i := 11) (v := .pointer (some ⟨bb, 0, none⟩)) rfl rfl (by kernel_rfl) (by kernel_rfl) (by kernel_rfl) (fun _ _ _ h => h) (Or.inl ⟨rfl, by intro w' _; generalize hE : Act.eval _ = ρ; have e14 : ρ (.tmp 14) = .pointer (some ⟨bb, 0, none⟩) := (by rw [← hE]; rfl); clear hE; go_simp⟩) hHeld ?_
          simp only [List.set_cons_zero, List.set_cons_succ]
          refine takeH (i := 12) (v := .pointer (some ⟨bb, 6, none⟩)) rfl rfl (by kernel_rfl) (by kernel_rfl) (by kernel_rfl) (fun _ _ _ h => h) (Or.inl ⟨rfl, by intro w' _; generalize hE : Act.eval _ = ρ; have e25 : ρ (.tmp 25) = .pointer (some ⟨bb, 0, none⟩) := (by rw [← hE]; rfl); clear hE; go_simp⟩) hHeld ?_
          simp only [List.set_cons_zero, List.set_cons_succ]
          have k56 := (hg.cell_far ⟨bb, 6, none⟩ (by simp; omega) (fun e => h4.rs_ne e.symm)).trans ka6
          have f56 := (hg.frozen_far ⟨bb, 6, none⟩ (by simp; omega) (fun e => h4.rs_ne e.symm)).trans ((h4.blk.alloc _).frozen 6)
          refine wpAnyH_ready (rs := [13]) (by kernel_rfl) (by simp) ?_
          refine AllReadyH.cons (nthL_get rfl) (fun K hK => ?_) AllReadyH.nil
          go_simp
          refine hK.out _ _ trivial (fun hHeld => ?_)
          clear hK K
          simp only [List.setIfInBounds_toArray, List.set_cons_zero, List.set_cons_succ]
          refine wpAnyH_done (by kernel_rfl) ?_ _
          obtain ⟨hP, hT, hf5⟩ := HB'.out w4 w5 g cap (hb1.trans (hb14.mono hb1.size)) hg hown (hat.imp id (fun e => by have := hb1.size; have := hb14.size; omega))
          have hls := blast_any hP (by show B.s.first ≤ _; omega) (by show (B.s.recs ++ [(B.s.next, d)]).length ≤ _; rw [List.length_append, hn]; simp; omega)
          have el : (B.push d).s.last = (B.s.first : Int) + (n : Int) := by unfold JS.last; show (B.s.first : Int) + ((B.s.recs ++ [(B.s.next, d)]).length : Int) - 1 = _; rw [List.length_append, hn]; simp; omega
          rw [el] at hls
          have HLS := Lib.hid hls
          have HP := Lib.hid (And.intro hP (And.intro hT hf5))
          clear hls hP hT hf5 hown hr4 h4 hg k56 f56 ka6 k6
          go_wp2_with ((go_at_call 45; refine HLS.out.mono ?_; rintro e w6 ⟨rfl, n6, rfl⟩))
          go_ret2
          exact ⟨rfl, _, ⟨_, _, _, _, _, _, _, HP.out.1.below (below_drewN (Below.refl _ _) _), rfl⟩, HP.out.2.1.drewN _, HP.out.2.2⟩
end Go.Proofs.YtfdnpchbbngpjaaGreat
