/- The model's disk in memory; its fails and write. -/
import Derived.Test.YtfhcecfddejcdaaVlsu
namespace Go.Proofs.Ytfhcecfddejcdaa
open Go.RowKit Go.Maps

def limI (o : Option Nat) : Int := match o with | none => -1 | some k => (k : Int)
def strs (ds : List ByteArray) : List Value := ds.map Value.string
structure Dsk (w : World) (db : Nat) (st : VS) (dv pv : Value) : Prop where
  blk : Blk w db 85 #[dv, pv, .int .i64 (limI st.lim), .bool st.down]
  drow : w.ownsRow 0 9 1 dv st.dur.length (strs st.dur)
  row : w.ownsRow 0 87 2 pv st.pend.length (pcells st.pend)
  wf : st.wf
def dfoot (db : Nat) (dv pv : Value) : List Nat := db :: (dv.ownBlock.toList ++ pv.ownBlock.toList)
def DskF (w : World) (db : Nat) (st : VS) (F : List Nat) : Prop := ∃ dv pv, Dsk w db st dv pv ∧ F = dfoot db dv pv
def DStep (F : List Nat) (w w' : World) (db : Nat) (st : VS) : Prop := ∃ F', DskF w' db st F' ∧ Turn F w w' ∧ ∀ i, i ∈ F' → i ∈ F ∨ w.heap.size ≤ i

theorem own_own_ne {w : World} {base base' : Nat} {e e' : TypeId} {size size' n n' : Nat} {v v' : Value} {xs xs' : List Value} (h : w.ownsRow base e size v n xs) (h' : w.ownsRow base' e' size' v' n' xs') (hne : e ≠ e') {g : Nat} (hg : v.ownBlock = some g) : v'.ownBlock ≠ some g := by
  rcases h.2 with ⟨rfl, _⟩ | ⟨g', cap, cur, rfl, _, hh, _⟩
  · simp [Value.ownBlock] at hg
  · have : g' = g := by simpa [Value.ownBlock] using hg
    subst this
    exact own_blk_ne h' (show Blk w g' e cur from hh) (Ne.symm hne)

section
variable {w w' : World} {db : Nat} {st : VS} {dv pv : Value} {F G : List Nat}
theorem Dsk.dv_ne (h : Dsk w db st dv pv) : dv.ownBlock ≠ some db := own_blk_ne h.drow h.blk (by decide)
theorem Dsk.pv_ne (h : Dsk w db st dv pv) : pv.ownBlock ≠ some db := own_blk_ne h.row h.blk (by decide)
theorem Dsk.dp_ne (h : Dsk w db st dv pv) {g : Nat} (hg : dv.ownBlock = some g) : pv.ownBlock ≠ some g := own_own_ne h.drow h.row (by decide) hg
theorem Dsk.lt (h : Dsk w db st dv pv) : ∀ i, i ∈ dfoot db dv pv → i < w.heap.size := by
  intro i hi
  unfold dfoot at hi
  rcases List.mem_cons.1 hi with rfl | hi
  · exact h.blk.lt
  · rcases List.mem_append.1 hi with hi | hi
    · exact (h.drow.lt i (by simpa using hi)).2
    · exact (h.row.lt i (by simpa using hi)).2
theorem Dsk.turn (h : Dsk w db st dv pv) (ht : Turn G w w') (hn : ∀ i, i ∈ dfoot db dv pv → i ∉ G) : Dsk w' db st dv pv :=
  ⟨h.blk.turn ht (hn _ (by simp [dfoot])), row_turn h.drow ht (fun g hg => hn g (by simp [dfoot, hg])), row_turn h.row ht (fun g hg => hn g (by simp [dfoot, hg])), h.wf⟩
theorem DskF.lt (h : DskF w db st F) : ∀ i, i ∈ F → i < w.heap.size := by
  obtain ⟨dv, pv, h, rfl⟩ := h; exact h.lt
theorem DskF.turn (h : DskF w db st F) (ht : Turn G w w') (hn : ∀ i, i ∈ F → i ∉ G) : DskF w' db st F := by
  obtain ⟨dv, pv, h, rfl⟩ := h; exact ⟨dv, pv, h.turn ht hn, rfl⟩
theorem Dsk.below (h : Dsk w db st dv pv) (hb : Below w.heap.size w w') : Dsk w' db st dv pv := h.turn (G := []) (Turn.ofBelow hb (Nat.le_refl _)) (fun _ _ => by simp)
theorem DskF.below (h : DskF w db st F) (hb : Below w.heap.size w w') : DskF w' db st F := h.turn (G := []) (Turn.ofBelow hb (Nat.le_refl _)) (fun _ _ => by simp)
theorem Dsk.foot_db : db ∈ dfoot db dv pv := by simp [dfoot]
theorem Dsk.store (h : Dsk w db st dv pv) (i : Nat) (u : Value) {st' : VS} (hd : st'.dur = st.dur) (hp : st'.pend = st.pend) (hw : st'.wf)
    (hc : (#[dv, pv, .int .i64 (limI st.lim), .bool st.down] : Array Value).setIfInBounds i u = #[dv, pv, .int .i64 (limI st'.lim), .bool st'.down]) :
    Dsk (w.setCell ⟨db, i, none⟩ u) db st' dv pv := by
  have t : Turn [db] w (w.setCell ⟨db, i, none⟩ u) := (Turn.refl _ w).setCell (.inl (by simp)) u
  refine ⟨?_, ?_, ?_, hw⟩
  · rw [← hc]; exact h.blk.set_ i u
  · rw [hd]; exact row_turn h.drow t (fun g hg => by
      have := h.dv_ne
      simp
      rintro rfl
      exact this hg)
  · rw [hp]; exact row_turn h.row t (fun g hg => by
      have := h.pv_ne
      simp
      rintro rfl
      exact this hg)
end

theorem dfails_any {w : World} {db : Nat} {st : VS} {dv pv : Value} (h : Dsk w db st dv pv) :
    Calls Try.prog 57 #[.pointer (some ⟨db, 0, none⟩)] w fun e w' => e = .returned (.bool st.tick.1) ∧ Dsk w' db st.tick.2 dv pv ∧ Turn [db] w w' := by
  have c2 := h.blk.cell 2
  have c3 := h.blk.cell 3
  have f2 := h.blk.frozen 2
  have f3 := h.blk.frozen 3
  have hwt := h.wf.tick
  have hl := h.wf.lim
  simp at c2 c3
  obtain ⟨ds, ps, lim, down⟩ := st
  cases lim with
  | none =>
    simp [limI] at c2
    go_enter Try.func57, Try.ntmps57
    go_wp2
    go_ret
    exact ⟨rfl, h, Turn.refl _ _⟩
  | some n =>
    have hl := hl n rfl
    simp [limI] at c2
    cases n with
    | zero =>
      simp at c2
      have hs := h.store 3 (.bool true) (st' := ⟨ds, ps, some 0, true⟩) rfl rfl hwt rfl
      have ht : Turn [db] w (w.setCell ⟨db, 3, none⟩ (.bool true)) := (Turn.refl _ w).setCell (.inl (by simp)) _
      have HS := Lib.hid hs
      clear hs h
      go_enter Try.func57, Try.ntmps57
      go_wp2
      go_ret
      exact ⟨rfl, HS.out, ht⟩
    | succ k =>
      have e0 : ((k : Int) + 1 == 0) = false := by rw [beq_eq_false_iff_ne]; omega
      have hs := h.store 2 (.int .i64 (k : Int)) (st' := ⟨ds, ps, some k, down⟩) rfl rfl hwt rfl
      have ht : Turn [db] w (w.setCell ⟨db, 2, none⟩ (.int .i64 (k : Int))) := (Turn.refl _ w).setCell (.inl (by simp)) _
      have HS := Lib.hid hs
      clear hs h
      go_enter Try.func57, Try.ntmps57
      go_wp2
      go_ret
      exact ⟨rfl, HS.out, ht⟩

theorem dwrite_info : (Try.prog.info? 87).map (fun i => (i.zero, i.size, i.bytes)) = some (some (.agg #[.int .i64 0, .string ⟨#[]⟩]), 2, 24) := by kernel_rfl

theorem Dsk.pushed {w w1 w2 : World} {db : Nat} {st : VS} {dv pv : Value} (h : Dsk w db st dv pv) {s : Nat} {d : ByteArray} (hs : s < st.dur.length) (hd : d.size = 256) (hr : st.pend.length < 4096) (hb : Below w.heap.size w w1)
    (hg : w1.grownBy w2 pv.ownBlock) {g cap : Nat} (hown : w2.ownsRow 0 87 2 (.slice (some ⟨g, 0, none⟩) (st.pend.length + 1) cap) (st.pend.length + 1) (pcells st.pend ++ [.int .i64 (s : Int), .string d]))
    (hat : pv.ownBlock = some g ∨ w.heap.size ≤ g) :
    Dsk (w2.setCell ⟨db, 1, none⟩ (.slice (some ⟨g, 0, none⟩) (st.pend.length + 1) cap)) db { st with pend := st.pend ++ [(s, d)] } dv (.slice (some ⟨g, 0, none⟩) (st.pend.length + 1) cap) ∧
      Turn (dfoot db dv pv) w (w2.setCell ⟨db, 1, none⟩ (.slice (some ⟨g, 0, none⟩) (st.pend.length + 1) cap)) ∧ ∀ i, i ∈ dfoot db dv (.slice (some ⟨g, 0, none⟩) (st.pend.length + 1) cap) → i ∈ dfoot db dv pv ∨ w.heap.size ≤ i := by
  have t1 : Turn pv.ownBlock.toList w w2 := (Turn.ofBelow hb (Nat.le_refl _)).grown hg (fun x hx => .inl (by simp [hx]))
  have t2 : Turn (dfoot db dv pv) w (w2.setCell ⟨db, 1, none⟩ (.slice (some ⟨g, 0, none⟩) (st.pend.length + 1) cap)) := (t1.mono (fun i hi => by simp [dfoot] at hi ⊢; exact .inr (.inr hi))).setCell (p := ⟨db, 1, none⟩) (.inl (by simp [dfoot])) _
  have hdbn : db ∉ pv.ownBlock.toList := fun hi => h.pv_ne (by simpa using hi)
  have hblk := h.blk.turn t1 hdbn
  have hgv : g ≠ db := by
    have := own_blk_ne hown hblk (by decide)
    intro e; apply this; simp [Value.ownBlock, e]
  have hdr := row_turn h.drow t1 (fun x hx hi => h.dp_ne hx (by simpa using hi))
  have ts : Turn [db] w2 (w2.setCell ⟨db, 1, none⟩ (.slice (some ⟨g, 0, none⟩) (st.pend.length + 1) cap)) := (Turn.refl _ _).setCell (.inl (by simp)) _
  refine ⟨⟨hblk.set_ 1 _, row_turn hdr ts (fun x hx => by
      have := h.dv_ne
      simp
      rintro rfl
      exact this hx), ?_, h.wf.push hs hd hr⟩, t2, ?_⟩
  · have := row_turn hown ts (fun x hx => by
      have : x = g := by simpa [Value.ownBlock] using hx.symm
      subst this
      simpa using hgv)
    show (w2.setCell _ _).ownsRow 0 _ 2 _ (st.pend ++ [(s, d)]).length (pcells (st.pend ++ [(s, d)]))
    rw [List.length_append, pcells_append]
    exact this
  · intro i hi
    simp [dfoot, Value.ownBlock] at hi ⊢
    rcases hi with rfl | hi | rfl
    · exact .inl (.inl rfl)
    · exact .inl (.inr (.inl hi))
    · rcases hat with e | e
      · exact .inl (.inr (.inr e))
      · exact .inr e

theorem dwrite_down (s : Int) (d : ByteArray) {w : World} {db : Nat} {st : VS} {dv pv : Value} (h : Dsk w db st dv pv) (hd : st.down = true) :
    Calls Try.prog 52 #[.pointer (some ⟨db, 0, none⟩), .int .i64 s, .string d] w fun e w' => e = .returned (.int .i64 36) ∧ w = w' := by
  have c3 := h.blk.cell 3
  simp [hd] at c3
  clear h hd
  go_enter Try.func52, Try.ntmps52
  go_wp2
  go_ret
  exact ⟨rfl, rfl⟩
theorem Dsk.dvform {w : World} {db : Nat} {st : VS} {dv pv : Value} (h : Dsk w db st dv pv) : ∃ g cap, dv = .slice (some ⟨g, 0, none⟩) st.dur.length cap ∧ g < w.heap.size := by
  obtain ⟨g, cap, e, _, hlt⟩ := h.drow.form h.wf.pos
  exact ⟨g, cap, e, hlt⟩
theorem Dsk.pvform {w : World} {db : Nat} {st : VS} {dv pv : Value} (h : Dsk w db st dv pv) : ∃ ao cap, pv = .slice ao st.pend.length cap := by
  rcases h.row.2 with ⟨h1, h2⟩ | ⟨g, cap, cur, h1, _⟩
  · exact ⟨none, 0, by rw [h1, h2]⟩
  · exact ⟨_, _, h1⟩
theorem dwrite_range (s : Int) (d : ByteArray) {w : World} {db : Nat} {st : VS} {dv pv : Value} (h : Dsk w db st dv pv) (hd : st.down = false) (hr : inR s st.dur.length = false) :
    Calls Try.prog 52 #[.pointer (some ⟨db, 0, none⟩), .int .i64 s, .string d] w fun e w' => e = .returned (.int .i64 2) ∧ w = w' := by
  have c3 := h.blk.cell 3
  have c0 := h.blk.cell 0
  obtain ⟨g, cap, hdv, _⟩ := h.dvform
  simp [hd] at c3
  simp [hdv] at c0
  by_cases h0 : s < 0
  · have e1 : decide (s < 0) = true := by simpa using h0
    clear h hd hr h0 hdv
    go_enter Try.func52, Try.ntmps52
    go_wp2
    go_ret
    exact ⟨rfl, rfl⟩
  · have e1 : decide (s < 0) = false := by simpa using h0
    have e2 : decide ((st.dur.length : Int) ≤ s) = true := by
      have : ¬ (0 ≤ s ∧ s < (st.dur.length : Int)) := fun hc => by rw [inR_iff.2 hc] at hr; cases hr
      simp; omega
    clear h hd hr h0 hdv
    go_enter Try.func52, Try.ntmps52
    go_wp2
    go_ret
    exact ⟨rfl, rfl⟩
theorem dwrite_long (s : Int) (d : ByteArray) {w : World} {db : Nat} {st : VS} {dv pv : Value} (h : Dsk w db st dv pv) (hd : st.down = false) (hr : inR s st.dur.length = true) (hs : d.size ≠ 256) :
    Calls Try.prog 52 #[.pointer (some ⟨db, 0, none⟩), .int .i64 s, .string d] w fun e w' => e = .returned (.int .i64 10) ∧ w = w' := by
  have c3 := h.blk.cell 3
  have c0 := h.blk.cell 0
  obtain ⟨g, cap, hdv, _⟩ := h.dvform
  simp [hd] at c3
  simp [hdv] at c0
  have hi := inR_iff.1 hr
  have e1 : decide (s < 0) = false := by simp; omega
  have e2 : decide ((st.dur.length : Int) ≤ s) = false := by simp; omega
  have d1 : ((d.size : Int) != 256) = true := by rw [bne_iff_ne]; omega
  have d2 : (d.size != 256) = true := by rw [bne_iff_ne]; exact hs
  clear h hd hr hi hdv hs
  go_enter Try.func52, Try.ntmps52
  go_wp2
  go_ret
  exact ⟨rfl, rfl⟩
theorem dwrite_full (s : Int) (d : ByteArray) {w : World} {db : Nat} {st : VS} {dv pv : Value} (h : Dsk w db st dv pv) (hd : st.down = false) (hr : inR s st.dur.length = true) (hs : d.size = 256) (hf : 4096 ≤ st.pend.length) :
    Calls Try.prog 52 #[.pointer (some ⟨db, 0, none⟩), .int .i64 s, .string d] w fun e w' => e = .returned (.int .i64 37) ∧ w = w' := by
  have c3 := h.blk.cell 3
  have c0 := h.blk.cell 0
  have c1 := h.blk.cell 1
  obtain ⟨g, cap, hdv, _⟩ := h.dvform
  obtain ⟨ao, cap', hpv⟩ := h.pvform
  simp [hd] at c3
  simp [hdv] at c0
  simp [hpv] at c1
  have hi := inR_iff.1 hr
  have e1 : decide (s < 0) = false := by simp; omega
  have e2 : decide ((st.dur.length : Int) ≤ s) = false := by simp; omega
  have d1 : ((d.size : Int) != 256) = false := by rw [hs]; rfl
  have d2 : (d.size != 256) = false := by rw [hs]; rfl
  have d3 : decide ((4096 : Int) ≤ (st.pend.length : Int)) = true := by simp; omega
  clear h hd hr hi hdv hs hf hpv
  go_enter Try.func52, Try.ntmps52
  go_wp2
  go_ret
  exact ⟨rfl, rfl⟩
set_option maxRecDepth 100000 in
set_option maxHeartbeats 800000 in
theorem dwrite_ok (s : Nat) (d : ByteArray) {w : World} {db : Nat} {st : VS} {dv pv : Value} (h : Dsk w db st dv pv) (hdn : st.down = false) (hs : s < st.dur.length) (hd : d.size = 256) (hr : st.pend.length < 4096) :
    Calls Try.prog 52 #[.pointer (some ⟨db, 0, none⟩), .int .i64 (s : Int), .string d] w fun e w' => e = .returned (.int .i64 (crashNo ({ st with pend := st.pend ++ [(s, d)] } : VS).tick.1 : Int)) ∧ DStep (dfoot db dv pv) w w' db ({ st with pend := st.pend ++ [(s, d)] } : VS).tick.2 := by
  obtain ⟨i0, hi0, hz0, hz1, hz2⟩ := info_parts dwrite_info
  have c3 := h.blk.cell 3
  have c0 := h.blk.cell 0
  have c1 := h.blk.cell 1
  have f1 := h.blk.frozen 1
  have lt := h.blk.lt
  obtain ⟨gd, capd, hdv, _⟩ := h.dvform
  obtain ⟨ao, cap0, hpv⟩ := h.pvform
  subst hpv
  simp [hdn] at c3
  simp [hdv] at c0
  simp at c1
  have e1 : decide ((s : Int) < 0) = false := by simp
  have e2 : decide (st.dur.length ≤ s) = false := by simp; omega
  have d1 : ((d.size : Int) != 256) = false := by rw [hd]; rfl
  have d2 : (d.size != 256) = false := by rw [hd]; rfl
  have d3 : decide ((4096 : Int) ≤ (st.pend.length : Int)) = false := by simp; omega
  have hne := h.pv_ne
  have HD := Lib.hid hd
  clear hdn hd hdv
  go_enter Try.func52, Try.ntmps52
  go_wp2_with (first
    | (at_builtin; refine wpList_append_lies _ rfl _ _ _ rfl 0 87 i0 _ 2 24 Try.underlying83 hi0 hz0 hz1 hz2 rfl (by omega) (.slice ao st.pend.length cap0) st.pend.length (pcells st.pend) rfl (h.row.alloc _)
          ⟨w.heap.size, 0, none⟩ 1 1 [.int .i64 (s : Int), .string d] rfl rfl (World.news_of_block (cs := #[.int .i64 (s : Int), .string d]) (t := 87) (fr := (0, 0)) (heap_alloc_new w _)) (by simp [Value.oneCell'])
          (by omega) (by unfold maxLen; omega) (by omega) (Nat.zero_le _) (w.heap.size + 1) (by simp) ?_; intro g cap w2 hown hg hat hlt; have c22 := (hg.cell_far ⟨db, 1, none⟩ (by simp; omega) (Ne.symm hne)).trans ((World.cell?_of_block (a := ⟨db, 1, none⟩) (Below.heap_alloc _ _ db lt)).trans c1); have f22 := (hg.frozen_far ⟨db, 1, none⟩ (by simp; omega) (Ne.symm hne)).trans ((World.frozen?_of_block (a := ⟨db, 1, none⟩) (Below.heap_alloc _ _ db lt)).trans f1); obtain ⟨hV, hT, hF⟩ := h.pushed hs HD.out hr (Below.refl _ _) ((World.grownBy_alloc w _ _).trans hg) hown (hat.imp id (fun e => by omega)); clear hg hown)
    | fail)
  obtain ⟨b, hk⟩ : ∃ b, ({ st with pend := st.pend ++ [(s, d)] } : VS).tick.1 = b := ⟨_, rfl⟩
  have HK := Lib.hid hk
  clear hk
  refine (dfails_any hV).mono ?_
  rw [HK.out]
  rintro e w3 ⟨rfl, hV3, hT3⟩
  cases b
  all_goals
    go_wp2
    go_ret
    exact ⟨by rw [HK.out]; rfl, _, ⟨dv, _, hV3, rfl⟩, hT.trans hT3 (fun i hi => .inl (by simp at hi; subst hi; exact Dsk.foot_db)), hF⟩
theorem dwrite_any (s : Int) (d : ByteArray) {w : World} {db : Nat} {st : VS} {F : List Nat} (h : DskF w db st F) :
    Calls Try.prog 52 #[.pointer (some ⟨db, 0, none⟩), .int .i64 s, .string d] w fun e w' => e = .returned (.int .i64 ((st.write s d).1 : Int)) ∧ DStep F w w' db (st.write s d).2 := by
  obtain ⟨dv, pv, h, rfl⟩ := h
  have same : ∀ w', w = w' → DStep (dfoot db dv pv) w w' db st := fun w' e => by subst e; exact ⟨_, ⟨dv, pv, h, rfl⟩, Turn.refl _ _, fun i hi => .inl hi⟩
  by_cases hd : st.down = true
  · rw [show st.write s d = (36, st) from by unfold VS.write; rw [if_pos hd]]
    exact (dwrite_down s d h hd).mono fun e w' ⟨he, hw⟩ => ⟨he, same w' hw⟩
  · have hd' : st.down = false := by simpa using hd
    by_cases hr : inR s st.dur.length = false
    · rw [show st.write s d = (2, st) from by unfold VS.write; rw [if_neg hd, if_pos hr]]
      exact (dwrite_range s d h hd' hr).mono fun e w' ⟨he, hw⟩ => ⟨he, same w' hw⟩
    · have hr' : inR s st.dur.length = true := by simpa using hr
      by_cases hs : d.size ≠ 256
      · rw [show st.write s d = (10, st) from by unfold VS.write; rw [if_neg hd, if_neg hr, if_pos hs]]
        exact (dwrite_long s d h hd' hr' hs).mono fun e w' ⟨he, hw⟩ => ⟨he, same w' hw⟩
      · have hs' : d.size = 256 := by omega
        by_cases hf : 4096 ≤ st.pend.length
        · rw [show st.write s d = (37, st) from by unfold VS.write; rw [if_neg hd, if_neg hr, if_neg hs, if_pos hf]]
          exact (dwrite_full s d h hd' hr' hs' hf).mono fun e w' ⟨he, hw⟩ => ⟨he, same w' hw⟩
        · have hi := inR_iff.1 hr'
          obtain ⟨n, rfl⟩ := Int.eq_ofNat_of_zero_le hi.1
          rw [show st.write (n : Int) d = (crashNo ({ st with pend := st.pend ++ [(n, d)] } : VS).tick.1, ({ st with pend := st.pend ++ [(n, d)] } : VS).tick.2) from by unfold VS.write; rw [if_neg hd, if_neg hr, if_neg hs, if_neg hf, Int.toNat_natCast]; rfl]
          exact dwrite_ok n d h hd' (by omega) hs' (by omega)
end Go.Proofs.Ytfhcecfddejcdaa
