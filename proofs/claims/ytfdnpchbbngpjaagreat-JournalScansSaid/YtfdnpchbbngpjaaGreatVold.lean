/- A device: Write. -/
import Derived.Test.YtfdnpchbbngpjaaGreatVolc
import Derived.Deep.RegionLaw
import Derived.Deep.DrawnRows
namespace Go.Proofs.YtfdnpchbbngpjaaGreat
attribute [local go_sem ↓] Go.wp_at_zero Go.wp_at_succ
open Go.RowKit Go.Maps

theorem sclone_any (s : ByteArray) (w : World) (hlim : s.size ≤ 281474976710656) : Calls Tryz.prog 72 #[.string s] w fun e w' => e = .returned (.string s) ∧ Below w.heap.size w w' := by
  go_enter Tryz.func72, Tryz.ntmps72
  go_wp2_with ((go_at_call 85; refine (Tryz.stringslite_Clone s _ hlim).mono ?_; rintro e w' ⟨rfl, hb⟩))
  go_ret
  exact ⟨rfl, hb⟩

/-- Write where it is refused -/
theorem write_down (s : Int) (d : ByteArray) {w : World} {vb : Nat} {st : VS} {mb : Nat} {pv : Value} (h : Vol w vb st mb pv) (hd : st.down = true) :
    Calls Tryz.prog 38 #[.pointer (some ⟨vb, 0, none⟩), .int .i64 s, .string d] w fun e w' => e = .returned (.int .i64 36) ∧ w = w' := by
  have c5 := h.blk.cell 5
  simp [hd] at c5
  clear h hd
  go_enter Tryz.func38, Tryz.ntmps38
  go_wp2
  go_ret
  exact ⟨rfl, rfl⟩
theorem write_range (s : Int) (d : ByteArray) {w : World} {vb : Nat} {st : VS} {mb : Nat} {pv : Value} (h : Vol w vb st mb pv) (hd : st.down = false) (hr : inR s st.dur.length = false) :
    Calls Tryz.prog 38 #[.pointer (some ⟨vb, 0, none⟩), .int .i64 s, .string d] w fun e w' => e = .returned (.int .i64 2) ∧ w = w' := by
  have c5 := h.blk.cell 5
  simp [hd] at c5
  have HR := Lib.hid hr
  clear hd hr
  go_enter Tryz.func38, Tryz.ntmps38
  go_wp2_with ((go_at_call 70; refine (has_any s h).mono ?_; rw [HR.out]; rintro e w1 ⟨rfl, rfl⟩))
  go_ret
  exact ⟨rfl, rfl⟩
theorem write_long (s : Int) (d : ByteArray) {w : World} {vb : Nat} {st : VS} {mb : Nat} {pv : Value} (h : Vol w vb st mb pv) (hd : st.down = false) (hr : inR s st.dur.length = true) (hs : d.size ≠ 256) :
    Calls Tryz.prog 38 #[.pointer (some ⟨vb, 0, none⟩), .int .i64 s, .string d] w fun e w' => e = .returned (.int .i64 10) ∧ w = w' := by
  have c5 := h.blk.cell 5
  simp [hd] at c5
  have HR := Lib.hid hr
  have d1 : ((d.size : Int) != 256) = true := by rw [bne_iff_ne]; omega
  have d2 : (d.size != 256) = true := by rw [bne_iff_ne]; exact hs
  clear hd hr hs
  go_enter Tryz.func38, Tryz.ntmps38
  go_wp2_with ((go_at_call 70; refine (has_any s h).mono ?_; rw [HR.out]; rintro e w1 ⟨rfl, rfl⟩))
  go_ret
  exact ⟨rfl, rfl⟩
theorem write_full (s : Int) (d : ByteArray) {w : World} {vb : Nat} {st : VS} {mb : Nat} {pv : Value} (h : Vol w vb st mb pv) (hd : st.down = false) (hr : inR s st.dur.length = true) (hs : d.size = 256) (hf : 4096 ≤ st.pend.length) :
    Calls Tryz.prog 38 #[.pointer (some ⟨vb, 0, none⟩), .int .i64 s, .string d] w fun e w' => e = .returned (.int .i64 37) ∧ w = w' := by
  have c5 := h.blk.cell 5
  have c2 := h.blk.cell 2
  obtain ⟨g, cap, cur, hpv, _⟩ := h.row.2.resolve_left (fun hh => by omega)
  simp [hd] at c5
  simp [hpv] at c2
  have HR := Lib.hid hr
  have d1 : ((d.size : Int) != 256) = false := by rw [hs]; rfl
  have d2 : (d.size != 256) = false := by rw [hs]; rfl
  have d3 : decide ((4096 : Int) ≤ (st.pend.length : Int)) = true := by simp; omega
  clear hd hr hs hf hpv
  go_enter Tryz.func38, Tryz.ntmps38
  go_wp2_with ((go_at_call 70; refine (has_any s h).mono ?_; rw [HR.out]; rintro e w1 ⟨rfl, rfl⟩))
  go_ret
  exact ⟨rfl, rfl⟩

theorem write_info : (Tryz.prog.info? 102).map (fun i => (i.zero, i.size, i.bytes)) = some (some (.agg #[.int .i64 0, .string ⟨#[]⟩]), 2, 24) := by kernel_rfl

theorem Vol.pushed {w w1 w2 : World} {vb : Nat} {st : VS} {mb : Nat} {pv : Value} (h : Vol w vb st mb pv) {s : Nat} {d : ByteArray} (hs : s < st.dur.length) (hd : d.size = 256) (hr : st.pend.length < 4096) (hb : Below w.heap.size w w1)
    (hg : w1.grownBy w2 pv.ownBlock) {g cap : Nat} (hown : w2.ownsRow 0 102 2 (.slice (some ⟨g, 0, none⟩) (st.pend.length + 1) cap) (st.pend.length + 1) (pcells st.pend ++ [.int .i64 (s : Int), .string d]))
    (hat : pv.ownBlock = some g ∨ w.heap.size ≤ g) :
    Vol (w2.setCell ⟨vb, 2, none⟩ (.slice (some ⟨g, 0, none⟩) (st.pend.length + 1) cap)) vb { st with pend := st.pend ++ [(s, d)] } mb (.slice (some ⟨g, 0, none⟩) (st.pend.length + 1) cap) ∧
      Turn (foot vb mb pv) w (w2.setCell ⟨vb, 2, none⟩ (.slice (some ⟨g, 0, none⟩) (st.pend.length + 1) cap)) ∧ ∀ i, i ∈ foot vb mb (.slice (some ⟨g, 0, none⟩) (st.pend.length + 1) cap) → i ∈ foot vb mb pv ∨ w.heap.size ≤ i := by
  have t1 : Turn pv.ownBlock.toList w w2 := (Turn.ofBelow hb (Nat.le_refl _)).grown hg (fun x hx => .inl (by simp [hx]))
  have t2 : Turn (foot vb mb pv) w (w2.setCell ⟨vb, 2, none⟩ (.slice (some ⟨g, 0, none⟩) (st.pend.length + 1) cap)) := (t1.mono (fun i hi => by simp [foot] at hi ⊢; exact .inr (.inr hi))).setCell (p := ⟨vb, 2, none⟩) (.inl (by simp [foot])) _
  have hvbn : vb ∉ pv.ownBlock.toList := fun hi => h.pv_ne (by simpa using hi)
  have hmbn : mb ∉ pv.ownBlock.toList := fun hi => h.pv_mb (by simpa using hi)
  have hblk := h.blk.turn t1 hvbn
  have hgv : g ≠ vb := by
    have := own_blk_ne hown hblk (by decide)
    intro e; apply this; simp [Value.ownBlock, e]
  have hmap := map_turn h.map t1 hmbn
  refine ⟨⟨hblk.set_ 2 _, hmap.setCell h.mb_ne _, ?_, h.wf.push hs hd hr⟩, t2, ?_⟩
  · have ts : Turn [vb] w2 (w2.setCell ⟨vb, 2, none⟩ (.slice (some ⟨g, 0, none⟩) (st.pend.length + 1) cap)) := (Turn.refl _ _).setCell (.inl (by simp)) _
    have := row_turn hown ts (fun x hx => by
      have : x = g := by simpa [Value.ownBlock] using hx.symm
      subst this
      simpa using hgv)
    show (w2.setCell _ _).ownsRow 0 _ 2 _ (st.pend ++ [(s, d)]).length (pcells (st.pend ++ [(s, d)]))
    rw [List.length_append, pcells_append]
    exact this
  · intro i hi
    simp [foot, Value.ownBlock] at hi ⊢
    rcases hi with rfl | rfl | rfl
    · exact .inl (.inl rfl)
    · exact .inl (.inr (.inl rfl))
    · rcases hat with e | e
      · exact .inl (.inr (.inr e))
      · exact .inr e

/-- the error of an operation during which the device fails, or not -/
def crashNo (b : Bool) : Nat := if b then 36 else 0

set_option maxRecDepth 100000 in
set_option maxHeartbeats 800000 in
theorem write_ok (s : Nat) (d : ByteArray) {w : World} {vb : Nat} {st : VS} {mb : Nat} {pv : Value} (h : Vol w vb st mb pv) (hdn : st.down = false) (hs : s < st.dur.length) (hd : d.size = 256) (hr : st.pend.length < 4096) :
    Calls Tryz.prog 38 #[.pointer (some ⟨vb, 0, none⟩), .int .i64 (s : Int), .string d] w fun e w' => e = .returned (.int .i64 (crashNo ({ st with pend := st.pend ++ [(s, d)] } : VS).tick.1 : Int)) ∧ Step (foot vb mb pv) w w' vb ({ st with pend := st.pend ++ [(s, d)] } : VS).tick.2 := by
  obtain ⟨i0, hi0, hz0, hz1, hz2⟩ := info_parts write_info
  have c5 := h.blk.cell 5
  have c2 := h.blk.cell 2
  have f2 := h.blk.frozen 2
  have lt := h.blk.lt
  simp [hdn] at c5
  simp at c2
  have hin : inR (s : Int) st.dur.length = true := inR_iff.2 ⟨by omega, by omega⟩
  have HR := Lib.hid hin
  have d1 : ((d.size : Int) != 256) = false := by rw [hd]; rfl
  have d2 : (d.size != 256) = false := by rw [hd]; rfl
  have d3 : decide ((4096 : Int) ≤ (st.pend.length : Int)) = false := by simp; omega
  obtain ⟨ao, cap0, hpv⟩ : ∃ ao cap, pv = .slice ao st.pend.length cap := by
    rcases h.row.2 with ⟨h1, h2⟩ | ⟨g, cap, cur, h1, _⟩
    · exact ⟨none, 0, by rw [h1, h2]⟩
    · exact ⟨_, _, h1⟩
  subst hpv
  have hne := h.pv_ne
  have HD := Lib.hid hd
  clear hdn hd hin
  go_enter Tryz.func38, Tryz.ntmps38
  go_wp2_with ((go_at_call 70; refine (has_any _ h).mono ?_; rw [HR.out]; rintro e w1 ⟨rfl, rfl⟩))
  go_region_law (first
      | (refine step_append_lies _ (by rfl) _ _ _ (by rfl) 0 102 i0 _ 2 24 Tryz.underlying78 hi0 hz0 hz1 hz2 rfl (by omega) (.slice ao st.pend.length cap0) st.pend.length (pcells st.pend) (by rfl) (hr1.alloc _)
          ⟨w1.heap.size, 0, none⟩ 1 1 [.int .i64 (s : Int), .string d] (by rfl) (by rfl) (World.news_of_block (cs := #[.int .i64 (s : Int), .string d]) (t := 102) (fr := (0, 0)) (heap_alloc_new w1 _)) (by simp [Value.oneCell'])
          (by omega) (by unfold maxLen; omega) (by omega) (Nat.zero_le _) (w1.heap.size + 1) (by simp) ?_; intro g cap w2 hown hg hat hlt; have c22 := (hg.cell_far ⟨vb, 2, none⟩ (by simp; omega) (Ne.symm hne)).trans (hcz _); have f22 := (hg.frozen_far ⟨vb, 2, none⟩ (by simp; omega) (Ne.symm hne)).trans (hfz _))
      | (go_simp; go_at_call 72; refine (sclone_any d _ (by rw [HD.out]; decide)).mono ?_; rintro e w1 ⟨rfl, hb0⟩; have hb : Below w.heap.size w w1 := ⟨hb0.os, hb0.tape, hb0.output, hb0.size, hb0.block⟩; have hr1 := row_turn h.row (Turn.ofBelow (F := []) hb (Nat.le_refl _)) (fun _ _ => by simp); have hsz := hb.size; have c21 := (hb.cell (p := ⟨vb, 2, none⟩) lt).trans c2; have hcz : ∀ o, (w1.alloc o).cell? ⟨vb, 2, none⟩ = some (.slice ao st.pend.length cap0) := fun o => (World.cell?_of_block (a := ⟨vb, 2, none⟩) (Below.heap_alloc _ _ vb (by omega))).trans c21; have hfz : ∀ o, (w1.alloc o).frozen? ⟨vb, 2, none⟩ = false := fun o => (World.frozen?_of_block (a := ⟨vb, 2, none⟩) (Below.heap_alloc _ _ vb (by omega))).trans ((hb.frozen (p := ⟨vb, 2, none⟩) lt).trans f2); clear hb0))
  all_goals
    obtain ⟨hV, hT, hF⟩ := h.pushed hs HD.out hr hb ((World.grownBy_alloc w1 _ _).trans hg) hown (hat.imp id (fun e => by omega))
    have HP : Hid (w2.setCell ⟨vb, 2, none⟩ (.slice (some ⟨g, 0, none⟩) (st.pend.length + 1) cap) = w2.setCell ⟨vb, 2, none⟩ (.slice (some ⟨g, 0, none⟩) (st.pend.length + 1) cap)) := Lib.hid rfl
    clear hcz hfz c21 hr1 hg hown
    go_wp2_with fail
    obtain ⟨b, hk⟩ : ∃ b, ({ st with pend := st.pend ++ [(s, d)] } : VS).tick.1 = b := ⟨_, rfl⟩
    have HK := Lib.hid hk
    clear hk
    refine (fails_any hV).mono ?_
    rw [HK.out]
    rintro e w3 ⟨rfl, hV3, hT3⟩
    cases b
    all_goals
      go_wp2
      go_ret
      exact ⟨by rw [HK.out]; rfl, _, ⟨mb, _, hV3, rfl⟩, hT.trans hT3 (fun i hi => .inl (by simp at hi; subst hi; exact Vol.foot_vb)), hF⟩
end Go.Proofs.YtfdnpchbbngpjaaGreat
