/- The known dictionary. -/
import Derived.Test.YtdcdlmigagjbiaaDoorHgd
namespace Go.Proofs.YtdcdlmigagjbiaaDoor
open Go.RowKit Go.Maps
def kP : List (List UInt8) := [[104, 121, 51, 112, 104], [104, 101, 50, 110], [104, 101, 110, 97, 52], [104, 101, 110, 53, 97, 116], [49, 110, 97], [110, 50, 97, 116], [49, 116, 105, 111], [50, 105, 111]]
def kX : List (List UInt8) := [[116, 97, 45, 98, 108, 101]]
def kH : List UInt8 := [104, 121, 112, 104, 101, 110, 97, 116, 105, 111, 110]
def kT : List UInt8 := [84, 97, 98, 108, 101]
theorem k_new : newE kP kX 2 3 = 0 := by decide +kernel
theorem k_one : pointsP (newS kP kX 2 3) (foldP kH) = [2, 6] := by decide +kernel
theorem k_two : pointsP (newS kP kX 2 3) (foldP kT) = [2] := by decide +kernel
theorem strs_blk {w : World} {g : Nat} {l : List (List UInt8)} (h : Blk w g 9 (l.map fun s => Value.string ⟨s.toArray⟩).toArray) : Strs w (.slice (some ⟨g, 0, none⟩) l.length l.length) l := by
  refine ⟨_, _, rfl, fun _ => ⟨g, 0, rfl, h.lt, fun j hj => ?_⟩⟩
  rw [h.cell, Nat.zero_add, List.getElem?_toArray, List.getElem?_map, List.getElem?_eq_getElem hj, List.getD_eq_getElem?_getD, List.getElem?_eq_getElem hj]
  rfl
theorem k_len {s : List UInt8} (h : s ∈ kP ∨ s ∈ kX) : s.length ≤ 100000000 := by
  have : ∀ s, s ∈ kP ∨ s ∈ kX → s.length ≤ 100 := by
    intro s h
    simp only [kP, kX, List.mem_cons, List.not_mem_nil, or_false] at h
    rcases h with (rfl | rfl | rfl | rfl | rfl | rfl | rfl | rfl) | rfl <;> decide
  exact Nat.le_trans (this s h) (by decide)
def NewYes (st : HS) (w : World) (e : Ending) (w' : World) : Prop := ∃ hb, e = .returned (.tuple #[.pointer (some ⟨hb, 0, none⟩), .int .i64 0]) ∧ Below w.heap.size w w' ∧ Hyph w' w.heap.size hb st
theorem new_yes {pats exs : List (List UInt8)} {left right : Int} {w w' : World} {e : Ending} (h0 : newE pats exs left right = 0) (h : NewPost pats exs left right w e w') : NewYes (newS pats exs left right) w e w' := by
  obtain ⟨hb, ⟨h1, _⟩ | ⟨_, b, h2, h3⟩⟩ := h
  · exact absurd h0 h1
  · exact ⟨b, h2, hb, h3⟩
theorem alloc_sz (w : World) (o : Obj) : (w.alloc o).heap.size = w.heap.size + 1 := by simp
def KnPost (w : World) (e : Ending) (w' : World) : Prop := e = .returned (.bool true) ∧ Below w.heap.size w w'
theorem same_row {la lb : List Int} {w : World} {B : Nat} {v : Value} (h : IntRow w B v la) (he : la = lb) (hl : lb.length ≤ 1000000) :
    Calls Tryd.prog 28 #[v, .slice (some ⟨w.heap.size, 0, none⟩) lb.length lb.length] (w.alloc (.cells (OC lb) 3)) (KnPost (w.alloc (.cells (OC lb) 3))) := by
  subst he
  refine (same_any _ _ la la _ (by omega) (by omega) (Ints.of_owns (World.ownsRow.alloc h _)) (Ints.of_owns (blk_row (B := 0) (Blk.new w 3 (OC la)) (Nat.zero_le _) hl))).mono ?_
  unfold SamePost
  rintro e w' ⟨rfl, hb⟩
  exact ⟨by simp, hb⟩
set_option maxRecDepth 100000 in
set_option maxHeartbeats 1000000 in
theorem known_any (w : World) : Calls Tryd.prog 12 #[] w (KnPost w) := by
  have HN := Lib.hid (fun (pvs evs : Value) (w : World) (h1 : Strs w pvs kP) (h2 : Strs w evs kX) => (new_any kP kX 2 3 pvs evs w h1 h2 (fun s h => k_len (.inl h)) (fun s h => k_len (.inr h))).mono (fun e w' h => new_yes k_new h))
  have HG := Lib.hid (good_new k_new (fun s h => k_len (.inr h)))
  have HQ1 := Lib.hid (fun (w : World) (B hb : Nat) (H : Hyph w B hb (newS kP kX 2 3)) => k_one ▸ hpoints_any H HG.out (t := kH) (by decide))
  have HQ2 := Lib.hid (fun (w : World) (B hb : Nat) (H : Hyph w B hb (newS kP kX 2 3)) => k_two ▸ hpoints_any H HG.out (t := kT) (by decide))
  obtain ⟨st, hst⟩ : ∃ st, newS kP kX 2 3 = st := ⟨_, rfl⟩
  rw [hst] at HN HQ1 HQ2
  have HB0 := Lib.hid (((Below.refl w.heap.size w).alloc (Nat.le_refl _) (.cells (kP.map fun s => Value.string ⟨s.toArray⟩).toArray 9)).alloc (by simp) (.cells (kX.map fun s => Value.string ⟨s.toArray⟩).toArray 9))
  have h1 := strs_blk (l := kP) ((Blk.new w 9 (kP.map fun s => Value.string ⟨s.toArray⟩).toArray).alloc (.cells (kX.map fun s => Value.string ⟨s.toArray⟩).toArray 9))
  have h2 := strs_blk (l := kX) (Blk.new (w.alloc (.cells (kP.map fun s => Value.string ⟨s.toArray⟩).toArray 9)) 9 (kX.map fun s => Value.string ⟨s.toArray⟩).toArray)
  have HN0 := Lib.hid (HN.out _ _ _ h1 h2)
  rw [show (w.alloc (.cells (kP.map fun s => Value.string ⟨s.toArray⟩).toArray 9)).heap.size = w.heap.size + 1 from alloc_sz _ _] at HN0
  clear HG hst h1 h2 HN
  go_enter Tryd.func12, Tryd.ntmps12
  go_wp2_with (first
    | (go_at_call 25; refine HN0.out.mono ?_; unfold NewYes; rintro e w1 ⟨hb, rfl, hb1, hh⟩; have HB1 := Lib.hid (HB0.out.trans (hb1.mono HB0.out.size)); have HH1 := Lib.hid hh; clear hb1 hh)
    | (go_at_call 28; refine (same_row HR4.out (lb := [2]) rfl (by decide)).mono ?_; unfold KnPost; rintro e w5 ⟨rfl, hb5⟩; have HB5 := Lib.hid (((HB4.out.alloc HB4.out.size _).trans (hb5.mono (Nat.le_trans HB4.out.size (by rw [alloc_sz]; omega))))); clear hb5)
    | (go_at_call 15; refine (HQ2.out _ _ _ HH3.out).mono ?_; unfold LevPost; rintro e w4 ⟨v4, rfl, hb4, hr4⟩; have HB4 := Lib.hid hb4; have HR4 := Lib.hid hr4; clear hb4 hr4)
    | (go_at_call 28; refine (same_row HR2.out (lb := [2, 6]) rfl (by decide)).mono ?_; unfold KnPost; rintro e w3 ⟨rfl, hb3⟩; have HB3 := Lib.hid (((HB2.out.alloc HB2.out.size _).trans (hb3.mono (Nat.le_trans HB2.out.size (by rw [alloc_sz]; omega))))); have HH3 := Lib.hid (HH1.out.below HB3.out); clear hb3)
    | (go_at_call 15; refine (HQ1.out _ _ _ HH1.out).mono ?_; unfold LevPost; rintro e w2 ⟨v2, rfl, hb2, hr2⟩; have HB2 := Lib.hid hb2; have HR2 := Lib.hid hr2; clear hb2 hr2))
  refine bodyPost_ret (v := .bool true) (by simp [results, Tryd.f12, go_sem]) rfl ⟨rfl, HB1.out.trans ((HB3.out.trans (HB5.out.mono HB3.out.size)).mono HB1.out.size)⟩
end Go.Proofs.YtdcdlmigagjbiaaDoor
