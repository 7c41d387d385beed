/- Levels of no word, IsException walked. -/
import Derived.Test.YtdcdlmigagjbiaaDoorHlw
import Derived.Deep.RegionHeld3
namespace Go.Proofs.YtdcdlmigagjbiaaDoor
open Go.RowKit Go.Maps
def NilPost (w : World) (e : Ending) (w' : World) : Prop := e = .returned (.slice none 0 0) ∧ Below w.heap.size w w'
theorem levels_nil (t : List UInt8) (w : World) : Calls Tryd.prog 14 #[.pointer none, .string ⟨t.toArray⟩] w (NilPost w) := by
  go_enter Tryd.func14, Tryd.ntmps14
  go_wp2_with (go_at_call 35; refine (word_nil t _).mono ?_; rintro e w1 ⟨rfl, rfl⟩)
  refine bodyPost_ret (v := .slice none 0 0) (by simp [results, Tryd.f14, go_sem]) rfl ⟨rfl, Below.refl _ _⟩
theorem levels_no {t : List UInt8} (h : wordP (foldP t) = none) (ht : t.length ≤ 100000000) (a : Addr) (w : World) : Calls Tryd.prog 14 #[.pointer (some a), .string ⟨t.toArray⟩] w (NilPost w) := by
  go_enter Tryd.func14, Tryd.ntmps14
  go_wp2_with (go_at_call 35; refine (word_no h ht a _).mono ?_; rintro e w1 ⟨v, rfl, hb1⟩)
  refine bodyPost_ret (v := .slice none 0 0) (by simp [results, Tryd.f14, go_sem]) rfl ⟨rfl, hb1⟩
theorem ExMap.drewN {w : World} {B eb : Nat} {exs : List (List UInt8 × List Int)} (h : ExMap w B eb exs) (n : Nat) : ExMap (w.drewN n) B eb exs := h.below (below_drewN (Below.refl _ _) n)
theorem int_nil (w : World) (B : Nat) : IntRow w B (.slice none 0 0) [] := ⟨by simp, .inl ⟨rfl, rfl⟩⟩
/-- the lookup of a word among the exceptions -/
theorem ExMap.look {w : World} {B eb : Nat} {exs : List (List UInt8 × List Int)} (h : ExMap w B eb exs) (t : List UInt8) (ht : t.length ≤ 4294967296) :
    ∃ v, (Instr.lookup 69 (.map (some eb)) (.string ⟨t.toArray⟩) true).run Tryd.prog w = .ok (.tuple #[v, .bool (exLook exs t).isSome]) w ∧ IntRow w B v ((exLook exs t).getD []) ∧ (exLook exs t = none → v = .slice none 0 0) := by
  obtain ⟨n, D, x1, _, x3⟩ := h
  obtain ⟨v, ps, hl, hv⟩ := x1.look_ok skey Tryd.underlying69 (z := .slice none 0 0) (by kernel_rfl) (zd := .held (.slice none 0 0)) (zp := []) rfl (kSkey t ht)
  rw [(x3 t).1] at hl
  refine ⟨v, hl, ?_⟩
  have he : DataW.held v = D.atKey (kS t) (.held (.slice none 0 0)) := congrArg Prod.fst (Option.some.inj hv)
  cases hx : exLook exs t with
  | some p =>
    obtain ⟨u, k1, k2⟩ := (x3 t).2 p hx
    rw [k2] at he
    rw [held_inj he]
    exact ⟨k1, fun h => by cases h⟩
  | none =>
    have hh := (x3 t).1
    rw [hx] at hh
    rw [Maps.atKey_of_not_has hh] at he
    rw [held_inj he]
    exact ⟨int_nil w B, fun _ => rfl⟩
def IsPost (b : Bool) (w : World) (e : Ending) (w' : World) : Prop := e = .returned (.bool b) ∧ Below w.heap.size w w'
theorem isex_nil (t : List UInt8) (w : World) : Calls Tryd.prog 17 #[.pointer none, .string ⟨t.toArray⟩] w (IsPost false w) := by
  go_enter Tryd.func17, Tryd.ntmps17
  go_wp2_with fail
  refine bodyPost_ret (v := .bool false) (by simp [results, Tryd.f17, go_sem]) rfl ⟨rfl, Below.refl _ _⟩
theorem isex_any {w : World} {B hb : Nat} {st : HS} (H : Hyph w B hb st) {t : List UInt8} (ht : t.length ≤ 100000000) : Calls Tryd.prog 17 #[.pointer (some ⟨hb, 0, none⟩), .string ⟨t.toArray⟩] w (IsPost (exLook st.exs (foldP t)).isSome w) := by
  obtain ⟨eb, eo, f, K, hT, hR, _, hX⟩ := H
  obtain ⟨mb, pvr, hblk⟩ := RootOf.blk hT hR
  have HX := Lib.hid hX
  have c2 := hblk.cell 2
  have hlt := hblk.lt
  simp at c2
  have hfl := foldP_len t
  clear hT hR hX
  go_enter Tryd.func17, Tryd.ntmps17
  go_wp2_with fail
  go_region_held3 (fun w' => w'.cell? ⟨hb, 2, none⟩ = some (Value.map (some eb)))
    (first | go_keep)
    (first
      | (go_at_call 29; refine (fold_at t (by omega) _).mono ?_; rintro e w3 ⟨rfl, hb3⟩; obtain ⟨v, hl, _⟩ := (((HX.out.drewN _).below hb3)).look (foldP t) (by omega); have t0 := (hb3.cell (p := ⟨hb, 2, none⟩) hlt).trans c2; have HB3 : Hid (Below w.heap.size w w3) := Lib.hid (below_undrewN hb3); clear hb3))
  go_wp2_with fail
  refine bodyPost_ret (v := .bool (exLook st.exs (foldP t)).isSome) (by simp [results, Tryd.f17, go_sem]) rfl ⟨rfl, HB3.out⟩
end Go.Proofs.YtdcdlmigagjbiaaDoor
