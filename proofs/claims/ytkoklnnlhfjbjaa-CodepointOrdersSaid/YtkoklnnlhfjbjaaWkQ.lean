/- The walks of known and of the laws CodepointValid and CodepointAt. -/
import Derived.Test.YtkoklnnlhfjbjaaWkP
import Derived.Test.YtkoklnnlhfjbjaaWkI
namespace Go.Proofs.Ytkoklnnlhfjbjaa
open Go.RowKit
theorem offset_at (s : ByteArray) (u : Int) (t : Int × Int) (hs : s.size ≤ 4294967296) (h : Hid (offP s.data.toList u = t)) (w : World) :
    Calls Try.prog 21 #[.string s, .int .i64 u] w fun e w' => e = .returned (.tuple #[.int .i64 t.1, .int .i64 t.2]) ∧ Below w.heap.size w w' := by
  have := offset_any s u hs w
  rw [h.out] at this
  exact this
theorem repair_at (s : ByteArray) (t : List UInt8) (hs : s.size ≤ 4294967296) (h : Hid (rep s.data.toList = t)) (w : World) :
    Calls Try.prog 13 #[.string s] w fun e w' => e = .returned (.string ⟨t.toArray⟩) ∧ Below w.heap.size w w' := by
  have := repair_any s hs w
  rw [h.out] at this
  exact this
set_option maxRecDepth 100000 in
set_option maxHeartbeats 400000 in
theorem known_any (w : World) : Calls Try.prog 14 #[] w fun e w' => e = .returned (.bool true) ∧ Below w.heap.size w w' := by
  have h1 := Lib.hid (show countP (⟨#[97, 195, 169, 240, 159, 152, 128]⟩ : ByteArray).data.toList = (3, 0) by decide +kernel)
  have h2 := Lib.hid (show offP (⟨#[97, 195, 169, 240, 159, 152, 128]⟩ : ByteArray).data.toList 2 = (3, 0) by decide +kernel)
  have h3 := Lib.hid (show rep (⟨#[97, 226, 130, 98]⟩ : ByteArray).data.toList = [97, 239, 191, 189, 98] by decide +kernel)
  have s1 : (⟨#[97, 195, 169, 240, 159, 152, 128]⟩ : ByteArray).size ≤ 4294967296 := by decide
  have s2 : (⟨#[97, 226, 130, 98]⟩ : ByteArray).size ≤ 4294967296 := by decide
  go_enter Try.func14, Try.ntmps14
  go_wp2_with (first
    | (go_at_call 34; (with_reducible refine (count_at _ _ s1 h1 _).mono ?_); rintro e w' ⟨rfl, rfl⟩)
    | (go_at_call 21; (with_reducible refine (offset_at _ _ _ s1 h2 _).mono ?_); rintro e w1 ⟨rfl, hb1⟩)
    | (go_at_call 13; (with_reducible refine (repair_at _ _ s2 h3 _).mono ?_); rintro e w2 ⟨rfl, hb2⟩))
  go_ret
  exact ⟨rfl, hb1.trans (hb2.mono hb1.size)⟩
theorem first_at (s : ByteArray) (z : Int) (hs : s.size ≤ 4294967296) (h : Hid (firstP s.data.toList = z)) (w : World) :
    Calls Try.prog 20 #[.string s] w fun e w' => e = .returned (.int .i64 z) ∧ w = w' := by
  have := first_any s hs w
  rw [h.out] at this
  exact this
theorem rfirst_at (s : ByteArray) (z : Int) (hs : s.size ≤ 4294967296) (h : Hid (firstP s.data.toList = z)) (w : World) :
    Calls Try.prog 17 #[.string s] w fun e w' => e = .returned (.int .i64 z) ∧ Below w.heap.size w w' := by
  have := rfirst_any s hs w
  rw [h.out] at this
  exact this
def LawPost (w : World) (e : Ending) (w' : World) : Prop := e = .returned (.bool true) ∧ Below w.heap.size w w'
set_option maxRecDepth 100000 in
set_option maxHeartbeats 400000 in
theorem lawValid (p : Int) (s : ByteArray) (hs : s.size ≤ 9223372036854775807) (w : World) : Calls Try.prog 4 #[.int .i64 p, .string s] w (LawPost w) := by
  have hc := size_cutS s
  have hcut := Lib.hid (cut_any s hs)
  clear hs
  generalize cutS s = t at hc hcut
  have ht : t.size ≤ 4294967296 := by omega
  obtain ⟨z, hz⟩ : ∃ z, firstP t.data.toList = z := ⟨_, rfl⟩
  obtain ⟨b, hb⟩ : ∃ b, (U.bad t.data.toList).isEmpty = b := ⟨_, rfl⟩
  obtain ⟨q, hq⟩ : ∃ q, isPtI p = q := ⟨_, rfl⟩
  have hbz : (b == decide (z < 0)) = true := by rw [← hb, ← hz, firstP_neg]; simp
  have Hz := Lib.hid hz
  have Hb := Lib.hid hb
  have Hq := Lib.hid hq
  clear hz hb hq hc
  have hB : Below w.heap.size w w := Below.refl _ _
  go_enter Try.func4, Try.ntmps4
  go_wp2_with (first
    | (go_at_call 12; (with_reducible refine (hcut.out _).mono ?_); rintro e w' ⟨rfl, rfl⟩)
    | (go_at_call 14; (with_reducible refine (known_any _).mono ?_); rintro e w1 ⟨rfl, hb1⟩; have hB := hB.trans (hb1.mono hB.size))
    | (go_at_call 18; (with_reducible refine (isPoint_at _ _ Hq _).mono ?_); rintro e w' ⟨rfl, rfl⟩)
    | (go_at_call 19; (with_reducible refine (refIsPoint_at _ _ Hq _).mono ?_); rintro e w' ⟨rfl, rfl⟩)
    | (go_at_call 20; (with_reducible refine (first_at _ _ ht Hz _).mono ?_); rintro e w' ⟨rfl, rfl⟩)
    | (go_at_call 16; (with_reducible refine (valid_at _ _ ht Hb _).mono ?_); rintro e w' ⟨rfl, rfl⟩)
    | (go_at_call 17; (with_reducible refine (rfirst_at _ _ ht Hz _).mono ?_); rintro e w2 ⟨rfl, hb2⟩; have hB := hB.trans (hb2.mono hB.size)))
  go_ret
  exact ⟨by rw [← hbz]; rfl, hB⟩
end Go.Proofs.Ytkoklnnlhfjbjaa
