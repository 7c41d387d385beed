/- The law VolumeSurvives walked. -/
import Derived.Test.YtfhcecfddejcdaaVkno
namespace Go.Proofs.Ytfhcecfddejcdaa
open Go.RowKit Go.Maps
/-- what a law's call leaves -/
def LawPost (w : World) (e : Ending) (w' : World) : Prop := e = .returned (.bool true) ∧ Below w.heap.size w w'

set_option maxRecDepth 100000 in
set_option maxHeartbeats 2000000 in
theorem survives_law (a : Nat) (ha : a < 256) (b : Nat) (hb : b < 256) (c : Nat) (hc : c < 256) (w : World) : Calls Try.prog 3 #[.int .u8 (a : Int), .int .u8 (b : Int), .int .u8 (c : Int)] w (LawPost w) := by
  go_enter Try.func3, Try.ntmps3
  go_wp2_with fail
  refine (filled_any a ha _).mono ?_
  rintro e w1 ⟨rfl, hb1⟩
  go_wp2_with fail
  refine (filled_any b hb _).mono ?_
  rintro e w2 ⟨rfl, hb2⟩
  have h2 := hb1.trans (hb2.mono hb1.size)
  clear hb1 hb2
  go_wp2_with fail
  refine (known_any _).mono ?_
  rintro e w3 ⟨rfl, hb3⟩
  have h3 := h2.trans (hb3.mono h2.size)
  clear h2 hb3
  go_wp2_with fail
  refine (surv_any _ _ c hc _ (filled_size a) (filled_size b)).mono ?_
  rintro e w4 ⟨rfl, n4, rfl⟩
  go_wp2_with fail
  refine (lsurv_any _ _ c hc _ (filled_size a) (filled_size b)).mono ?_
  rintro e w5 ⟨rfl, n5, rfl⟩
  have sa := filled_size a
  have sb := filled_size b
  go_wp2_with fail
  refine (surv_short _ _ c _ (by simp [sa])).mono ?_
  rintro e w6 ⟨rfl, rfl⟩
  go_wp2_with fail
  refine (surv_short _ _ c _ (by rw [ByteArray.size_append, sb]; show ¬ (_ ∧ 256 + 1 = 256); omega)).mono ?_
  rintro e w7 ⟨rfl, rfl⟩
  go_wp2
  go_ret
  exact ⟨rfl, below_drewN h3 _⟩
theorem u8nat {a : Int} (h : (Lit.int .u8 a).wf = true) : ∃ n : Nat, a = (n : Int) ∧ n < 256 := by
  have h1 : (0 : Int) ≤ a ∧ a ≤ 255 := by simpa [Lit.wf, IntKind.min, IntKind.max, IntKind.signed, IntKind.bits] using h
  exact ⟨a.toNat, by omega, by omega⟩
theorem survives_row (a : Int) (ha : (Lit.int .u8 a).wf = true) (b : Int) (hb : (Lit.int .u8 b).wf = true) (c : Int) (hc : (Lit.int .u8 c).wf = true) (w : World) : Calls Try.prog 3 #[.int .u8 a, .int .u8 b, .int .u8 c] w (LawPost w) := by
  obtain ⟨a, rfl, ha'⟩ := u8nat ha
  obtain ⟨b, rfl, hb'⟩ := u8nat hb
  obtain ⟨c, rfl, hc'⟩ := u8nat hc
  exact survives_law a ha' b hb' c hc' w
end Go.Proofs.Ytfhcecfddejcdaa
