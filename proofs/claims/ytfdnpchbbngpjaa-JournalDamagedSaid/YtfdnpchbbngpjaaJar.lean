/- An array of three small numbers that came in, opened. -/
import Derived.Laws.IdiomArrays
import Derived.ProofKit
import Derived.OpenShut
import Derived.WalkKit
import Derived.Test.YtfdnpchbbngpjaaJxb
namespace Go.Proofs.Ytfdnpchbbngpjaa
open Go.ChangeShapes Go.WideShapes Go.ChangeAt Go.RowKit
set_option maxRecDepth 100000 in
theorem open_arr3u {H : Type} {enc : TypeId × Value → H} {W : World} {base b0 : Nat} {sp : Nat → Bool} {held : Bool} {r : Reach} {v : Value} {d : DataW H} {ps : List MemPlace}
    (hv : Value.okWide Try.prog W r b0 24 v) (hd : DataW.Trod enc Try.prog W base sp held 24 v d ps) :
    ∃ a b c : Nat, v = .agg #[.int .u16 (a : Int), .int .u16 (b : Int), .int .u16 (c : Int)] ∧ a < 65536 ∧ b < 65536 ∧ c < 65536 := by
  simp only [Value.okWide, Try.underlying24] at hv
  obtain ⟨cs, rfl, hs, _⟩ := hv
  rw [show Try.prog.cellsOf 24 = 3 from by kernel_rfl] at hs
  obtain ⟨m, hm⟩ := hd
  obtain ⟨xs⟩ := cs
  match xs, hs with
  | [c0, c1, c2], _ =>
    have hm' : DataW.trod enc Try.prog W base sp held m 24 [c0, c1, c2] = some (d, ps) := by simpa [Value.cells] using hm
    obtain ⟨y0, y1, y2, n, hy, hy0, hy1, hy2⟩ := trod_array3 Try.underlying24 (by kernel_rfl) hm'
    obtain ⟨k0, e0, _, w0⟩ := DataW.trod_int Try.underlying23 hy0
    obtain ⟨k1, e1, _, w1⟩ := DataW.trod_int Try.underlying23 hy1
    obtain ⟨k2, e2, _, w2⟩ := DataW.trod_int Try.underlying23 hy2
    obtain ⟨n0, rfl, b0⟩ := u16of w0
    obtain ⟨n1, rfl, b1⟩ := u16of w1
    obtain ⟨n2, rfl, b2⟩ := u16of w2
    simp at e0 e1 e2
    exact ⟨n0, n1, n2, by rw [e0, e1, e2], b0, b1, b2⟩
end Go.Proofs.Ytfdnpchbbngpjaa
