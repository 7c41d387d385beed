/- An array of three ints that came in, opened. -/
import Derived.Laws.IdiomArrays
import Derived.ProofKit
import Derived.OpenShut
import Derived.WalkKit
namespace Go.Proofs.Ytkoklnnlhfjbjaa
open Go.ChangeShapes Go.WideShapes Go.ChangeAt Go.RowKit
theorem open_arr3 {H : Type} {enc : TypeId × Value → H} {P : Program} {W : World} {base b0 : Nat} {sp : Nat → Bool} {held : Bool} {r : Reach} {k e : TypeId} {v : Value} {d : DataW H} {ps : List MemPlace}
    (hu : P.underlying k = some (.array 3 e)) (he : P.underlying e = some (.int .i64)) (h1 : P.cellsOf e = 1) (h3 : P.cellsOf k = 3) (hv : Value.okWide P W r b0 k v) (hd : DataW.Trod enc P W base sp held k v d ps) :
    ∃ a b c : Int, v = .agg #[.int .i64 a, .int .i64 b, .int .i64 c] := by
  simp only [Value.okWide, hu] at hv
  obtain ⟨cs, rfl, hs, _⟩ := hv
  rw [h3] at hs
  obtain ⟨m, hm⟩ := hd
  obtain ⟨xs⟩ := cs
  match xs, hs with
  | [c0, c1, c2], _ =>
    have hm' : DataW.trod enc P W base sp held m k [c0, c1, c2] = some (d, ps) := by simpa [Value.cells] using hm
    obtain ⟨y0, y1, y2, n, hy, hy0, hy1, hy2⟩ := trod_array3 hu h1 hm'
    obtain ⟨k0, e0, _, _⟩ := DataW.trod_int he hy0
    obtain ⟨k1, e1, _, _⟩ := DataW.trod_int he hy1
    obtain ⟨k2, e2, _, _⟩ := DataW.trod_int he hy2
    simp at e0 e1 e2
    exact ⟨k0, k1, k2, by rw [e0, e1, e2]⟩
end Go.Proofs.Ytkoklnnlhfjbjaa
