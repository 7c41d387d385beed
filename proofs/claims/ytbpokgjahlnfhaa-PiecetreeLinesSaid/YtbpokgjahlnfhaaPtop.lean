/- Rows' arguments opened: slices of operations, one operation, an array of two numbers. -/
import Derived.Test.YtbpokgjahlnfhaaPtr
import Derived.Deep.Slices
import Derived.ChangeSame
import Derived.ProofKit
import Derived.OpenShut
namespace Go.Proofs.Ytbpokgjahlnfhaa
open Go.ChangeShapes Go.WideShapes Go.ChangeAt Go.RowKit Go.Deep

theorem vcell_lt {w : World} {b o : Nat} {v : Value} (h : w.cell? ⟨b, o, none⟩ = some v) : b < w.heap.size := by
  rcases Nat.lt_or_ge b w.heap.size with h' | h'
  · exact h'
  · simp [World.cell?, Array.getElem?_eq_none h'] at h
theorem u8of {n : Int} (h : (Lit.int .u8 n).wf = true) : ∃ m : Nat, n = (m : Int) ∧ m < 256 := by
  simp [Lit.wf, IntKind.min, IntKind.max, IntKind.signed, IntKind.bits] at h
  exact ⟨n.toNat, by omega, by omega⟩
theorem u16of {n : Int} (h : (Lit.int .u16 n).wf = true) : ∃ m : Nat, n = (m : Int) ∧ m < 65536 := by
  simp [Lit.wf, IntKind.min, IntKind.max, IntKind.signed, IntKind.bits] at h
  exact ⟨n.toNat, by omega, by omega⟩
theorem i64bd {n : Int} (h : (Lit.int .i64 n).wf = true) : -9223372036854775808 ≤ n ∧ n ≤ 9223372036854775807 := by
  simp [Lit.wf, IntKind.min, IntKind.max, IntKind.signed, IntKind.bits] at h
  omega
theorem op_fields : ∃ f0 f1 f2 f3 : Field, Try.prog.underlying 45 = some (.struct #[f0, f1, f2, f3]) ∧ f0.offset = 0 ∧ f1.offset = 1 ∧ f2.offset = 2 ∧ f3.offset = 3 ∧
    f0.type = 5 ∧ f1.type = 3 ∧ f2.type = 3 ∧ f3.type = 9 := ⟨_, _, _, _, Try.underlying45, rfl, rfl, rfl, rfl, rfl, rfl, rfl, rfl⟩
set_option maxRecDepth 100000 in
/-- one operation read off four cells -/
theorem read_op {H : Type} {enc : TypeId × Value → H} {W : World} {base : Nat} {sp : Nat → Bool} {held : Bool} {n : Nat} {cs : List Value} {x : DataW H × List MemPlace}
    (h : DataW.trod enc Try.prog W base sp held n 45 cs = some x) : ∃ o : OpP, o.ok ∧ cs = [.int .u8 (o.kind : Int), .int .i64 o.src, .int .i64 o.dst, .string o.text] := by
  obtain ⟨f0, f1, f2, f3, hu, o0, o1, o2, o3, t0, t1, t2, t3⟩ := op_fields
  obtain ⟨xs, m, _, _, hlen, _, hf⟩ := DataW.trod_struct hu h
  rw [show Try.prog.cellsOf 45 = 4 from by kernel_rfl] at hlen
  have c1 : Try.prog.cellsOf 5 = 1 := by kernel_rfl
  have c2 : Try.prog.cellsOf 3 = 1 := by kernel_rfl
  have c3 : Try.prog.cellsOf 9 = 1 := by kernel_rfl
  match cs, hlen with
  | [v0, v1, v2, v3], _ =>
    have g0 := hf 0 f0 rfl
    have g1 := hf 1 f1 rfl
    have g2 := hf 2 f2 rfl
    have g3 := hf 3 f3 rfl
    rw [o0, t0, c1] at g0
    rw [o1, t1, c2] at g1
    rw [o2, t2, c2] at g2
    rw [o3, t3, c3] at g3
    simp only [List.drop_zero, List.drop_succ_cons, List.take_succ_cons, List.take_zero] at g0 g1 g2 g3
    have some_ : ∀ i, i < 4 → ∃ y, xs[i]? = some y := fun i hi => ⟨xs[i]'(by simp_all), List.getElem?_eq_getElem (by simp_all)⟩
    obtain ⟨y0, e0⟩ := some_ 0 (by omega)
    obtain ⟨y1, e1⟩ := some_ 1 (by omega)
    obtain ⟨y2, e2⟩ := some_ 2 (by omega)
    obtain ⟨y3, e3⟩ := some_ 3 (by omega)
    obtain ⟨z0, q0, _, w0⟩ := DataW.trod_int Try.underlying5 (g0.trans e0)
    obtain ⟨z1, q1, _, w1⟩ := DataW.trod_int Try.underlying3 (g1.trans e1)
    obtain ⟨z2, q2, _, w2⟩ := DataW.trod_int Try.underlying3 (g2.trans e2)
    obtain ⟨z3, q3, _, w3⟩ := DataW.trod_string Try.underlying9 (g3.trans e3)
    obtain ⟨n0, rfl, b0⟩ := u8of w0
    simp at q0 q1 q2 q3
    exact ⟨⟨n0, z1, z2, z3⟩, ⟨b0, i64bd w1, i64bd w2, w3⟩, by rw [q0, q1, q2, q3]⟩
set_option maxRecDepth 100000 in
theorem open_ops {H : Type} {enc : TypeId × Value → H} {W : World} {base b0 : Nat} {sp : Nat → Bool} {held : Bool} {r : Reach} {v : Value} {d : DataW H} {ps : List MemPlace}
    (hv : Value.okWide Try.prog W r b0 33 v) (hd : DataW.Trod enc Try.prog W base sp held 33 v d ps) : ∃ l, Ops W v l := by
  obtain ⟨a, len, cap, rfl⟩ := okWide_slice Try.underlying33 hv
  obtain ⟨fuel, hf⟩ := hd
  rcases open_slice Try.underlying33 hf with ⟨hcs, _⟩ | ⟨a', len', cap', m, n, D, Pl, hcs, hb, hl, hm, hmm, _, hi⟩
  · simp [Value.cells] at hcs
    obtain ⟨rfl, rfl, rfl⟩ := hcs
    exact ⟨[], none, 0, rfl, Nat.zero_le _, fun h => absurd h (by simp)⟩
  · simp [Value.cells] at hcs
    obtain ⟨rfl, rfl, rfl⟩ := hcs
    rw [show Try.prog.cellsOf 45 = 4 from by kernel_rfl] at hi
    have hlm : len ≤ m := by
      rw [hmm]; split <;> omega
    have hex : ∀ i, ∃ o : OpP, i < len → o.ok ∧ ∀ j, j < 4 → W.cell? (a'.add (i * 4 + j)) = [Value.int .u8 (o.kind : Int), .int .i64 o.src, .int .i64 o.dst, .string o.text][j]? := by
      intro i
      by_cases hlt : i < len
      · obtain ⟨cs, hc, ht⟩ := hi i (by omega)
        obtain ⟨_, _, hat⟩ := World.cells?_some hc
        obtain ⟨o, ho, rfl⟩ := read_op ht
        refine ⟨o, fun _ => ⟨ho, fun j hj => ?_⟩⟩
        rw [← Go.Deep.add_add]
        exact hat j hj
      · exact ⟨⟨0, 0, 0, ⟨#[]⟩⟩, fun h => absurd h hlt⟩
    obtain ⟨f, hf⟩ := Classical.skolem.1 hex
    refine ⟨(List.range len).map f, some a', cap, by simp, by simp; omega, fun hp => ?_⟩
    simp at hp
    obtain ⟨b, off, spot⟩ := a'
    have hspot : spot = none := by
      have h0 : W.cell? ((⟨b, off, spot⟩ : Addr).add (0 * 4 + 0)) = some (.int .u8 ((f 0).kind : Int)) := (hf 0 hp).2 0 (by omega)
      have h1 := World.cell?_spot h0
      exact h1
    subst hspot
    have hcell : ∀ i, i < len → ∀ j, j < 4 → W.cell? ⟨b, off + i * 4 + j, none⟩ = [Value.int .u8 ((f i).kind : Int), .int .i64 (f i).src, .int .i64 (f i).dst, .string (f i).text][j]? := by
      intro i h j hj
      rw [← (hf i h).2 j hj, Go.WideShapes.add_plain, Nat.add_assoc]
    refine ⟨b, off, rfl, vcell_lt (hcell 0 hp 0 (by omega)), fun i h => ?_⟩
    simp at h
    simp only [List.getElem_map, List.getElem_range]
    exact ⟨(hf i h).1, hcell i h 0 (by omega), hcell i h 1 (by omega), hcell i h 2 (by omega), hcell i h 3 (by omega)⟩

theorem open_op {H : Type} {enc : TypeId × Value → H} {W : World} {base b0 : Nat} {sp : Nat → Bool} {held : Bool} {r : Reach} {v : Value} {d : DataW H} {ps : List MemPlace}
    (hv : Value.okWide Try.prog W r b0 45 v) (hd : DataW.Trod enc Try.prog W base sp held 45 v d ps) :
    ∃ o : OpP, o.ok ∧ v = .agg #[.int .u8 (o.kind : Int), .int .i64 o.src, .int .i64 o.dst, .string o.text] := by
  simp only [Value.okWide, Try.underlying45] at hv
  obtain ⟨cs, rfl, hs, _⟩ := hv
  obtain ⟨m, hm⟩ := hd
  obtain ⟨xs⟩ := cs
  have hm' : DataW.trod enc Try.prog W base sp held m 45 xs = some (d, ps) := by simpa [Value.cells] using hm
  obtain ⟨o, ho, e⟩ := read_op hm'
  exact ⟨o, ho, by rw [e]⟩
theorem trod_pair {H : Type} {enc : TypeId × Value → H} {P : Program} {w : World} {base : Nat} {spare : Nat → Bool} {held : Bool} {t e : TypeId} {fuel : Nat} {c0 c1 : Value} {x : DataW H × List MemPlace} (ht : P.underlying t = some (.array 2 e)) (hce : P.cellsOf e = 1)
    (h : DataW.trod enc P w base spare held fuel t [c0, c1] = some x) : ∃ y0 y1 n, DataW.trod enc P w base spare held n e [c0] = some y0 ∧ DataW.trod enc P w base spare held n e [c1] = some y1 := by
  cases fuel with
  | zero => simp [DataW.trod] at h
  | succ n =>
    unfold DataW.trod at h
    rw [ht] at h
    have r2 : List.range 2 = [0, 1] := rfl
    simp [r2, hce] at h
    obtain ⟨_, h⟩ := h
    cases h0 : DataW.trod enc P w base spare held n e [c0] with
    | none => simp [h0] at h
    | some y0 =>
      cases h1 : DataW.trod enc P w base spare held n e [c1] with
      | none => simp [h0, h1] at h
      | some y1 => exact ⟨y0, y1, n, h0, h1⟩
theorem open_arr2 {H : Type} {enc : TypeId × Value → H} {P : Program} {W : World} {base b0 : Nat} {sp : Nat → Bool} {held : Bool} {r : Reach} {k e : TypeId} {v : Value} {d : DataW H} {ps : List MemPlace}
    (hu : P.underlying k = some (.array 2 e)) (he : P.underlying e = some (.int .i64)) (h1 : P.cellsOf e = 1) (h3 : P.cellsOf k = 2) (hv : Value.okWide P W r b0 k v) (hd : DataW.Trod enc P W base sp held k v d ps) :
    ∃ a b : Int, v = .agg #[.int .i64 a, .int .i64 b] ∧ (-9223372036854775808 ≤ a ∧ a ≤ 9223372036854775807) ∧ (-9223372036854775808 ≤ b ∧ b ≤ 9223372036854775807) := by
  simp only [Value.okWide, hu] at hv
  obtain ⟨cs, rfl, hs, _⟩ := hv
  rw [h3] at hs
  obtain ⟨m, hm⟩ := hd
  obtain ⟨xs⟩ := cs
  match xs, hs with
  | [c0, c1], _ =>
    have hm' : DataW.trod enc P W base sp held m k [c0, c1] = some (d, ps) := by simpa [Value.cells] using hm
    obtain ⟨y0, y1, n, hy0, hy1⟩ := trod_pair hu h1 hm'
    obtain ⟨k0, e0, _, w0⟩ := DataW.trod_int he hy0
    obtain ⟨k1, e1, _, w1⟩ := DataW.trod_int he hy1
    simp at e0 e1
    exact ⟨k0, k1, by rw [e0, e1], i64bd w0, i64bd w1⟩
end Go.Proofs.Ytbpokgjahlnfhaa
