/- Rows' arguments opened: slices of operations and of bytes; what a row of laws over operations says. -/
import Derived.Test.YtfhcecfddejcdaaVply
import Derived.Test.YtfhcecfddejcdaaVlsu
import Derived.Deep.Slices
import Derived.ChangeSame
import Derived.ProofKit
import Derived.OpenShut
namespace Go.Proofs.Ytfhcecfddejcdaa
open Go.ChangeShapes Go.WideShapes Go.ChangeAt Go.RowKit Go.Deep

theorem vcell_lt {w : World} {b o : Nat} {v : Value} (h : w.cell? ⟨b, o, none⟩ = some v) : b < w.heap.size := by
  rcases Nat.lt_or_ge b w.heap.size with h' | h'
  · exact h'
  · simp [World.cell?, Array.getElem?_eq_none h'] at h
theorem u8of {n : Int} (h : (Lit.int .u8 n).wf = true) : ∃ m : Nat, n = (m : Int) ∧ m < 256 := by
  obtain ⟨a, e, ha⟩ := u8nat h
  exact ⟨a, e, ha⟩
theorem i64bd {n : Int} (h : (Lit.int .i64 n).wf = true) : -9223372036854775808 ≤ n ∧ n ≤ 9223372036854775807 := by
  simp [Lit.wf, IntKind.min, IntKind.max, IntKind.signed, IntKind.bits] at h
  omega
theorem op_fields : ∃ f0 f1 f2 f3 : Field, Try.prog.underlying 52 = some (.struct #[f0, f1, f2, f3]) ∧ f0.offset = 0 ∧ f1.offset = 1 ∧ f2.offset = 2 ∧ f3.offset = 3 ∧
    f0.type = 5 ∧ f1.type = 5 ∧ f2.type = 5 ∧ f3.type = 3 := ⟨_, _, _, _, Try.underlying52, rfl, rfl, rfl, rfl, rfl, rfl, rfl, rfl⟩
set_option maxRecDepth 100000 in
/-- one operation read off four cells -/
theorem read_op {H : Type} {enc : TypeId × Value → H} {W : World} {base : Nat} {sp : Nat → Bool} {held : Bool} {n : Nat} {cs : List Value} {x : DataW H × List MemPlace}
    (h : DataW.trod enc Try.prog W base sp held n 52 cs = some x) : ∃ o : OpV, o.ok ∧ cs = [.int .u8 (o.kind : Int), .int .u8 (o.sector : Int), .int .u8 (o.data : Int), .int .i64 o.num] := by
  obtain ⟨f0, f1, f2, f3, hu, o0, o1, o2, o3, t0, t1, t2, t3⟩ := op_fields
  obtain ⟨xs, m, _, _, hlen, _, hf⟩ := DataW.trod_struct hu h
  rw [show Try.prog.cellsOf 52 = 4 from by kernel_rfl] at hlen
  have c1 : Try.prog.cellsOf 5 = 1 := by kernel_rfl
  have c2 : Try.prog.cellsOf 3 = 1 := by kernel_rfl
  match cs, hlen with
  | [v0, v1, v2, v3], _ =>
    have g0 := hf 0 f0 rfl
    have g1 := hf 1 f1 rfl
    have g2 := hf 2 f2 rfl
    have g3 := hf 3 f3 rfl
    rw [o0, t0, c1] at g0
    rw [o1, t1, c1] at g1
    rw [o2, t2, c1] at g2
    rw [o3, t3, c2] at g3
    simp only [List.drop_zero, List.drop_succ_cons, List.take_succ_cons, List.take_zero] at g0 g1 g2 g3
    have some_ : ∀ i, i < 4 → ∃ y, xs[i]? = some y := fun i hi => ⟨xs[i]'(by simp_all), List.getElem?_eq_getElem (by simp_all)⟩
    obtain ⟨y0, e0⟩ := some_ 0 (by omega)
    obtain ⟨y1, e1⟩ := some_ 1 (by omega)
    obtain ⟨y2, e2⟩ := some_ 2 (by omega)
    obtain ⟨y3, e3⟩ := some_ 3 (by omega)
    obtain ⟨z0, q0, _, w0⟩ := DataW.trod_int Try.underlying5 (g0.trans e0)
    obtain ⟨z1, q1, _, w1⟩ := DataW.trod_int Try.underlying5 (g1.trans e1)
    obtain ⟨z2, q2, _, w2⟩ := DataW.trod_int Try.underlying5 (g2.trans e2)
    obtain ⟨z3, q3, _, w3⟩ := DataW.trod_int Try.underlying3 (g3.trans e3)
    obtain ⟨n0, rfl, b0⟩ := u8of w0
    obtain ⟨n1, rfl, b1⟩ := u8of w1
    obtain ⟨n2, rfl, b2⟩ := u8of w2
    simp at q0 q1 q2 q3
    exact ⟨⟨n0, n1, n2, z3⟩, ⟨b0, b1, b2, i64bd w3⟩, by rw [q0, q1, q2, q3]⟩
set_option maxRecDepth 100000 in
theorem open_ops {H : Type} {enc : TypeId × Value → H} {W : World} {base b0 : Nat} {sp : Nat → Bool} {held : Bool} {r : Reach} {v : Value} {d : DataW H} {ps : List MemPlace}
    (hv : Value.okWide Try.prog W r b0 40 v) (hd : DataW.Trod enc Try.prog W base sp held 40 v d ps) : ∃ l, Ops W v l := by
  obtain ⟨a, len, cap, rfl⟩ := okWide_slice Try.underlying40 hv
  obtain ⟨fuel, hf⟩ := hd
  rcases open_slice Try.underlying40 hf with ⟨hcs, _⟩ | ⟨a', len', cap', m, n, D, Pl, hcs, hb, hl, hm, hmm, _, hi⟩
  · simp [Value.cells] at hcs
    obtain ⟨rfl, rfl, rfl⟩ := hcs
    exact ⟨[], none, 0, rfl, Nat.zero_le _, fun h => absurd h (by simp)⟩
  · simp [Value.cells] at hcs
    obtain ⟨rfl, rfl, rfl⟩ := hcs
    rw [show Try.prog.cellsOf 52 = 4 from by kernel_rfl] at hi
    have hlm : len ≤ m := by
      rw [hmm]; split <;> omega
    have hex : ∀ i, ∃ o : OpV, i < len → o.ok ∧ ∀ j, j < 4 → W.cell? (a'.add (i * 4 + j)) = [Value.int .u8 (o.kind : Int), .int .u8 (o.sector : Int), .int .u8 (o.data : Int), .int .i64 o.num][j]? := by
      intro i
      by_cases hlt : i < len
      · obtain ⟨cs, hc, ht⟩ := hi i (by omega)
        obtain ⟨_, _, hat⟩ := World.cells?_some hc
        obtain ⟨o, ho, rfl⟩ := read_op ht
        refine ⟨o, fun _ => ⟨ho, fun j hj => ?_⟩⟩
        rw [← Go.Deep.add_add]
        exact hat j hj
      · exact ⟨⟨0, 0, 0, 0⟩, fun h => absurd h hlt⟩
    obtain ⟨f, hf⟩ := Classical.skolem.1 hex
    refine ⟨(List.range len).map f, some a', cap, by simp, by simp; omega, fun hp => ?_⟩
    simp at hp
    obtain ⟨b, off, spot⟩ := a'
    have hspot : spot = none := by
      have h0 : W.cell? ((⟨b, off, spot⟩ : Addr).add (0 * 4 + 0)) = some (.int .u8 ((f 0).kind : Int)) := (hf 0 hp).2 0 (by omega)
      have h1 := World.cell?_spot h0
      exact h1
    subst hspot
    have hcell : ∀ i, i < len → ∀ j, j < 4 → W.cell? ⟨b, off + i * 4 + j, none⟩ = [Value.int .u8 ((f i).kind : Int), .int .u8 ((f i).sector : Int), .int .u8 ((f i).data : Int), .int .i64 (f i).num][j]? := by
      intro i h j hj
      rw [← (hf i h).2 j hj, Go.WideShapes.add_plain, Nat.add_assoc]
    refine ⟨b, off, rfl, vcell_lt (hcell 0 hp 0 (by omega)), fun i h => ?_⟩
    simp at h
    simp only [List.getElem_map, List.getElem_range]
    exact ⟨(hf i h).1, hcell i h 0 (by omega), hcell i h 1 (by omega), hcell i h 2 (by omega), hcell i h 3 (by omega)⟩
set_option maxRecDepth 100000 in
theorem open_byts {H : Type} {enc : TypeId × Value → H} {W : World} {base b0 : Nat} {sp : Nat → Bool} {held : Bool} {r : Reach} {v : Value} {d : DataW H} {ps : List MemPlace}
    (hv : Value.okWide Try.prog W r b0 45 v) (hd : DataW.Trod enc Try.prog W base sp held 45 v d ps) : ∃ l, Byts W v l := by
  obtain ⟨a, len, cap, rfl⟩ := okWide_slice Try.underlying45 hv
  obtain ⟨fuel, hf⟩ := hd
  rcases open_ints Try.underlying45 Try.underlying5 (by kernel_rfl) hf with ⟨hcs, _⟩ | ⟨x, l, c, zs, hcs, _, hl, hm, hz, _, hcell, hwz⟩
  · simp [Value.cells] at hcs
    obtain ⟨rfl, rfl, rfl⟩ := hcs
    exact ⟨[], none, 0, rfl, Nat.zero_le _, fun h => absurd h (by simp)⟩
  · simp [Value.cells] at hcs
    obtain ⟨rfl, rfl, rfl⟩ := hcs
    have hlz : len ≤ zs.length := by rw [hz]; split <;> omega
    unfold maxLen at hm
    refine ⟨(List.range len).map fun i => UInt8.ofNat (zs.getD i 0).toNat, some x, cap, by simp, by simp; omega, fun hp => ?_⟩
    simp at hp
    obtain ⟨b, off, rfl, hc⟩ := ints_at hcell (by omega)
    refine ⟨b, off, rfl, vcell_lt (hc 0 (by omega)), fun j hj => ?_⟩
    simp at hj
    rw [hc j (by omega)]
    have hb := hwz (zs.getD j 0) (by simp [List.getD, List.getElem?_eq_getElem (show j < zs.length by omega)])
    obtain ⟨m, e, hm2⟩ := u8of hb
    simp only [List.getD_eq_getElem?_getD] at e
    simp [List.getD, List.getElem?_map, List.getElem?_range hj, e]
    omega
end Go.Proofs.Ytfhcecfddejcdaa
