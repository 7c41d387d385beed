/- Rows' arguments opened: a pattern, a dictionary, an array of two small numbers. -/
import Derived.Test.YtdcdlmigagjbiaaDoorKi
import Derived.Deep.Slices
import Derived.Lib.SmallJoins
import Derived.ChangeSame
import Derived.ProofKit
import Derived.OpenShut
namespace Go.Proofs.YtdcdlmigagjbiaaDoor
open Go.ChangeShapes Go.WideShapes Go.ChangeAt Go.RowKit Go.Deep
theorem Ints.nil (w : World) : Ints w (.slice none 0 0) [] := ⟨none, 0, rfl, Nat.le_refl _, by unfold maxLen; omega, fun h => absurd h (by simp)⟩
theorem cell_lt {w : World} {b o : Nat} {v : Value} (h : w.cell? ⟨b, o, none⟩ = some v) : b < w.heap.size := by
  rcases Nat.lt_or_ge b w.heap.size with h' | h'
  · exact h'
  · simp [World.cell?, Array.getElem?_eq_none h'] at h
theorem i64bd {n : Int} (h : (Lit.int .i64 n).wf = true) : -9223372036854775808 ≤ n ∧ n ≤ 9223372036854775807 := by
  simp [Lit.wf, IntKind.min, IntKind.max, IntKind.signed, IntKind.bits] at h
  omega
theorem str_back (a : ByteArray) : (⟨a.data.toList.toArray⟩ : ByteArray) = a := by cases a; simp
theorem u8of {n : Int} (h : (Lit.int .u8 n).wf = true) : ∃ m : Nat, n = (m : Int) ∧ m < 256 := by
  simp [Lit.wf, IntKind.min, IntKind.max, IntKind.signed, IntKind.bits] at h
  exact ⟨n.toNat, by omega, by omega⟩
theorem one_val {v a : Value} (h : [v] = [a]) : v = a := by simpa using h
theorem ints_trod {H : Type} {enc : TypeId × Value → H} {W : World} {base : Nat} {sp : Nat → Bool} {held : Bool} {n : Nat} {v : Value} {y : DataW H × List MemPlace}
    (h : DataW.trod enc Tryd.prog W base sp held n 26 [v] = some y) : ∃ l, Ints W v l := by
  rcases open_ints Tryd.underlying26 Tryd.underlying3 (by kernel_rfl) h with ⟨hcs, _⟩ | ⟨x, l, c, zs, hcs, _, hl, hm, hz, _, hcell, _⟩
  · obtain rfl := one_val hcs
    exact ⟨[], Ints.nil W⟩
  · obtain rfl := one_val hcs
    have hlz : l ≤ zs.length := by rw [hz]; split <;> omega
    unfold maxLen at hm
    have hlen : (zs.take l).length = l := by rw [List.length_take]; omega
    refine ⟨zs.take l, some x, c, by rw [hlen], by rw [hlen]; exact hl, by unfold maxLen; exact hm, fun hp => ?_⟩
    rw [hlen] at hp
    obtain ⟨b, off, rfl, hc⟩ := ints_at hcell (by omega)
    refine ⟨b, off, rfl, cell_lt (hc 0 (by omega)), fun j hj => ?_⟩
    rw [hlen] at hj
    rw [hc j (by omega)]
    simp [List.getD, hj]
theorem strs_trod {H : Type} {enc : TypeId × Value → H} {W : World} {base : Nat} {sp : Nat → Bool} {held : Bool} {n : Nat} {v : Value} {y : DataW H × List MemPlace}
    (h : DataW.trod enc Tryd.prog W base sp held n 28 [v] = some y) : ∃ l, Strs W v l := by
  rcases open_slice1 Tryd.underlying28 (by kernel_rfl) h with ⟨hcs, _⟩ | ⟨a, len, cap, m, n', V, D, Pl, hcs, _, hl, hm, hmm, _, hi⟩
  · obtain rfl := one_val hcs
    exact ⟨[], none, 0, rfl, fun h => absurd h (by simp)⟩
  · obtain rfl := one_val hcs
    have hlm : len ≤ m := by
      rw [hmm]; split <;> omega
    have hex : ∀ i, ∃ s : List UInt8, i < len → W.cell? (a.add i) = some (.string ⟨s.toArray⟩) := by
      intro i
      by_cases hlt : i < len
      · obtain ⟨hc, ht⟩ := hi i (by omega)
        obtain ⟨s, q, _, _⟩ := DataW.trod_string Tryd.underlying9 ht
        exact ⟨s.data.toList, fun _ => by rw [hc, one_val q]⟩
      · exact ⟨[], fun h => absurd h hlt⟩
    obtain ⟨f, hf⟩ := Classical.skolem.1 hex
    refine ⟨(List.range len).map f, some a, cap, by simp, fun hp => ?_⟩
    simp at hp
    obtain ⟨b, off, spot⟩ := a
    have hspot : spot = none := World.cell?_spot (hf 0 hp)
    subst hspot
    have hcell : ∀ i, i < len → W.cell? ⟨b, off + i, none⟩ = some (.string ⟨(f i).toArray⟩) := by
      intro i h
      rw [← hf i h, Go.WideShapes.add_plain]
    refine ⟨b, off, rfl, cell_lt (hcell 0 hp), fun j hj => ?_⟩
    simp at hj
    rw [hcell j hj]
    simp [List.getD, hj]
theorem pat_fields : ∃ f0 f1 f2 f3 : Field, Tryd.prog.underlying 33 = some (.struct #[f0, f1, f2, f3]) ∧ oneCellFields Tryd.prog #[f0, f1, f2, f3] = true ∧
    f0.type = 9 ∧ f1.type = 26 ∧ f2.type = 4 ∧ f3.type = 4 := ⟨_, _, _, _, Tryd.underlying33, by kernel_rfl, rfl, rfl, rfl, rfl⟩
set_option maxRecDepth 100000 in
theorem open_pat {H : Type} {enc : TypeId × Value → H} {W : World} {base b0 : Nat} {sp : Nat → Bool} {held : Bool} {r : Reach} {v : Value} {d : DataW H} {ps : List MemPlace}
    (hv : Value.okWide Tryd.prog W r b0 33 v) (hd : DataW.Trod enc Tryd.prog W base sp held 33 v d ps) : ∃ P : Pat, ∃ pv, v = patV P pv ∧ Ints W pv P.levels := by
  obtain ⟨f0, f1, f2, f3, hu, ho, t0, t1, t2, t3⟩ := pat_fields
  obtain ⟨v0, v1, v2, v3, y0, y1, y2, y3, n, rfl, _, _, h0, h1, h2, h3⟩ := Go.Joins.open_agg4 hu ho (by kernel_rfl) hv hd
  rw [t0] at h0
  rw [t1] at h1
  rw [t2] at h2
  rw [t3] at h3
  obtain ⟨s, q0, _, _⟩ := DataW.trod_string Tryd.underlying9 h0
  obtain ⟨l, hl⟩ := ints_trod h1
  obtain ⟨a, q2, _⟩ := DataW.trod_bool Tryd.underlying4 h2
  obtain ⟨b, q3, _⟩ := DataW.trod_bool Tryd.underlying4 h3
  obtain rfl := one_val q0
  obtain rfl := one_val q2
  obtain rfl := one_val q3
  exact ⟨⟨s.data.toList, l, a, b⟩, v1, by unfold patV; rw [str_back], hl⟩
theorem dict_fields : ∃ f0 f1 f2 f3 : Field, Tryd.prog.underlying 44 = some (.struct #[f0, f1, f2, f3]) ∧ oneCellFields Tryd.prog #[f0, f1, f2, f3] = true ∧
    f0.type = 28 ∧ f1.type = 28 ∧ f2.type = 3 ∧ f3.type = 3 := ⟨_, _, _, _, Tryd.underlying44, by kernel_rfl, rfl, rfl, rfl, rfl⟩
/-- a dictionary: the values of its patterns and exceptions, what they read as, the minima -/
structure DictV where
  pv : Value
  ev : Value
  pats : List (List UInt8)
  exs : List (List UInt8)
  left : Int
  right : Int
def DictV.val (d : DictV) : Value := .agg #[d.pv, d.ev, .int .i64 d.left, .int .i64 d.right]
structure DictV.At (d : DictV) (W : World) : Prop where
  pats : Strs W d.pv d.pats
  exs : Strs W d.ev d.exs
  left : -9223372036854775808 ≤ d.left ∧ d.left ≤ 9223372036854775807
  right : -9223372036854775808 ≤ d.right ∧ d.right ≤ 9223372036854775807
set_option maxRecDepth 100000 in
theorem open_dict {H : Type} {enc : TypeId × Value → H} {W : World} {base b0 : Nat} {sp : Nat → Bool} {held : Bool} {r : Reach} {v : Value} {d : DataW H} {ps : List MemPlace}
    (hv : Value.okWide Tryd.prog W r b0 44 v) (hd : DataW.Trod enc Tryd.prog W base sp held 44 v d ps) : ∃ D : DictV, v = D.val ∧ D.At W := by
  obtain ⟨f0, f1, f2, f3, hu, ho, t0, t1, t2, t3⟩ := dict_fields
  obtain ⟨v0, v1, v2, v3, y0, y1, y2, y3, n, rfl, _, _, h0, h1, h2, h3⟩ := Go.Joins.open_agg4 hu ho (by kernel_rfl) hv hd
  rw [t0] at h0
  rw [t1] at h1
  rw [t2] at h2
  rw [t3] at h3
  obtain ⟨l, hl⟩ := strs_trod h0
  obtain ⟨m, hm⟩ := strs_trod h1
  obtain ⟨a, q2, _, w2⟩ := DataW.trod_int Tryd.underlying3 h2
  obtain ⟨b, q3, _, w3⟩ := DataW.trod_int Tryd.underlying3 h3
  obtain rfl := one_val q2
  obtain rfl := one_val q3
  exact ⟨⟨v0, v1, l, m, a, b⟩, rfl, hl, hm, i64bd w2, i64bd w3⟩
theorem trod_pair {H : Type} {enc : TypeId × Value → H} {P : Program} {w : World} {base : Nat} {spare : Nat → Bool} {held : Bool} {t e : TypeId} {fuel : Nat} {c0 c1 : Value} {x : DataW H × List MemPlace} (ht : P.underlying t = some (.array 2 e)) (hce : P.cellsOf e = 1)
    (h : DataW.trod enc P w base spare held fuel t [c0, c1] = some x) : ∃ y0 y1 n, DataW.trod enc P w base spare held n e [c0] = some y0 ∧ DataW.trod enc P w base spare held n e [c1] = some y1 := by
  cases fuel with
  | zero => simp [DataW.trod] at h
  | succ n =>
    unfold DataW.trod at h
    rw [ht] at h
    have r2 : List.range 2 = [0, 1] := rfl
    simp [r2, hce] at h
    obtain ⟨_, h⟩ := h
    cases h0 : DataW.trod enc P w base spare held n e [c0] with
    | none => simp [h0] at h
    | some y0 =>
      cases h1 : DataW.trod enc P w base spare held n e [c1] with
      | none => simp [h0, h1] at h
      | some y1 => exact ⟨y0, y1, n, h0, h1⟩
set_option linter.constructorNameAsVariable false in
theorem open_two {H : Type} {enc : TypeId × Value → H} {W : World} {base b0 : Nat} {sp : Nat → Bool} {held : Bool} {r : Reach} {v : Value} {d : DataW H} {ps : List MemPlace}
    (hv : Value.okWide Tryd.prog W r b0 60 v) (hd : DataW.Trod enc Tryd.prog W base sp held 60 v d ps) :
    ∃ a b : Nat, v = .agg #[.int .u8 (a : Int), .int .u8 (b : Int)] ∧ a < 256 ∧ b < 256 := by
  simp only [Value.okWide, Tryd.underlying60] at hv
  obtain ⟨cs, rfl, hs, _⟩ := hv
  rw [show Tryd.prog.cellsOf 60 = 2 from by kernel_rfl] at hs
  obtain ⟨m, hm⟩ := hd
  obtain ⟨xs⟩ := cs
  match xs, hs with
  | [c0, c1], _ =>
    have hm' : DataW.trod enc Tryd.prog W base sp held m 60 [c0, c1] = some (d, ps) := by simpa [Value.cells] using hm
    obtain ⟨y0, y1, n, hy0, hy1⟩ := trod_pair Tryd.underlying60 (by kernel_rfl) hm'
    obtain ⟨k0, e0, _, w0⟩ := DataW.trod_int Tryd.underlying5 hy0
    obtain ⟨k1, e1, _, w1⟩ := DataW.trod_int Tryd.underlying5 hy1
    obtain ⟨a, rfl, ha⟩ := u8of w0
    obtain ⟨b, rfl, hb⟩ := u8of w1
    simp at e0 e1
    exact ⟨a, b, by rw [e0, e1], ha, hb⟩
end Go.Proofs.YtdcdlmigagjbiaaDoor
