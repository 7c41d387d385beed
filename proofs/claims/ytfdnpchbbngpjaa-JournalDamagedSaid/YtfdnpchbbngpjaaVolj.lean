/- A device: Start. -/
import Derived.Test.YtfdnpchbbngpjaaVoli
import Derived.Deep.RegionHeld3
import Derived.Deep.DrawnRows
namespace Go.Proofs.Ytfdnpchbbngpjaa
attribute [local go_sem ↓] Go.wp_at_zero Go.wp_at_succ
open Go.RowKit Go.Maps

/-- the value is a slice of bytes that reads as the list -/
def Byts (w : World) (v : Value) (l : List UInt8) : Prop :=
  ∃ ao cap, v = .slice ao l.length cap ∧ l.length ≤ 9223372036854775807 ∧ (0 < l.length → ∃ b off, ao = some ⟨b, off, none⟩ ∧ b < w.heap.size ∧ ∀ j, j < l.length → w.cell? ⟨b, off + j, none⟩ = some (.int .u8 ((l.getD j 0).toNat : Int)))
theorem Byts.turn {w w' : World} {v : Value} {l : List UInt8} (h : Byts w v l) {F : List Nat} (ht : Turn F w w') (hn : ∀ i, v.ownBlock = some i → i ∉ F) : Byts w' v l := by
  obtain ⟨ao, cap, rfl, h2, h3⟩ := h
  refine ⟨ao, cap, rfl, h2, fun hl => ?_⟩
  obtain ⟨b, off, rfl, hb, hc⟩ := h3 hl
  have hnb := hn b rfl
  exact ⟨b, off, rfl, Nat.lt_of_lt_of_le hb ht.size, fun j hj => (ht.cell (p := ⟨b, off + j, none⟩) hb hnb).trans (hc j hj)⟩

theorem Vol.drewN {w : World} {vb : Nat} {st : VS} {mb : Nat} {pv : Value} (h : Vol w vb st mb pv) (n : Nat) : Vol (w.drewN n) vb st mb pv := h.turn (G := []) ((Turn.refl [] w).drewN n) (fun _ _ => by simp)
theorem Vol.drew {w : World} {vb : Nat} {st : VS} {mb : Nat} {pv : Value} (h : Vol w vb st mb pv) : Vol w.drew vb st mb pv := h.turn (G := []) ((Turn.refl [] w).drew) (fun _ _ => by simp)

theorem settle_step {ps : List (Nat × ByteArray)} {cs : List UInt8} {ds : List ByteArray} {k : Nat} {p : Nat × ByteArray} (h : ps[k]? = some p) :
    settle (ps.drop k) (cs.drop k) ds = settle (ps.drop (k + 1)) (cs.drop (k + 1)) (ds.set p.1 (surv (ds.getD p.1 zb) p.2 (cs.getD k 0).toNat)) := by
  obtain ⟨hk, he⟩ := List.getElem?_eq_some_iff.1 h
  rw [List.drop_eq_getElem_cons hk, he]
  have e1 : (cs.drop k).tail = cs.drop (k + 1) := by simp
  have e2 : (cs.drop k).headD 0 = cs.getD k 0 := by simp [List.headD_eq_head?_getD]
  show settle (ps.drop (k + 1)) (cs.drop k).tail (ds.set p.1 (surv (ds.getD p.1 zb) p.2 ((cs.drop k).headD 0).toNat)) = _
  rw [e1, e2]

def StartPost (F : List Nat) (w : World) (vb : Nat) (st : VS) (e : Ending) (w' : World) : Prop := e = .returned (.tuple #[]) ∧ Step F w w' vb st
theorem barrier_any {w : World} {vb : Nat} {st : VS} {F : List Nat} (h : VolF w vb st F) :
    Calls Try.prog 50 #[.pointer (some ⟨vb, 0, none⟩)] w fun e w' => e = .returned (.int .i64 (st.barrier.1 : Int)) ∧ Step F w w' vb st.barrier.2 := by
  obtain ⟨mb, pv, h, rfl⟩ := h
  by_cases hd : st.down = true
  · rw [show st.barrier = (36, st) from by unfold VS.barrier; rw [if_pos hd]]
    exact (barrier_down h hd).mono fun e w' ⟨he, hw⟩ => by subst hw; exact ⟨he, _, ⟨mb, pv, h, rfl⟩, Turn.refl _ _, fun i hi => .inl hi⟩
  · have hd' : st.down = false := by simpa using hd
    by_cases ht : st.tick.1 = true
    · rw [show st.barrier = (36, st.tick.2) from by unfold VS.barrier; rw [if_neg hd]; simp only; rw [if_pos ht]]
      exact (barrier_fails h hd' ht).mono fun e w' ⟨he, hv, hT⟩ => ⟨he, _, ⟨mb, pv, hv, rfl⟩, hT.mono (fun i hi => by simp at hi; subst hi; exact Vol.foot_vb), fun i hi => .inl hi⟩
    · have ht' : st.tick.1 = false := by simpa using ht
      rw [show st.barrier = (0, { st.tick.2 with dur := flush st.pend st.dur, pend := [] }) from by unfold VS.barrier; rw [if_neg hd]; simp only; rw [if_neg ht, st.tick_dur.1, st.tick_dur.2]]
      exact barrier_ok h hd' ht'
end Go.Proofs.Ytfdnpchbbngpjaa
