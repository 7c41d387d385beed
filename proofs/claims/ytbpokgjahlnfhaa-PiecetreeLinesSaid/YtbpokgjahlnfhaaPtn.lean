/- Nodes in memory; the small methods of nodes walked. -/
import Derived.Test.YtbpokgjahlnfhaaPtq
import Derived.Test.YtbpokgjahlnfhaaTur
import Derived.Test.YtbpokgjahlnfhaaRows
import Derived.Outline
import Derived.Deep.QuietTactic
import Derived.BigQuiet
namespace Go.Proofs.Ytbpokgjahlnfhaa
open Go.RowKit

/-- the value is a node that is the root of the tree -/
def Nd : Tr → World → Value → Prop
  | .nil, _, v => v = .pointer none
  | .node l p r, w, v => ∃ (b : Nat) (lv rv : Value) (s : ByteArray), v = .pointer (some ⟨b, 0, none⟩) ∧ s.data.toList = p ∧
      Blk w b 82 #[lv, rv, .string s, .int .i64 ((Tr.node l p r).size : Int), .int .i64 ((Tr.node l p r).count : Int), .int .i64 ((Tr.node l p r).high : Int), .int .i64 ((Tr.node l p r).feeds : Int)] ∧ Nd l w lv ∧ Nd r w rv

theorem Nd.turn {t : Tr} {w w' : World} {v : Value} {F : List Nat} (h : Nd t w v) (ht : Turn F w w') (hF : ∀ i, i ∈ F → ∃ u cs, Blk w i u cs ∧ u ≠ 82) : Nd t w' v := by
  induction t generalizing v with
  | nil => exact h
  | node l p r ihl ihr =>
    obtain ⟨b, lv, rv, s, h1, h2, h3, h4, h5⟩ := h
    refine ⟨b, lv, rv, s, h1, h2, h3.turn ht (fun hi => ?_), ihl h4, ihr h5⟩
    obtain ⟨u, cs, hb, hn⟩ := hF b hi
    exact Blk.ne_ h3 hb (fun e => hn e.symm) rfl
theorem Nd.below {t : Tr} {w w' : World} {v : Value} (h : Nd t w v) (hb : Below w.heap.size w w') : Nd t w' v :=
  h.turn (F := []) (Turn.ofBelow hb (Nat.le_refl _)) (fun _ hi => by cases hi)
theorem Nd.alloc {t : Tr} {w : World} {v : Value} (h : Nd t w v) (o : Obj) : Nd t (w.alloc o) v := h.below ((Below.refl _ w).alloc (Nat.le_refl _) _)
theorem Nd.drewN {t : Tr} {w : World} {v : Value} (h : Nd t w v) (n : Nat) : Nd t (w.drewN n) v := h.turn (F := []) ((Turn.refl _ w).drewN n) (fun _ hi => by cases hi)
theorem Nd.drew {t : Tr} {w : World} {v : Value} (h : Nd t w v) : Nd t w.drew v := h.turn (F := []) (Turn.refl _ w).drew (fun _ hi => by cases hi)
theorem Nd.nil_ptr {w : World} {v : Value} (h : Nd .nil w v) : v = .pointer none := h
theorem Nd.ptr {t : Tr} {w : World} {v : Value} (h : Nd t w v) : ∃ a, v = .pointer a := by
  cases t with
  | nil => exact ⟨_, h⟩
  | node l p r => obtain ⟨b, _, _, _, h1, _⟩ := h; exact ⟨_, h1⟩

theorem len_any {t : Tr} {w : World} {v : Value} (h : Nd t w v) : Calls Try.prog 36 #[v] w fun e w' => e = .returned (.int .i64 (t.size : Int)) ∧ w = w' := by
  cases t with
  | nil =>
    obtain rfl := h.nil_ptr
    clear h
    go_enter Try.func36, Try.ntmps36
    go_wp2
    go_ret
    exact ⟨rfl, rfl⟩
  | node l p r =>
    obtain ⟨b, lv, rv, s, rfl, hs, hb, _, _⟩ := h
    have c3 := hb.cell 3
    simp at c3
    clear hb hs
    go_enter Try.func36, Try.ntmps36
    go_wp2
    go_ret
    exact ⟨rfl, rfl⟩
theorem high_any {t : Tr} {w : World} {v : Value} (h : Nd t w v) : Calls Try.prog 46 #[v] w fun e w' => e = .returned (.int .i64 (t.high : Int)) ∧ w = w' := by
  cases t with
  | nil =>
    obtain rfl := h.nil_ptr
    clear h
    go_enter Try.func46, Try.ntmps46
    go_wp2
    go_ret
    exact ⟨rfl, rfl⟩
  | node l p r =>
    obtain ⟨b, lv, rv, s, rfl, hs, hb, _, _⟩ := h
    have c5 := hb.cell 5
    simp at c5
    clear hb hs
    go_enter Try.func46, Try.ntmps46
    go_wp2
    go_ret
    exact ⟨rfl, rfl⟩
theorem count_any {t : Tr} {w : World} {v : Value} (h : Nd t w v) : Calls Try.prog 45 #[v] w fun e w' => e = .returned (.tuple #[.int .i64 (t.count : Int), .int .i64 (t.feeds : Int)]) ∧ ∃ n, w' = w.drewN n := by
  cases t with
  | nil =>
    obtain rfl := h.nil_ptr
    clear h
    go_enter Try.func45, Try.ntmps45
    go_wp2
    go_ret2
    exact ⟨rfl, 0, rfl⟩
  | node l p r =>
    obtain ⟨b, lv, rv, s, rfl, hs, hb, _, _⟩ := h
    have c4 := hb.cell 4
    have c6 := hb.cell 6
    simp at c4 c6
    clear hb hs
    go_enter Try.func45, Try.ntmps45
    go_wp2
    go_quiet (fail)
    go_wp2
    go_ret2
    exact ⟨rfl, _, rfl⟩
end Go.Proofs.Ytbpokgjahlnfhaa
