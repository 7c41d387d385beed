/- The laws Plays, Balances: walked. -/
import Derived.Test.YtbpokgjahlnfhaaPtr
namespace Go.Proofs.Ytbpokgjahlnfhaa
open Go.RowKit Go.Shelf

theorem Ops.shape {w : World} {v : Value} {l : List OpP} (h : Ops w v l) : ∃ ao cap, v = .slice ao l.length cap := by
  obtain ⟨ao, cap, h1, _⟩ := h; exact ⟨ao, cap, h1⟩
/-- what a row of laws says -/
def LawPost (w : World) (e : Ending) (w' : World) : Prop := e = .returned (.bool true) ∧ Below w.heap.size w w'
def cut300 (s : ByteArray) : ByteArray := s.extract 0 (min s.size 300)
theorem cut300_size (s : ByteArray) : (cut300 s).size ≤ 300 := by
  unfold cut300
  simp
  omega
set_option maxHeartbeats 1000000 in
theorem plays_row {s : ByteArray} {w : World} {v : Value} {l : List OpP} (hs : s.size ≤ maxLen) (hops : Ops w v l) : Calls Try.prog 4 #[.string s, v] w (LawPost w) := by
  have hc := cut300_size s
  obtain ⟨ao, cap, rfl⟩ := hops.shape
  have HO := Lib.hid hops
  clear hops
  go_enter Try.func4, Try.ntmps4
  go_wp2_with (first
    | (go_at_call 13; refine (known_any _).mono ?_; rintro e w1 ⟨rfl, hb1⟩)
    | (go_at_call 20; refine (cut_any s _ hs).mono ?_; rintro e w2 ⟨rfl, rfl⟩)
    | (go_at_call 19; refine (run_any (cut300 s) hc (HO.out.below hb1)).mono ?_; rintro e w3 ⟨tb, rfl, hT, hb3, _⟩))
  go_ret
  exact ⟨rfl, hb1.trans (hb3.mono hb1.size)⟩
end Go.Proofs.Ytbpokgjahlnfhaa
