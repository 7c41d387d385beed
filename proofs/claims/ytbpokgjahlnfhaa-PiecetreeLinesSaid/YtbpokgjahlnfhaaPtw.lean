/- Nodes: mk walked. -/
import Derived.Test.YtbpokgjahlnfhaaPtn
import Derived.Test.YtbpokgjahlnfhaaPshf
import Derived.Deep.RegionWith
namespace Go.Proofs.Ytbpokgjahlnfhaa
open Go.RowKit

def Made (t : Tr) (w : World) (e : Ending) (w' : World) : Prop := ∃ v, e = .returned v ∧ Nd t w' v ∧ Below w.heap.size w w'

theorem countByte_feeds (l : List UInt8) : Lib.countByte l 10 = (l.filter (· == 10)).length := by
  unfold Lib.countByte
  rw [List.count_eq_countP, List.countP_eq_length_filter]

theorem scount_any (s : ByteArray) (w : World) : Calls Try.prog 48 #[.string s, .string ⟨#[10]⟩] w fun e w' => e = .returned (.int .i64 ((s.data.toList.filter (· == 10)).length : Int)) ∧ w = w' :=
  (Try.strings_Count_one s 10 w).mono fun e w' ⟨h1, h2⟩ => ⟨by rw [h1, countByte_feeds], h2.symm⟩

set_option maxHeartbeats 1000000 in
theorem mk_any (s : ByteArray) {l r : Tr} {w : World} {lv rv : Value} (hl : Nd l w lv) (hr : Nd r w rv) (hs : l.size + s.size + r.size ≤ 300000) (hc : l.count + r.count + 1 ≤ 300000) :
    Calls Try.prog 35 #[lv, .string s, rv] w (Made (.node l s.data.toList r) w) := by
  have h1 := Tr.high_le l
  have h2 := Tr.high_le r
  have h3 := Tr.feeds_le l
  have h4 := Tr.feeds_le r
  have h5 : (s.data.toList.filter (· == 10)).length ≤ s.size := Nat.le_trans (List.length_filter_le _ _) (by simp)
  obtain ⟨a, rfl⟩ := hl.ptr
  obtain ⟨b, rfl⟩ := hr.ptr
  go_enter Try.func35, Try.ntmps35
  go_wp2_with fail
  refine (count_any hl).mono ?_
  rintro e w1 ⟨rfl, n1, rfl⟩
  go_wp2_with fail
  refine (count_any (hr.drewN _)).mono ?_
  rintro e w1 ⟨rfl, n2, rfl⟩
  have hl2 := (hl.drewN n1).drewN n2
  have hr2 := (hr.drewN n1).drewN n2
  have hB : Below w.heap.size w ((w.drewN n1).drewN n2) := below_drewN (below_drewN (Below.refl _ _) _) _
  generalize (w.drewN n1).drewN n2 = w2 at *
  clear hl hr
  go_wp2_with (first
    | (go_at_call_of 36 (Value.pointer a); refine (len_any hl2).mono ?_; rintro e w' ⟨rfl, rfl⟩)
    | (go_at_call_of 36 (Value.pointer b); refine (len_any hr2).mono ?_; rintro e w' ⟨rfl, rfl⟩)
    | (go_at_call_of 46 (Value.pointer a); refine (high_any hl2).mono ?_; rintro e w' ⟨rfl, rfl⟩)
    | (go_at_call_of 46 (Value.pointer b); refine (high_any hr2).mono ?_; rintro e w' ⟨rfl, rfl⟩)
    | (go_at_call 48; refine (scount_any s _).mono ?_; rintro e w' ⟨rfl, rfl⟩))
  go_ret
  refine ⟨_, rfl, ⟨w2.heap.size, _, _, s, rfl, rfl, ?_, hl2.alloc _, hr2.alloc _⟩, hB.alloc hB.size _⟩
  have e0 : s.data.toList.length = s.size := by simp
  have e1 : ((Tr.node l s.data.toList r).size : Int) = (l.size : Int) + (s.size : Int) + (r.size : Int) := by rw [Tr.size_node, e0]; omega
  have e2 : ((Tr.node l s.data.toList r).count : Int) = (l.count : Int) + (r.count : Int) + 1 := by simp only [Tr.count]; omega
  have e3 : ((Tr.node l s.data.toList r).high : Int) = 1 + max (l.high : Int) (r.high : Int) := by simp only [Tr.high]; omega
  have e4 : ((Tr.node l s.data.toList r).feeds : Int) = (l.feeds : Int) + (r.feeds : Int) + ((s.data.toList.filter (· == 10)).length : Int) := by rw [Tr.feeds_node]; omega
  rw [e1, e2, e3, e4]
  exact Blk.new w2 _ _
end Go.Proofs.Ytbpokgjahlnfhaa
