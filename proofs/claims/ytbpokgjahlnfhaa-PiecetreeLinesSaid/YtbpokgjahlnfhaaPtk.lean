/- Nodes: last, concat. -/
import Derived.Test.YtbpokgjahlnfhaaPtj
namespace Go.Proofs.Ytbpokgjahlnfhaa
open Go.RowKit

theorem Tr.size_last {l : Tr} {p : List UInt8} {r : Tr} : (Tr.last (.node l p r)).1.size + (Tr.last (.node l p r)).2.length = (Tr.node l p r).size := by
  have := congrArg List.length (@Tr.bytes_last (.node l p r))
  simpa [Tr.size] using this
def Lasted (t : Tr) (w : World) (e : Ending) (w' : World) : Prop := ∃ (v : Value) (s : ByteArray), e = .returned (.tuple #[v, .string s]) ∧ Nd (Tr.last t).1 w' v ∧ s.data.toList = (Tr.last t).2 ∧ Below w.heap.size w w'
theorem Nd.node_ptr {l : Tr} {p : List UInt8} {r : Tr} {w : World} {v : Value} (h : Nd (.node l p r) w v) : ∃ b : Nat, v = .pointer (some ⟨b, 0, none⟩) := by
  obtain ⟨b, _, _, _, h1, _⟩ := h; exact ⟨b, h1⟩
set_option maxHeartbeats 4000000 in
set_option maxRecDepth 100000 in
theorem last_any {l : Tr} {p : List UInt8} {r : Tr} {w : World} {v : Value} (h : Nd (.node l p r) w v) (hs : (Tr.node l p r).size ≤ 300000) (hc : (Tr.node l p r).count ≤ 300000) :
    Calls Try.prog 49 #[v] w (Lasted (.node l p r) w) := by
  induction r generalizing l p v w with
  | nil =>
    obtain ⟨b, la, ra, qs, rfl, rfl, hb, ha, hr⟩ := h
    obtain rfl := hr.nil_ptr
    obtain ⟨pa, rfl⟩ := ha.ptr
    have c0 := hb.cell 0
    have c1 := hb.cell 1
    have c2 := hb.cell 2
    simp at c0 c1 c2
    have HA := Lib.hid ha
    clear ha hr hs hc hb
    go_enter Try.func49, Try.ntmps49
    go_wp2
    go_quiet (fail)
    go_wp2
    go_ret2
    exact ⟨_, _, rfl, HA.out.drewN _, rfl, below_drewN (Below.refl _ _) _⟩
  | node x q y _ ih =>
    obtain ⟨b, la, ra, qs, rfl, rfl, hb, ha, hr⟩ := h
    obtain ⟨br, rfl⟩ := hr.node_ptr
    obtain ⟨pa, rfl⟩ := ha.ptr
    have z2 : qs.data.toList.length = qs.size := by simp
    have hsz := @Tr.size_last x q y
    have hct := @Tr.count_last x q y
    have g0 : (Tr.node x q y).size ≤ 300000 := by simp only [Tr.size_node] at hs ⊢; omega
    have e0 : (Tr.node x q y).count ≤ 300000 := by simp only [Tr.count] at hc ⊢; omega
    have g1 : l.size + qs.size + (Tr.last (.node x q y)).1.size ≤ 300000 := by rw [Tr.size_node] at hs; omega
    have e1 : l.count + (Tr.last (.node x q y)).1.count + 1 ≤ 300000 := by rw [show (Tr.node l qs.data.toList (Tr.node x q y)).count = l.count + (Tr.node x q y).count + 1 from rfl] at hc; omega
    have HR := Lib.hid (fun (w' : World) (k1 : Nd (.node x q y) w' (.pointer (some ⟨br, 0, none⟩))) => ih k1 g0 e0)
    have c0 := hb.cell 0
    have c1 := hb.cell 1
    have c2 := hb.cell 2
    have lt := hb.lt
    simp at c0 c1 c2
    clear ih hb hs hc hsz hct
    go_enter Try.func49, Try.ntmps49
    go_wp2_with (go_at_call 49; refine (HR.out _ hr).mono ?_; rintro e w1 ⟨v1, ps, rfl, hn1, hp, hb1⟩; have c0 := (hb1.cell (p := ⟨b, 0, none⟩) lt).trans c0; have c2 := (hb1.cell (p := ⟨b, 2, none⟩) lt).trans c2; have lt1 := Nat.lt_of_lt_of_le lt hb1.size; have ha1 := ha.below hb1)
    go_region_held3 (fun w' => w'.cell? ⟨b, 0, none⟩ = some (Value.pointer pa) ∧ w'.cell? ⟨b, 2, none⟩ = some (Value.string qs))
      (first | go_keep)
      (first
        | (go_at_call 50; refine (bal_any qs (ha1.drewN _) (hn1.drewN _) g1 e1).mono ?_; rintro e w2 ⟨v2, rfl, hn2, hb2⟩; have c0 := (hb2.cell (p := ⟨b, 0, none⟩) lt1).trans c0; have c2 := (hb2.cell (p := ⟨b, 2, none⟩) lt1).trans c2))
    all_goals
      go_wp2
      go_ret2
      exact ⟨_, _, rfl, hn2, hp, (below_drewN hb1 _).trans (hb2.mono hb1.size)⟩

theorem Tr.size_concat (l r : Tr) : (Tr.concat l r).size = l.size + r.size := by
  unfold Tr.size
  rw [Tr.bytes_concat]
  simp only [List.length_append]
set_option maxHeartbeats 4000000 in
set_option maxRecDepth 100000 in
theorem concat_any {l r : Tr} {w : World} {lv rv : Value} (hl : Nd l w lv) (hr : Nd r w rv) (hs : l.size + r.size ≤ 300000) (hc : l.count + r.count ≤ 300000) :
    Calls Try.prog 39 #[lv, rv] w (Made (Tr.concat l r) w) := by
  obtain ⟨pr, rfl⟩ := hr.ptr
  cases l with
  | nil =>
    obtain rfl := hl.nil_ptr
    have HA := Lib.hid hr
    clear hl hr hs hc
    go_enter Try.func39, Try.ntmps39
    go_wp2
    go_ret
    exact ⟨_, rfl, HA.out, Below.refl _ _⟩
  | node x q y =>
    obtain ⟨b, rfl⟩ := hl.node_ptr
    have hsz := @Tr.size_last x q y
    have hct := @Tr.count_last x q y
    have g0 : (Tr.node x q y).size ≤ 300000 := by omega
    have e0 : (Tr.node x q y).count ≤ 300000 := by omega
    have g1 : ∀ ps : ByteArray, ps.data.toList = (Tr.last (.node x q y)).2 → (Tr.last (.node x q y)).1.size + ps.size + r.size ≤ 300000 := fun ps hp => by
      have : ps.data.toList.length = ps.size := by simp
      rw [hp] at this
      omega
    have e1 : (Tr.last (.node x q y)).1.count + r.count + 1 ≤ 300000 := by omega
    have G1 := Lib.hid g1
    clear hs hc hsz hct g1
    go_enter Try.func39, Try.ntmps39
    go_wp2_with (first
      | (go_at_call 49; refine (last_any hl g0 e0).mono ?_; rintro e w1 ⟨v1, ps, rfl, hn1, hp, hb1⟩; have HP := Lib.hid hp; clear hp)
      | (go_at_call 40; refine (join_any ps hn1 (hr.below hb1) (G1.out ps HP.out) e1).mono ?_; rintro e w2 ⟨v2, rfl, hn2, hb2⟩))
    go_ret
    refine ⟨_, rfl, ?_, hb1.trans (hb2.mono hb1.size)⟩
    rw [HP.out] at hn2
    exact hn2
end Go.Proofs.Ytbpokgjahlnfhaa
