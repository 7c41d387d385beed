/- The walk of the reference's Size and Encode. -/
import Derived.Test.YtkoklnnlhfjbjaaWkH
namespace Go.Proofs.Ytkoklnnlhfjbjaa
open Go.RowKit
theorem conv_cells {P : Program} {w : World} {src dst e n cap : Nat} {a : Addr} {l : List UInt8} (hs : P.underlying src = some (.slice e)) (he : P.underlying e = some (.int .u8)) (hd : P.underlying dst = some .string) (hn : l.length = n)
    (hc : ∀ j u, (Lib.byteCells l)[j]? = some u → w.cell? (a.add j) = some u) : (convert src dst (.slice (some a) n cap)).run P w = .ok (.string ⟨l.toArray⟩) w := by
  subst hn
  exact run_convert_bytes_back w src dst e a cap l hs he hd (fun j hj => hc j _ (by simp [Lib.byteCells, hj]))
set_option maxRecDepth 100000 in
set_option maxHeartbeats 400000 in
theorem size_any (p : Nat) (_hp : p ≤ 1114111) (w : World) :
    Calls Try.prog 48 #[.int .i64 p] w fun e w' => e = .returned (.int .i64 (U.esize p)) ∧ w = w' := by
  by_cases h1 : p < 128
  · have hx := Lib.hid (show U.esize p = 1 by unfold U.esize; rw [if_pos h1])
    go_enter Try.func48, Try.ntmps48
    go_wp2
    go_ret
    exact ⟨by rw [hx.out]; rfl, rfl⟩
  have h1 : 128 ≤ p := by omega
  by_cases h2 : p < 2048
  · have hx := Lib.hid (show U.esize p = 2 by unfold U.esize; rw [if_neg (by omega), if_pos h2])
    go_enter Try.func48, Try.ntmps48
    go_wp2
    go_ret
    exact ⟨by rw [hx.out]; rfl, rfl⟩
  have h2 : 2048 ≤ p := by omega
  by_cases h3 : p < 65536
  · have hx := Lib.hid (show U.esize p = 3 by unfold U.esize; rw [if_neg (by omega), if_neg (by omega), if_pos h3])
    go_enter Try.func48, Try.ntmps48
    go_upto_if 9 with fail
    refine wp_cond_true (show Value.bool (decide ((p : Int) < 65536)) = Value.bool true from congrArg Value.bool (decide_eq_true (by omega))) ?_
    go_wp2
    go_ret
    exact ⟨by rw [hx.out]; rfl, rfl⟩
  · have hx := Lib.hid (show U.esize p = 4 by unfold U.esize; rw [if_neg (by omega), if_neg (by omega), if_neg h3])
    have h3 : 65536 ≤ p := by omega
    go_enter Try.func48, Try.ntmps48
    go_upto_if 9 with fail
    refine wp_cond_false (show Value.bool (decide ((p : Int) < 65536)) = Value.bool false from congrArg Value.bool (decide_eq_false (by omega))) ?_
    go_wp2
    go_ret
    exact ⟨by rw [hx.out]; rfl, rfl⟩
set_option maxRecDepth 100000 in
set_option maxHeartbeats 800000 in
theorem rencode_1 (p : Nat) (hp : p < 128) (hs : Hid (U.esize p = 1)) (w : World) :
    Calls Try.prog 41 #[.int .i64 p] w fun e w' => e = .returned (.string ⟨(U.enc p).toArray⟩) ∧ Below w.heap.size w w' := by
  have hcs := Lib.hid (enc_cells1 p hp)
  go_enter Try.func41, Try.ntmps41
  go_wp2_with ((go_at_call 48; (with_reducible refine (size_any p (by omega) _).mono ?_); rintro e w' ⟨rfl, rfl⟩; rw [hs.out]))
  rw [conv_cells (l := U.enc p) Try.underlying52 Try.underlying5 Try.underlying9 (by rw [U.enc_length]; exact hs.out) ?hc]
  case hc =>
    rw [hcs.out]
    intro j u hj
    match j, hj with
    | 0, hj => simp at hj; subst hj; (simp [Addr.add] <;> omega)
  simp only [Result.andThen]
  rw [Oper.upon_value]
  go_wp2
  go_ret
  exact ⟨rfl, (Below.refl _ _).alloc (Nat.le_refl _) _⟩
set_option maxRecDepth 100000 in
set_option maxHeartbeats 800000 in
theorem rencode_2 (p : Nat) (hp : 128 ≤ p) (hp' : p < 2048) (hs : Hid (U.esize p = 2)) (w : World) :
    Calls Try.prog 41 #[.int .i64 p] w fun e w' => e = .returned (.string ⟨(U.enc p).toArray⟩) ∧ Below w.heap.size w w' := by
  have hmk : ∀ w : World, (Instr.makeSlice 52 (.int .i64 2) (.int .i64 2)).run Try.prog w = .ok (.slice (some ⟨w.heap.size, 0, none⟩) 2 2) (w.alloc (.cells #[.int .u8 0, .int .u8 0] 5)) := fun _ => by kernel_rfl
  have hcs := Lib.hid (enc_cells2 p hp hp')
  go_enter Try.func41, Try.ntmps41
  go_wp2_with ((go_at_call 48; (with_reducible refine (size_any p (by omega) _).mono ?_); rintro e w' ⟨rfl, rfl⟩; rw [hs.out]))
  refine wp_loop_rounds 2 ?_
  rw [rounds_succ]
  go_wp2
  rw [rounds_succ]
  go_wp2
  rw [conv_cells (l := U.enc p) Try.underlying52 Try.underlying5 Try.underlying9 (by rw [U.enc_length]; exact hs.out) ?hc]
  case hc =>
    rw [hcs.out]
    intro j u hj
    match j, hj with
    | 0, hj => simp at hj; subst hj; (simp [Addr.add] <;> omega)
    | 1, hj => simp at hj; subst hj; (simp [Addr.add] <;> omega)
    | j + 2, hj => simp at hj
  simp only [Result.andThen]
  rw [Oper.upon_value]
  go_wp2
  go_ret
  exact ⟨rfl, ((Below.refl _ _).alloc (Nat.le_refl _) _).alloc (by simp) _⟩
set_option maxRecDepth 100000 in
set_option maxHeartbeats 800000 in
theorem rencode_3 (p : Nat) (hp : 2048 ≤ p) (hp' : p < 65536) (hs : Hid (U.esize p = 3)) (w : World) :
    Calls Try.prog 41 #[.int .i64 p] w fun e w' => e = .returned (.string ⟨(U.enc p).toArray⟩) ∧ Below w.heap.size w w' := by
  have hmk : ∀ w : World, (Instr.makeSlice 52 (.int .i64 3) (.int .i64 3)).run Try.prog w = .ok (.slice (some ⟨w.heap.size, 0, none⟩) 3 3) (w.alloc (.cells #[.int .u8 0, .int .u8 0, .int .u8 0] 5)) := fun _ => by kernel_rfl
  have hcs := Lib.hid (enc_cells3 p hp hp')
  have h1 : p / 64 / 64 < 16 := by omega
  go_enter Try.func41, Try.ntmps41
  go_wp2_with ((go_at_call 48; (with_reducible refine (size_any p (by omega) _).mono ?_); rintro e w' ⟨rfl, rfl⟩; rw [hs.out]))
  refine wp_loop_rounds 3 ?_
  rw [rounds_succ]
  go_wp2
  rw [rounds_succ]
  go_wp2
  rw [rounds_succ]
  go_wp2
  rw [conv_cells (l := U.enc p) Try.underlying52 Try.underlying5 Try.underlying9 (by rw [U.enc_length]; exact hs.out) ?hc]
  case hc =>
    rw [hcs.out]
    intro j u hj
    match j, hj with
    | 0, hj => simp at hj; subst hj; (simp [Addr.add] <;> omega)
    | 1, hj => simp at hj; subst hj; (simp [Addr.add] <;> omega)
    | 2, hj => simp at hj; subst hj; (simp [Addr.add] <;> omega)
    | j + 3, hj => simp at hj
  simp only [Result.andThen]
  rw [Oper.upon_value]
  go_wp2
  go_ret
  exact ⟨rfl, ((Below.refl _ _).alloc (Nat.le_refl _) _).alloc (by simp) _⟩
set_option maxRecDepth 100000 in
set_option maxHeartbeats 800000 in
theorem rencode_4 (p : Nat) (hp : 65536 ≤ p) (hp' : p ≤ 1114111) (hs : Hid (U.esize p = 4)) (w : World) :
    Calls Try.prog 41 #[.int .i64 p] w fun e w' => e = .returned (.string ⟨(U.enc p).toArray⟩) ∧ Below w.heap.size w w' := by
  have hmk : ∀ w : World, (Instr.makeSlice 52 (.int .i64 4) (.int .i64 4)).run Try.prog w = .ok (.slice (some ⟨w.heap.size, 0, none⟩) 4 4) (w.alloc (.cells #[.int .u8 0, .int .u8 0, .int .u8 0, .int .u8 0] 5)) := fun _ => by kernel_rfl
  have hcs := Lib.hid (enc_cells4 p hp hp')
  have h1 : p / 64 / 64 / 64 < 5 := by omega
  go_enter Try.func41, Try.ntmps41
  go_wp2_with ((go_at_call 48; (with_reducible refine (size_any p (by omega) _).mono ?_); rintro e w' ⟨rfl, rfl⟩; rw [hs.out]))
  refine wp_loop_rounds 4 ?_
  rw [rounds_succ]
  go_wp2
  rw [rounds_succ]
  go_wp2
  rw [rounds_succ]
  go_wp2
  rw [rounds_succ]
  go_wp2
  rw [conv_cells (l := U.enc p) Try.underlying52 Try.underlying5 Try.underlying9 (by rw [U.enc_length]; exact hs.out) ?hc]
  case hc =>
    rw [hcs.out]
    intro j u hj
    match j, hj with
    | 0, hj => simp at hj; subst hj; (simp [Addr.add] <;> omega)
    | 1, hj => simp at hj; subst hj; (simp [Addr.add] <;> omega)
    | 2, hj => simp at hj; subst hj; (simp [Addr.add] <;> omega)
    | 3, hj => simp at hj; subst hj; (simp [Addr.add] <;> omega)
    | j + 4, hj => simp at hj
  simp only [Result.andThen]
  rw [Oper.upon_value]
  go_wp2
  go_ret
  exact ⟨rfl, ((Below.refl _ _).alloc (Nat.le_refl _) _).alloc (by simp) _⟩
theorem rencode_any (p : Nat) (hp : U.isPt p = true) (w : World) :
    Calls Try.prog 41 #[.int .i64 p] w fun e w' => e = .returned (.string ⟨(U.enc p).toArray⟩) ∧ Below w.heap.size w w' := by
  rw [U.isPt_iff] at hp
  by_cases h1 : p < 128
  · exact rencode_1 p h1 (by show U.esize p = 1; unfold U.esize; rw [if_pos h1]) w
  by_cases h2 : p < 2048
  · exact rencode_2 p (by omega) h2 (by show U.esize p = 2; unfold U.esize; rw [if_neg h1, if_pos h2]) w
  by_cases h3 : p < 65536
  · exact rencode_3 p (by omega) h3 (by show U.esize p = 3; unfold U.esize; rw [if_neg h1, if_neg h2, if_pos h3]) w
  · exact rencode_4 p (by omega) hp.1 (by show U.esize p = 4; unfold U.esize; rw [if_neg h1, if_neg h2, if_neg h3]) w
end Go.Proofs.Ytkoklnnlhfjbjaa
