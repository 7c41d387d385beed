/- The reference's Lines walked. -/
import Derived.Test.YtbpokgjahlnfhaaPln
import Derived.Test.YtbpokgjahlnfhaaMem
import Derived.Outline
namespace Go.Proofs.Ytbpokgjahlnfhaa
open Go.RowKit
theorem int_info : (Try.prog.info? 3).map (fun i => (i.zero, i.size, i.bytes)) = some (some (.int .i64 0), 1, 8) := by kernel_rfl
/-- the places of a part as the starts behind them -/
def startsF (B : List UInt8) (k : Nat) : List Int := (fposF B k).map fun p : Nat => (p : Int) + 1
/-- where the lines begin -/
def starts (B : List UInt8) : List Int := 0 :: startsF B 0
theorem startsF_len (B : List UInt8) (k : Nat) : (startsF B k).length ≤ B.length := by
  unfold startsF
  rw [List.length_map, fposF_len]
  exact List.length_filter_le _ _
theorem startsF_yes {b : UInt8} (r : List UInt8) (k : Nat) (h : b = 10) : startsF (b :: r) k = ((k : Int) + 1) :: startsF r (k + 1) := by simp [startsF, fposF, h]
theorem startsF_no {b : UInt8} (r : List UInt8) (k : Nat) (h : ¬ b = 10) : startsF (b :: r) k = startsF r (k + 1) := by simp [startsF, fposF, h]
/-- an append of one int to a row of the call's own is one more int -/
theorem row_one {w : World} {o : Obj} (t : TypeId) (x : Int) (h : o = .cells #[Value.int .i64 x] t (0, 0)) : (w.alloc o).ownsRow w.heap.size t 1 (.slice (some ⟨w.heap.size, 0, none⟩) 1 1) 1 [.int .i64 x] := by
  subst h
  exact ⟨rfl, .inr ⟨w.heap.size, 1, #[.int .i64 x], rfl, Nat.le_refl _, Array.getElem?_push_size, Nat.le_refl _, by unfold maxLen; omega, rfl, rfl⟩⟩
def LinesPost (s : ByteArray) (w : World) (e : Ending) (w' : World) : Prop :=
  ∃ v, e = .returned v ∧ Below w.heap.size w w' ∧ w'.ownsRow w.heap.size 3 1 v (starts s.data.toList).length ((starts s.data.toList).map (Value.int .i64))
set_option maxRecDepth 100000 in
set_option maxHeartbeats 1000000 in
theorem rlines_any (s : ByteArray) (hs : s.size ≤ 4294967296) (w : World) :
    Calls Try.prog 30 #[.string s] w (LinesPost s w) := by
  obtain ⟨i0, hi, hz0, hz1, hz2⟩ := info_parts int_info
  go_enter Try.func30, Try.ntmps30
  go_wp2
  go_loopw [3, 4] (fun v i wr => ∃ (k : Nat) (acc : List Int), k ≤ s.size ∧ i = .int .i64 k ∧ wr.ownsRow w.heap.size 3 1 v acc.length (acc.map (Value.int .i64)) ∧ Below w.heap.size w wr ∧
      acc ++ startsF (s.data.toList.drop k) k = starts s.data.toList) (fun _ i _ => s.size - (intOf i).toNat)
  case atStart => exact ⟨0, [0], Nat.zero_le _, rfl, row_one 3 0 rfl, (Below.refl _ w).alloc (Nat.le_refl _) _, rfl⟩
  case round =>
    obtain ⟨k, acc, hk, rfl, hown, hbel, hp⟩ := hrel
    have z2 : s.data.toList.length = s.size := by simp
    have hal : acc.length ≤ s.size + 1 := by
      have h1 := congrArg List.length hp
      have h2 := startsF_len s.data.toList 0
      simp only [List.length_append, starts, List.length_cons] at h1
      omega
    have Hp := Lib.hid hp
    clear hp
    have hsz := hbel.size
    by_cases hlt : k < s.size
    · have hd : s.data.toList.drop k = s.data.toList[k]'(by omega) :: s.data.toList.drop (k + 1) := List.drop_eq_getElem_cons (by omega)
      have hg : s.data.toList[k]'(by omega) = s[k] := by rw [Array.getElem_toList]; rfl
      rw [hg] at hd
      have hnum : s.size - (k + 1) < s.size - k := by omega
      by_cases hb : s[k] = 10
      · have hst := startsF_yes (s.data.toList.drop (k + 1)) k hb
        rw [← hd] at hst
        have HS := Lib.hid hst
        have d1 : (((s[k] : UInt8).toNat : Int) == 10) = true := by rw [hb]; rfl
        clear hst hd hg hb
        go_wp2_with (at_builtin; refine wpList_append_own _ rfl _ _ 58 rfl w.heap.size 3 i0 (.int .i64 0) 1 8 Try.underlying58 hi hz0 hz1 hz2 rfl (by decide) _ _ _ rfl (hown.alloc _) ⟨wr.heap.size, 0, none⟩ 1 1 [.int .i64 ((k : Int) + 1)] rfl rfl ?c1 ?c2 ?c3 ?c4 ?c5 ?_)
        case c1 =>
          intro j u hj
          match j, hj with
          | 0, hj => simp at hj; subst hj; simp [Addr.add]
        case c2 => intro u hu; simp at hu; subst hu; rfl
        case c3 => unfold maxLen; omega
        case c4 => omega
        case c5 => simp; omega
        intro v' w1 hown' hgrow _
        have R := rel_append hsz hown hbel hown' hgrow
        clear hown' hgrow hown hbel hi hz0 hz1 hz2
        go_wp2
        go_roundw
        case rel => exact ⟨k + 1, acc ++ [(k : Int) + 1], by omega, by go_num, by simpa using R.1, R.2, by rw [← Hp.out, HS.out, List.append_assoc]; rfl⟩
        case measure => simp [intOf]; omega
      · have hst := startsF_no (s.data.toList.drop (k + 1)) k hb
        rw [← hd] at hst
        have HS := Lib.hid hst
        have d1 : (((s[k] : UInt8).toNat : Int) == 10) = false := by
          rw [beq_eq_false_iff_ne]
          intro h
          exact hb (UInt8.toNat_inj.1 (by show s[k].toNat = 10; omega))
        clear hst hd hg hi hz0 hz1 hz2 hb
        go_wp2_with fail
        exact ⟨⟨k + 1, acc, by omega, by go_num, hown, hbel, by rw [← Hp.out, HS.out]⟩, hnum⟩
    · have hx : s.data.toList.drop k = [] := List.drop_eq_nil_of_le (by omega)
      have hac : acc = starts s.data.toList := by rw [← Hp.out, hx]; simp [startsF, fposF]
      have HA := Lib.hid hac
      clear hi hz0 hz1 hz2 hac hx
      go_wp2
      go_ret
      exact ⟨_, rfl, hbel, by rw [← HA.out]; exact hown⟩
end Go.Proofs.Ytbpokgjahlnfhaa
