/- The walk of Points. -/
import Derived.Test.YtdcdlmigagjbiaaDoorWkD
import Derived.Test.YtdcdlmigagjbiaaDoorMem
import Derived.Outline
namespace Go.Proofs.YtdcdlmigagjbiaaDoor
open Go.RowKit
theorem int_info : (Tryd.prog.info? 3).map (fun i => (i.zero, i.size, i.bytes)) = some (some (.int .i64 0), 1, 8) := by kernel_rfl
/-- the points as ints -/
def ptsI (l : List UInt8) : List Int := (U.pts l).map fun p => ((p : Nat) : Int)
theorem pts_len (s : ByteArray) (k : Nat) (acc : List Int) (h : acc ++ ptsI (s.data.toList.drop k) = ptsI s.data.toList) : acc.length ≤ s.size := by
  have h1 := congrArg List.length h
  rw [List.length_append] at h1
  have h2 : ∀ l : List UInt8, (U.pts l).length ≤ l.length := by
    intro l
    have h3 := congrArg List.length (U.split_all l)
    have h4 : ∀ ps : List Nat, ps.length ≤ (U.encs ps).length := by
      intro ps
      induction ps with
      | nil => simp
      | cons p ps ih => rw [U.encs_cons, List.length_append, U.enc_length, List.length_cons]; have := U.esize_pos p; omega
    rw [List.length_append] at h3
    have := h4 (U.pts l)
    omega
  have := h2 s.data.toList
  have h5 : s.data.toList.length = s.size := by simp
  have h6 : (ptsI s.data.toList).length = (U.pts s.data.toList).length := by simp [ptsI]
  omega
def PointsPost (s : ByteArray) (w : World) (e : Ending) (w' : World) : Prop :=
  ∃ v, e = .returned (.tuple #[v, .int .i64 (if (U.bad s.data.toList).isEmpty then 0 else 12)]) ∧ Below w.heap.size w w' ∧ (if (U.bad s.data.toList).isEmpty then w'.ownsRow w.heap.size 3 1 v (ptsI s.data.toList).length ((ptsI s.data.toList).map (Value.int .i64)) else v = .slice none 0 0)
set_option maxRecDepth 100000 in
set_option maxHeartbeats 400000 in
theorem points_any (s : ByteArray) (hs : s.size ≤ 4294967296) (w : World) :
    Calls Tryd.prog 38 #[.string s] w (PointsPost s w) := by
  obtain ⟨i0, hi, hz0, hz1, hz2⟩ := info_parts int_info
  go_enter Tryd.func38, Tryd.ntmps38
  go_wp2
  go_loopw [2, 4] (fun v i wr => ∃ (k : Nat) (acc : List Int), k ≤ s.size ∧ i = .int .i64 k ∧ wr.ownsRow w.heap.size 3 1 v acc.length (acc.map (Value.int .i64)) ∧ Below w.heap.size w wr ∧
      acc ++ ptsI (s.data.toList.drop k) = ptsI s.data.toList ∧ U.bad (s.data.toList.drop k) = U.bad s.data.toList) (fun _ i _ => s.size - (intOf i).toNat)
  case atStart => exact ⟨0, [], Nat.zero_le _, rfl, World.ownsRow_nil _ _ _ _, Below.refl _ _, rfl, rfl⟩
  case round =>
    obtain ⟨k, acc, hk, rfl, hown, hbel, hp, hb⟩ := hrel
    have Hb := Lib.hid hb
    have Hp := Lib.hid hp
    clear hb hp
    have hal := pts_len s k acc Hp.out
    have hsz := hbel.size
    by_cases hlt : k < s.size
    · obtain ⟨p, n, b, hd⟩ : ∃ p n b, U.dec (s.data.toList.drop k) = (p, n, b) := ⟨_, _, _, rfl⟩
      have Hd := Lib.hid hd
      clear hd
      cases b
      · have hx := Lib.hid (dec_bad s k p n Hd.out).2
        have hne := Lib.hid (show (U.bad s.data.toList).isEmpty = false by rw [← Hb.out, hx.out]; simpa using hlt)
        go_wp2_with ((go_at_call 51; (with_reducible refine (decode_at s k _ _ _ hs hlt Hd _).mono ?_); rintro e w' ⟨rfl, rfl⟩))
        go_ret2
        exact ⟨_, by rw [hne.out]; rfl, hbel, by rw [hne.out]; rfl⟩
      · obtain ⟨h1, h2, h3, h4, h5, h6, h7⟩ := dec_size s k p n Hd.out
        have h6 := Lib.hid h6
        have h7 := Lib.hid h7
        clear h4 h5
        go_wp2_with (first
          | (go_at_call 51; (with_reducible refine (decode_at s k _ _ _ hs hlt Hd _).mono ?_); rintro e w' ⟨rfl, rfl⟩)
          | (at_builtin; refine wpList_append_own _ rfl _ _ 26 rfl w.heap.size 3 i0 (.int .i64 0) 1 8 Tryd.underlying26 hi hz0 hz1 hz2 rfl (by decide) _ _ _ rfl (hown.alloc _) ⟨wr.heap.size, 0, none⟩ 1 1 [.int .i64 p] rfl rfl ?c1 ?c2 ?c3 ?c4 ?c5 ?_))
        case c1 =>
          intro j u hj
          match j, hj with
          | 0, hj => simp at hj; subst hj; simp [Addr.add]
        case c2 => intro u hu; simp at hu; subst hu; rfl
        case c3 => unfold maxLen; omega
        case c4 => omega
        case c5 => simp; omega
        intro v' w1 hown' hgrow _
        have R := rel_append hsz hown hbel hown' hgrow
        clear hown' hgrow hown hbel hi hz0 hz1 hz2
        go_wp2
        go_roundw
        case rel => exact ⟨k + n, acc ++ [(p : Int)], by omega, by go_num, by simpa using R.1, R.2, by rw [← Hp.out, List.append_assoc]; congr 1; unfold ptsI; rw [h6.out]; rfl, by rw [← h7.out]; exact Hb.out⟩
        case measure => simp [intOf]; omega
    · have hx := Lib.hid (drop_end s k (by omega))
      have hne := Lib.hid (show (U.bad s.data.toList).isEmpty = true by rw [← Hb.out, hx.out]; rfl)
      have hac := Lib.hid (show acc = ptsI s.data.toList by rw [← Hp.out, hx.out]; simp [ptsI, U.scan_nil.1])
      clear hi hz0 hz1 hz2
      go_wp2
      go_ret2
      exact ⟨_, by rw [hne.out]; rfl, hbel, by rw [hne.out, ← hac.out]; exact hown⟩
end Go.Proofs.YtdcdlmigagjbiaaDoor
