/- The walks of the reference's First, Points, Make, Slice. -/
import Derived.Test.YtkoklnnlhfjbjaaWkL
namespace Go.Proofs.Ytkoklnnlhfjbjaa
open Go.RowKit
/-- what is owned stays owned behind a call that only makes memory -/
theorem ownsRow_below {w w' : World} {base e size : Nat} {v : Value} {n : Nat} {xs : List Value} (h : w.ownsRow base e size v n xs) (hb : Below w.heap.size w w') : w'.ownsRow base e size v n xs := by
  obtain ⟨h1, h2⟩ := h
  refine ⟨h1, ?_⟩
  rcases h2 with h2 | ⟨g, cap, cur, hv, hg, hh, r⟩
  · exact Or.inl h2
  · exact Or.inr ⟨g, cap, cur, hv, hg, by rw [hb.block g (Array.getElem?_eq_some_iff.1 hh).1]; exact hh, r⟩
theorem extract_drop (s : ByteArray) (k : Nat) : (s.extract k s.size).data.toList = s.data.toList.drop k := by
  rw [Lib.extract_data]
  exact List.take_of_length_le (by rw [List.length_drop]; simp)
theorem size_extract (s : ByteArray) (k : Nat) : (s.extract k s.size).size ≤ s.size := by simp
theorem rdec_at (s : ByteArray) (k p n : Nat) (b : Bool) (hs : s.size ≤ 4294967296) (h : Hid (U.dec (s.data.toList.drop k) = (p, n, b))) (w : World) :
    Calls Try.prog 26 #[.string (s.extract k s.size)] w fun e w' => e = .returned (.tuple #[.int .i64 (if b then p else 0 : Nat), .int .i64 (if b then n else 0 : Nat)]) ∧ Below w.heap.size w w' := by
  refine (rdecode_any (s.extract k s.size) (Nat.le_trans (size_extract s k) hs) w).mono fun e w' h' => ?_
  obtain ⟨he, hb⟩ := h'
  rw [extract_drop, U.decR_eq, h.out] at he
  refine ⟨?_, hb⟩
  cases b <;> exact he
set_option maxRecDepth 100000 in
set_option maxHeartbeats 400000 in
theorem rfirst_any (s : ByteArray) (hs : s.size ≤ 4294967296) (w : World) :
    Calls Try.prog 17 #[.string s] w fun e w' => e = .returned (.int .i64 (firstP s.data.toList)) ∧ Below w.heap.size w w' := by
  go_enter Try.func17, Try.ntmps17
  go_wp2
  go_loopw [3] (fun i wr => ∃ k : Nat, k ≤ s.size ∧ i = .int .i64 k ∧ U.bad (s.data.toList.drop k) = U.bad s.data.toList ∧ Below w.heap.size w wr) (fun i _ => s.size - (intOf i).toNat)
  case atStart => exact ⟨0, Nat.zero_le _, rfl, rfl, Below.refl _ _⟩
  case round =>
    obtain ⟨k, hk, rfl, hb, hbel⟩ := hrel
    have Hb := Lib.hid hb
    have hsz := hbel.size
    clear hb
    by_cases hlt : k < s.size
    · obtain ⟨p, n, b, hd⟩ : ∃ p n b, U.dec (s.data.toList.drop k) = (p, n, b) := ⟨_, _, _, rfl⟩
      have Hd := Lib.hid hd
      clear hd
      cases b
      · have hx := Lib.hid (dec_bad s k p n Hd.out).2
        have hdc := rdec_at s k p n false hs Hd
        simp only [Bool.false_eq_true, if_false] at hdc
        have Hdc := Lib.hid hdc
        clear hdc
        go_wp2_with ((go_at_call 26; (with_reducible refine (Hdc.out _).mono ?_); rintro e w' ⟨rfl, hb1⟩))
        go_ret
        refine ⟨congrArg (fun x => Ending.returned (.int .i64 x)) ?_, hbel.trans (hb1.mono hsz)⟩
        unfold firstP
        rw [← Hb.out, hx.out, if_neg (by simpa using hlt), List.length_drop]
        simp; omega
      · obtain ⟨h1, h2, h3, h4, h5, h6, h7⟩ := dec_size s k p n Hd.out
        have h7 := Lib.hid h7
        clear h4 h5 h6
        have hdc := rdec_at s k p n true hs Hd
        simp only [if_true] at hdc
        have Hdc := Lib.hid hdc
        clear hdc
        have hn0 : ((n : Int) == 0) = false := beq_eq_false_iff_ne.2 (by omega)
        go_wp2_with ((go_at_call 26; (with_reducible refine (Hdc.out _).mono ?_); rintro e w' ⟨rfl, hb1⟩))
        go_roundw
        case rel => exact ⟨k + n, by omega, by go_num, by rw [← h7.out]; exact Hb.out, hbel.trans (hb1.mono hsz)⟩
        case measure => (simp [intOf] <;> omega)
    · have hx := Lib.hid (drop_end s k (by omega))
      go_wp2
      go_ret
      refine ⟨congrArg (fun x => Ending.returned (.int .i64 x)) ?_, hbel⟩
      unfold firstP
      rw [← Hb.out, hx.out, U.scan_nil.2]; rfl
def RPointsPost (s : ByteArray) (w : World) (e : Ending) (w' : World) : Prop :=
  ∃ v, e = .returned v ∧ Below w.heap.size w w' ∧ w'.ownsRow w.heap.size 3 1 v (ptsI s.data.toList).length ((ptsI s.data.toList).map (Value.int .i64))
set_option maxRecDepth 100000 in
set_option maxHeartbeats 800000 in
theorem rpoints_any (s : ByteArray) (hs : s.size ≤ 4294967296) (w : World) :
    Calls Try.prog 23 #[.string s] w (RPointsPost s w) := by
  obtain ⟨i0, hi, hz0, hz1, hz2⟩ := info_parts int_info
  go_enter Try.func23, Try.ntmps23
  go_wp2
  go_loopw [3, 4] (fun v i wr => ∃ (k : Nat) (acc : List Int), k ≤ s.size ∧ i = .int .i64 k ∧ wr.ownsRow w.heap.size 3 1 v acc.length (acc.map (Value.int .i64)) ∧ Below w.heap.size w wr ∧
      acc ++ ptsI (s.data.toList.drop k) = ptsI s.data.toList) (fun _ i _ => s.size - (intOf i).toNat)
  case atStart => exact ⟨0, [], Nat.zero_le _, rfl, World.ownsRow_nil _ _ _ _, Below.refl _ _, rfl⟩
  case round =>
    obtain ⟨k, acc, hk, rfl, hown, hbel, hp⟩ := hrel
    have Hp := Lib.hid hp
    clear hp
    have hal := pts_len s k acc Hp.out
    have hsz := hbel.size
    by_cases hlt : k < s.size
    · obtain ⟨p, n, b, hd⟩ : ∃ p n b, U.dec (s.data.toList.drop k) = (p, n, b) := ⟨_, _, _, rfl⟩
      have Hd := Lib.hid hd
      clear hd
      cases b
      · have hx := Lib.hid (dec_bad s k p n Hd.out).1
        have hac := Lib.hid (show acc = ptsI s.data.toList by rw [← Hp.out]; simp [ptsI, hx.out])
        have hdc := rdec_at s k p n false hs Hd
        simp only [Bool.false_eq_true, if_false] at hdc
        have Hdc := Lib.hid hdc
        clear hdc hi hz0 hz1 hz2
        go_wp2_with ((go_at_call 26; (with_reducible refine (Hdc.out _).mono ?_); rintro e w' ⟨rfl, hb1⟩))
        go_ret
        refine ⟨_, rfl, hbel.trans (hb1.mono hsz), ?_⟩
        rw [← hac.out]
        exact ownsRow_below hown hb1
      · obtain ⟨h1, h2, h3, h4, h5, h6, h7⟩ := dec_size s k p n Hd.out
        have h6 := Lib.hid h6
        clear h4 h5 h7
        have hdc := rdec_at s k p n true hs Hd
        simp only [if_true] at hdc
        have Hdc := Lib.hid hdc
        clear hdc
        have hn0 : ((n : Int) == 0) = false := beq_eq_false_iff_ne.2 (by omega)
        go_wp2_with (first
          | (go_at_call 26; (with_reducible refine (Hdc.out _).mono ?_); rintro e w2 ⟨rfl, hb1⟩; have hown2 := ownsRow_below hown hb1; have hsz1 := hb1.size)
          | (at_builtin; refine wpList_append_own _ rfl _ _ 31 rfl w.heap.size 3 i0 (.int .i64 0) 1 8 Try.underlying31 hi hz0 hz1 hz2 rfl (by decide) _ _ _ rfl (hown2.alloc _) ⟨w2.heap.size, 0, none⟩ 1 1 [.int .i64 p] rfl rfl ?c1 ?c2 ?c3 ?c4 ?c5 ?_))
        case c1 =>
          intro j u hj
          match j, hj with
          | 0, hj => simp at hj; subst hj; simp [Addr.add]
        case c2 => intro u hu; simp at hu; subst hu; rfl
        case c3 => unfold maxLen; omega
        case c4 => omega
        case c5 => simp; omega
        intro v' w1 hown' hgrow _
        have R := rel_append (show w.heap.size ≤ w2.heap.size by omega) hown2 (hbel.trans (hb1.mono hsz)) hown' hgrow
        clear hown' hgrow hown2 hown hb1 hbel hi hz0 hz1 hz2
        go_wp2
        go_roundw
        case rel => exact ⟨k + n, acc ++ [(p : Int)], by omega, by go_num, by simpa using R.1, R.2, by rw [← Hp.out, List.append_assoc]; congr 1; unfold ptsI; rw [h6.out]; rfl⟩
        case measure => (simp [intOf] <;> omega)
    · have hx := Lib.hid (drop_end s k (by omega))
      have hac := Lib.hid (show acc = ptsI s.data.toList by rw [← Hp.out, hx.out]; simp [ptsI, U.scan_nil.1])
      clear hi hz0 hz1 hz2
      go_wp2
      go_ret
      exact ⟨_, rfl, hbel, by rw [← hac.out]; exact hown⟩
theorem bytes_append (a b : List UInt8) : (⟨a.toArray⟩ : ByteArray) ++ ⟨b.toArray⟩ = ⟨(a ++ b).toArray⟩ := by
  rw [ByteArray.mk_append_mk]
theorem run_add_lists {P : Program} (w : World) (a b : List UInt8) (h : a.length + b.length ≤ 9223372036854775807) : (Op.stringOp .add ⟨a.toArray⟩ ⟨b.toArray⟩).run P w = .ok (.string ⟨(a ++ b).toArray⟩) w := by
  rw [run_string_add_sum w _ _ (by simp [ByteArray.size]; omega), bytes_append]
set_option maxRecDepth 100000 in
set_option maxHeartbeats 800000 in
theorem rmake_any (v : Value) (l : List Int) (w : World) (hl : l.length ≤ 1000000000) (hv : Ints w v l) (hok : Hid (okI l = true)) :
    Calls Try.prog 24 #[v] w fun e w' => e = .returned (.string ⟨(encI l).toArray⟩) ∧ Below w.heap.size w w' := by
  rcases hv.open with ⟨rfl, ao, cap, rfl⟩ | ⟨hpos, b, off, cap, rfl, _, _, hlt, hc⟩
  · go_enter Try.func24, Try.ntmps24
    go_wp2
    refine wp_loop_rounds 1 ?_
    rw [rounds_succ]
    go_wp2
    go_ret
    exact ⟨rfl, Below.refl _ _⟩
  · have hc' := Lib.hid hc
    clear hc hv
    go_enter Try.func24, Try.ntmps24
    go_wp2
    go_loopw [3, 4] (fun v i wr => ∃ k : Nat, k ≤ l.length ∧ i = .int .i64 k ∧ v = .string ⟨(encI (l.take k)).toArray⟩ ∧ Below w.heap.size w wr) (fun _ i _ => l.length - (intOf i).toNat)
    case atStart => exact ⟨0, Nat.zero_le _, rfl, rfl, Below.refl _ _⟩
    case round =>
      obtain ⟨k, hk, rfl, rfl, hbel⟩ := hrel
      have hln := encI_len l k
      have hsz := hbel.size
      by_cases hlk : k < l.length
      · have hcell : wr.cell? ⟨b, off + k, none⟩ = some (.int .i64 (l.getD k 0)) := (hbel.cell (p := ⟨b, off + k, none⟩) hlt).trans (hc'.out k hlk)
        have hes := Lib.hid (encI_snoc l k hlk)
        have hp : isPtI (l.getD k 0) = true := by
          cases h : isPtI (l.getD k 0)
          · have := okI_no l k hlk h; rw [hok.out] at this; exact absurd this (by simp)
          · rfl
        generalize l.getD k 0 = z at hcell hes hp
        obtain ⟨p, rfl⟩ : ∃ p : Nat, z = p := ⟨z.toNat, by have := (isPtI_iff z).1 hp; omega⟩
        have hpt := Lib.hid (show U.isPt p = true by rw [isPtI_nat] at hp; exact hp)
        have hp4 := U.esize_pos p
        have hel := Lib.hid (U.enc_length p)
        have hadd := fun w : World => run_add_lists (P := Try.prog) w (encI (l.take k)) (U.enc p) (by rw [hel.out]; omega)
        clear hp hln
        go_wp2_with (go_at_call 41; (with_reducible refine (rencode_any p hpt.out _).mono ?_); rintro e w1 ⟨rfl, hb1⟩)
        go_roundw
        case rel =>
          refine ⟨k + 1, by omega, by go_num, ?_, hbel.trans (hb1.mono hsz)⟩
          rw [hes.out, show ((p : Int)).toNat = p from Int.toNat_natCast p]
        case measure => (simp [intOf] <;> omega)
      · have ht := Lib.hid (show l.take k = l from List.take_of_length_le (by omega))
        go_wp2
        go_ret
        exact ⟨by rw [ht.out]; rfl, hbel⟩
end Go.Proofs.Ytkoklnnlhfjbjaa
