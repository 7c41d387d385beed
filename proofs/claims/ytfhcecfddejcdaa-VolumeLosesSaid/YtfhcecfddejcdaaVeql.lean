/- Equal of two devices. -/
import Derived.Test.YtfhcecfddejcdaaVcln
import Derived.BigRegion
import Derived.Maps.StringElems
namespace Go.Proofs.Ytfhcecfddejcdaa
attribute [local go_sem ↓] Go.wp_at_zero Go.wp_at_succ
open Go.RowKit Go.Maps

def flagN : Bool → Int
  | true => 1
  | false => 0
theorem flag_any (b : Bool) (w : World) : Calls Try.prog 44 #[.bool b] w fun e w' => e = .returned (.int .i64 (flagN b)) ∧ w = w' := by
  go_enter Try.func44, Try.ntmps44
  cases b
  · go_wp2
    go_ret
    exact ⟨rfl, rfl⟩
  · go_wp2
    go_ret
    exact ⟨rfl, rfl⟩
theorem eq2_any {w : World} {vb : Nat} {st : VS} {mb : Nat} {pv : Value} (h : Vol w vb st mb pv) :
    Calls Try.prog 45 #[.pointer (some ⟨vb, 0, none⟩)] w fun e w' => e = .returned pv ∧ w = w' := by
  have c2 := h.blk.cell 2
  simp at c2
  obtain ⟨ao, cap, rfl⟩ := row_form h.row
  clear h
  go_enter Try.func45, Try.ntmps45
  go_wp2
  go_ret
  exact ⟨rfl, rfl⟩
set_option maxRecDepth 100000 in
theorem eq1_any {w : World} {vb : Nat} {st : VS} {mb : Nat} {pv : Value} (h : Vol w vb st mb pv) :
    Calls Try.prog 43 #[.pointer (some ⟨vb, 0, none⟩)] w fun e w' => e = .returned (.agg #[.int .i64 (st.dur.length : Int), .int .i64 (flagN st.lim.isSome), .int .i64 ((st.lim.getD 0 : Nat) : Int), .int .i64 (flagN st.down)]) ∧ Below w.heap.size w w' := by
  have c0 := h.blk.cell 0
  have c3 := h.blk.cell 3
  have c4 := h.blk.cell 4
  have c5 := h.blk.cell 5
  have lt := h.blk.lt
  simp at c0 c3 c4 c5
  have hne : vb ≠ w.heap.size := by omega
  have y0 : ∀ o, (w.alloc o).cell? ⟨vb, 0, none⟩ = some (.int .i64 (st.dur.length : Int)) := fun o => (World.cell?_of_block (a := ⟨vb, 0, none⟩) (Below.heap_alloc _ _ vb lt)).trans c0
  have y3 : ∀ o, (w.alloc o).cell? ⟨vb, 3, none⟩ = some (.bool st.lim.isSome) := fun o => (World.cell?_of_block (a := ⟨vb, 3, none⟩) (Below.heap_alloc _ _ vb lt)).trans c3
  have y4 : ∀ o, (w.alloc o).cell? ⟨vb, 4, none⟩ = some (.int .i64 ((st.lim.getD 0 : Nat) : Int)) := fun o => (World.cell?_of_block (a := ⟨vb, 4, none⟩) (Below.heap_alloc _ _ vb lt)).trans c4
  have y5 : ∀ o, (w.alloc o).cell? ⟨vb, 5, none⟩ = some (.bool st.down) := fun o => (World.cell?_of_block (a := ⟨vb, 5, none⟩) (Below.heap_alloc _ _ vb lt)).trans c5
  clear h
  go_enter Try.func43, Try.ntmps43
  go_wp2_with fail
  go_region_held3 (fun w' => w'.cell? ⟨vb, 0, none⟩ = some (.int .i64 (st.dur.length : Int)) ∧ w'.cell? ⟨vb, 3, none⟩ = some (.bool st.lim.isSome) ∧ w'.cell? ⟨vb, 4, none⟩ = some (.int .i64 ((st.lim.getD 0 : Nat) : Int)) ∧ w'.cell? ⟨vb, 5, none⟩ = some (.bool st.down))
    (first
      | go_keep
      | (go_split_ands
         refine ⟨?_, ?_, ?_, ?_⟩
         · (repeat rw [World.cell?_of_block (a := ⟨vb, 0, none⟩) (Below.heap_setCell _ _ _ vb hne)]); (first | assumption | go_keep)
         · (repeat rw [World.cell?_of_block (a := ⟨vb, 3, none⟩) (Below.heap_setCell _ _ _ vb hne)]); (first | assumption | go_keep)
         · (repeat rw [World.cell?_of_block (a := ⟨vb, 4, none⟩) (Below.heap_setCell _ _ _ vb hne)]); (first | assumption | go_keep)
         · (repeat rw [World.cell?_of_block (a := ⟨vb, 5, none⟩) (Below.heap_setCell _ _ _ vb hne)]); (first | assumption | go_keep)))
    ((go_at_call 44; refine (flag_any _ _).mono ?_; rintro e w2 ⟨rfl, rfl⟩))
  go_wp2
  have hb : Below w.heap.size w (w.alloc (.cells #[.int .i64 (st.dur.length : Int), .int .i64 (flagN st.lim.isSome), .int .i64 ((st.lim.getD 0 : Nat) : Int), .int .i64 (flagN st.down)] 76)) := (Below.refl _ w).alloc (Nat.le_refl _) _
  exact bodyPost_ret (v := .agg #[.int .i64 (st.dur.length : Int), .int .i64 (flagN st.lim.isSome), .int .i64 ((st.lim.getD 0 : Nat) : Int), .int .i64 (flagN st.down)]) (by simp [results, Try.f43, go_sem]) rfl ⟨rfl, ⟨hb.os, hb.tape, hb.output, hb.size, hb.block⟩⟩
set_option maxRecDepth 100000 in
theorem wequal_any {w : World} {v v' : Value} {ps qs : List (Nat × ByteArray)} (h : w.ownsRow 0 64 2 v ps.length (pcells ps)) (h' : w.ownsRow 0 64 2 v' qs.length (pcells qs)) (hn : ps.length ≤ 4096) :
    Calls Try.prog 54 #[v, v'] w fun e w' => ∃ r : Bool, e = .returned (.bool r) ∧ (r = true ↔ ps = qs) ∧ Below w.heap.size w w' := by
  obtain ⟨ao, cap, rfl⟩ := row_form h
  obtain ⟨ao', cap', rfl⟩ := row_form h'
  by_cases hl : ps.length = qs.length
  · rw [← hl] at h' ⊢
    go_enter Try.func54, Try.ntmps54
    have H := Lib.hid h
    have H' := Lib.hid h'
    have HL := Lib.hid hl
    clear h h' hl
    go_wp2_with fail
    go_loopw [13] (fun i wr => ∃ k m : Nat, k ≤ ps.length ∧ i = .int .i64 k ∧ wr = w.drewN m ∧ ∀ i, i < k → ps[i]? = qs[i]?) (fun i _ => ps.length - (intOf i).toNat)
    case atStart => exact ⟨0, 0, Nat.zero_le _, rfl, rfl, fun i hi => absurd hi (by omega)⟩
    case round =>
      obtain ⟨k, m, hk, rfl, rfl, heq⟩ := hrel
      have HEQ := Lib.hid heq
      clear heq
      by_cases hlt : k < ps.length
      · obtain ⟨s, d, hx⟩ : ∃ s d, ps[k]? = some (s, d) := ⟨_, _, List.getElem?_eq_getElem hlt⟩
        obtain ⟨s', d', hx'⟩ : ∃ s d, qs[k]? = some (s, d) := ⟨_, _, List.getElem?_eq_getElem (by rw [← HL.out]; exact hlt)⟩
        obtain ⟨g, gc, e1, _, _⟩ := H.out.form (by omega)
        obtain ⟨g', gc', e2, _, _⟩ := H'.out.form (by omega)
        injection e1 with e1 _ e3
        injection e2 with e2 _ e4
        subst e1
        subst e2
        subst e3
        subst e4
        have p0 : w.cell? ⟨g, k * 2, none⟩ = some (.int .i64 (s : Int)) := by rw [H.out.cellAt _ (by omega), Nat.mul_comm]; exact (pcells_at hx).1
        have p1 : w.cell? ⟨g, k * 2 + 1, none⟩ = some (.string d) := by rw [H.out.cellAt _ (by omega), Nat.mul_comm]; exact (pcells_at hx).2
        have q0 : w.cell? ⟨g', k * 2, none⟩ = some (.int .i64 (s' : Int)) := by rw [H'.out.cellAt _ (by omega), Nat.mul_comm]; exact (pcells_at hx').1
        have q1 : w.cell? ⟨g', k * 2 + 1, none⟩ = some (.string d') := by rw [H'.out.cellAt _ (by omega), Nat.mul_comm]; exact (pcells_at hx').2
        have hkI : (k : Int) < (ps.length : Int) := by omega
        have HX := Lib.hid hx
        have HX' := Lib.hid hx'
        clear hx hx'
        by_cases hs : s = s'
        · subst hs
          by_cases hd : d = d'
          · subst hd
            go_wp2_with fail
            go_region
            go_wp2
            go_roundw
            case rel => exact ⟨k + 1, _, by omega, by go_num, rfl, fun i hi => by
              by_cases e : i = k
              · subst e; rw [HX.out, HX'.out]
              · exact HEQ.out i (by omega)⟩
            case measure => simp [intOf]; omega
          · have hdl : ¬ d.toList = d'.toList := by
              have := seq_f hd
              simpa using this
            have HD := Lib.hid hd
            clear hd
            go_wp2_with fail
            go_region
            go_wp2
            go_ret
            refine ⟨false, rfl, ⟨fun h => (by cases h), fun h => ?_⟩, below_drewN (Below.refl _ _) _⟩
            have h1 := HX.out
            rw [h, HX'.out] at h1
            injection h1 with h1
            injection h1 with _ h1
            exact absurd h1.symm HD.out
        · have hsI : ¬ (s : Int) = (s' : Int) := by omega
          go_wp2_with fail
          go_region
          go_wp2
          go_ret
          refine ⟨false, rfl, ⟨fun h => (by cases h), fun h => ?_⟩, below_drewN (Below.refl _ _) _⟩
          have h1 := HX.out
          rw [h, HX'.out] at h1
          injection h1 with h1
          injection h1 with h1 _
          exact absurd h1.symm hs
      · obtain rfl : k = ps.length := by omega
        go_wp2
        go_ret
        refine ⟨true, rfl, ?_, ?_⟩
        · simp
          apply List.ext_getElem?
          intro i
          by_cases hi : i < ps.length
          · exact HEQ.out i hi
          · rw [List.getElem?_eq_none (by omega), List.getElem?_eq_none (by have := HL.out; omega)]
        · exact below_drewN (Below.refl _ _) _
  · have hlI : ((ps.length : Int) == (qs.length : Int)) = false := by rw [beq_eq_false_iff_ne]; omega
    clear h h'
    go_enter Try.func54, Try.ntmps54
    go_wp2
    go_ret
    exact ⟨false, rfl, ⟨fun h => (by cases h), fun h => absurd (by rw [h]) hl⟩, Below.refl _ _⟩

def sameS : DataW Unit → DataW Unit → Bool
  | .lit (.string a), .lit (.string b) => a == b
  | _, _ => false
theorem same_MD (ds : List ByteArray) : Lib.equalFuncD sameS (MD ds) (MD ds) = true := by
  unfold Lib.equalFuncD
  rw [decide_eq_true rfl, Bool.true_and]
  refine List.all_eq_true.2 fun p hp => ?_
  obtain ⟨i, d, _, h2, h3, rfl⟩ := mdL_mem (show p ∈ mdL ds 0 from hp)
  have h2' : ds[i]? = some d := by simpa using h2
  unfold Lib.goodD
  rw [at_MD h2' h3, (has_MD_iff ds (key i)).2 ⟨i, d, h2', h3, rfl⟩]
  simp [litOf, sameS]
theorem mequal_any {w : World} {ds : List ByteArray} {b1 b2 n1 n2 : Nat} (h1 : w.ownsMap (H := Unit) Try.prog 3 (plainElem Try.prog 9) b1 n1 (MD ds)) (h2 : w.ownsMap (H := Unit) Try.prog 3 (plainElem Try.prog 9) b2 n2 (MD ds)) :
    Calls Try.prog 55 #[.map (some b1), .map (some b2)] w fun e w' => e = .returned (.bool true) ∧ Below w.heap.size w w' := by
  have hcon := AnyEq.maps_Equal_opt Try.eqM ckey (plainElem Try.prog 9) (plainElem Try.prog 9) sameS (some b1) (some b2) (MD ds) (MD ds) w (.inr ⟨b1, n1, rfl, h1⟩) (.inr ⟨b2, n2, rfl, h2⟩)
    (.string ⟨#[]⟩) Try.zeroValue9 (.lit (.string [])) [] (plainElem_string Try.underlying9 (s := ⟨#[]⟩) (by decide)) (fun W x y xd yd xp yp hx hy => by
      obtain ⟨a, rfl, e1, _⟩ := plainElem_string_inv Try.underlying9 hx
      obtain ⟨b, rfl, e2, _⟩ := plainElem_string_inv Try.underlying9 hy
      obtain rfl : xd = .lit (.string a.data.toList) := by simpa using (congrArg Prod.fst e1)
      obtain rfl : yd = .lit (.string b.data.toList) := by simpa using (congrArg Prod.fst e2)
      refine ⟨?_, fun _ _ => ?_⟩
      · refine (show _ = Result.ok (Value.bool (a.toList != b.toList)) W from by simp [go_sem, binOp]; rfl).trans ?_
        simp [bne, ByteArray.toList_eq, sameS]
      · rfl)
  rw [same_MD] at hcon
  exact hcon.mono fun e w' ⟨he, hg⟩ => ⟨he, ⟨hg.os, hg.tape, hg.output, hg.size, fun i hi => hg.block i hi (by simp)⟩⟩
theorem eq4_same (a b c d : Int) (w : World) : (Op.equalIn 10000 76 (.agg #[.int .i64 a, .int .i64 b, .int .i64 c, .int .i64 d]) (.agg #[.int .i64 a, .int .i64 b, .int .i64 c, .int .i64 d])).run Try.prog w = .ok true w := by
  have u3 := Try.underlying3
  have a3 := Try.isAgg3
  have z3 := Try.sizeOf3
  rw [show (10000 : Nat) = 9999 + 1 from rfl, Op.equalIn]
  simp only [Sem.run_bind, run_underlying Try.underlying76, Result.andThen_ok]
  simp only [Std.Legacy.Range.forIn_eq_forIn_range', Std.Legacy.Range.size, Nat.sub_zero, Nat.add_sub_cancel, Nat.div_one, List.range'_succ, List.range'_zero, List.forIn_cons, List.forIn_nil]
  go_simp
set_option maxRecDepth 100000 in
set_option maxHeartbeats 1000000 in
theorem agree_any {w : World} {va vb : Nat} {st : VS} {ma mb : Nat} {pa pv : Value} (ha : Vol w va st ma pa) (hb : Vol w vb st mb pv) :
    Calls Try.prog 42 #[.pointer (some ⟨va, 0, none⟩), .pointer (some ⟨vb, 0, none⟩), .func (.func 43) #[] #[], .func (.func 45) #[] #[]] w fun e w' => e = .returned (.bool true) ∧ Below w.heap.size w w' := by
  have a1 := ha.blk.cell 1
  have b1 := hb.blk.cell 1
  simp at a1 b1
  have HA := Lib.hid (ha.turn (G := []) ((Turn.refl [] w).drew) (fun _ _ => by simp))
  have HB := Lib.hid (hb.turn (G := []) ((Turn.refl [] w).drew) (fun _ _ => by simp))
  obtain ⟨ao, cap, rfl⟩ := row_form ha.row
  obtain ⟨ao', cap', rfl⟩ := row_form hb.row
  have HW := Lib.hid (show Below w.heap.size w w.drew from ⟨rfl, rfl, rfl, Nat.le_refl _, fun _ _ => rfl⟩)
  have HR := Lib.hid ha.wf.room
  have hq4 := eq4_same (st.dur.length : Int) (flagN st.lim.isSome) ((st.lim.getD 0 : Nat) : Int) (flagN st.down)
  have T0 : Hid (True ∧ True) := Lib.hid (show True ∧ True from And.intro trivial trivial)
  clear ha hb
  go_enter Try.func42, Try.ntmps42
  go_wp2_with fail
  go_region_held3 (fun w' => w'.cell? ⟨va, 1, none⟩ = some (.map (some ma)) ∧ w'.cell? ⟨vb, 1, none⟩ = some (.map (some mb)))
    (first | go_keep)
    (first
      | (go_at_call 43; refine (eq1_any (T1.out.elim fun _ _ => HB.out)).mono ?_; rintro e w2 ⟨rfl, hc⟩; have HW := Lib.hid (HW.out.trans (hc.mono HW.out.size)); have HA := Lib.hid (HA.out.below hc); have HB := Lib.hid (HB.out.below hc); have a1 := HA.out.blk.cell 1; have b1 := HB.out.blk.cell 1; simp at a1 b1; clear hc; clear T1; have T2 := Lib.hid (show True ∧ True from And.intro trivial trivial))
      | (go_at_call 43; refine (eq1_any (T0.out.elim fun _ _ => HA.out)).mono ?_; rintro e w2 ⟨rfl, hc⟩; have HW := Lib.hid (HW.out.trans (hc.mono HW.out.size)); have HA := Lib.hid (HA.out.below hc); have HB := Lib.hid (HB.out.below hc); have a1 := HA.out.blk.cell 1; have b1 := HB.out.blk.cell 1; simp at a1 b1; clear hc; clear T0; have T1 := Lib.hid (show True ∧ True from And.intro trivial trivial))
      | (go_at_call 45; refine (eq2_any (T3.out.elim fun _ _ => HB.out)).mono ?_; rintro e w2 ⟨rfl, rfl⟩; clear T3)
      | (go_at_call 45; refine (eq2_any (T2.out.elim fun _ _ => HA.out)).mono ?_; rintro e w2 ⟨rfl, rfl⟩; clear T2; have T3 := Lib.hid (show True ∧ True from And.intro trivial trivial))
      | (go_at_call 54; refine (wequal_any HA.out.row HB.out.row HR.out).mono ?_; rintro e w2 ⟨r, rfl, hr, hc⟩; obtain rfl : r = true := hr.2 rfl; have HW := Lib.hid (HW.out.trans (hc.mono HW.out.size)); have HA := Lib.hid (HA.out.below hc); have HB := Lib.hid (HB.out.below hc); have a1 := HA.out.blk.cell 1; have b1 := HB.out.blk.cell 1; simp at a1 b1; clear hc)
      | (go_at_call 55; refine (mequal_any HA.out.map HB.out.map).mono ?_; rintro e w2 ⟨rfl, hc⟩; have HW := Lib.hid (HW.out.trans (hc.mono HW.out.size)); have HA := Lib.hid (HA.out.below hc); have HB := Lib.hid (HB.out.below hc); have a1 := HA.out.blk.cell 1; have b1 := HB.out.blk.cell 1; simp at a1 b1; clear hc))
  go_wp2
  go_ret
  exact ⟨rfl, HW.out⟩
theorem equal_any {w : World} {va vb : Nat} {st : VS} {F G : List Nat} (ha : VolF w va st F) (hb : VolF w vb st G) :
    Calls Try.prog 30 #[.pointer (some ⟨va, 0, none⟩), .pointer (some ⟨vb, 0, none⟩)] w fun e w' => e = .returned (.bool true) ∧ Below w.heap.size w w' := by
  obtain ⟨ma, pa, ha, _⟩ := ha
  obtain ⟨mb, pv, hb, _⟩ := hb
  have HA := Lib.hid ha
  have HB := Lib.hid hb
  clear ha hb
  go_enter Try.func30, Try.ntmps30
  go_wp2_with fail
  refine (agree_any HA.out HB.out).mono ?_
  rintro e w1 ⟨rfl, hb⟩
  go_wp2
  go_ret
  exact ⟨rfl, hb⟩
end Go.Proofs.Ytfhcecfddejcdaa
