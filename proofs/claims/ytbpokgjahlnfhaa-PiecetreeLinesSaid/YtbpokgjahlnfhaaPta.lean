/- parts, slices.AppendSeq, slices.Collect, Chunks, String, Slice. -/
import Derived.Test.YtbpokgjahlnfhaaPtz
import Derived.RangeFuncBox
import Derived.Deep.RegionHeld3
namespace Go.Proofs.Ytbpokgjahlnfhaa
open Go.RowKit Go.Shelf
attribute [local go_sem] Oper.semAt_some

theorem parts_any (v : Value) (f to : Int) (w : World) (hv : ∃ a, v = .pointer a) : Calls Try.prog 44 #[v, .int .i64 f, .int .i64 to] w fun e w' =>
    e = .returned (.func (.func 56) #[] #[.pointer (some ⟨w.heap.size, 0, none⟩), .pointer (some ⟨w.heap.size + 1, 0, none⟩), .pointer (some ⟨w.heap.size + 1 + 1, 0, none⟩)]) ∧
      w' = ((w.alloc (.cells #[v] 67)).alloc (.cells #[.int .i64 f] 3)).alloc (.cells #[.int .i64 to] 3) := by
  obtain ⟨a, rfl⟩ := hv
  go_enter Try.func44, Try.ntmps44
  go_wp2
  go_ret
  exact ⟨rfl, rfl⟩

def encs (x : List UInt8) : Array Value := #[estr x]
set_option maxHeartbeats 1000000 in
theorem parts_stops (n : Nat) (N : Nat) {w : World} {t : Tr} {v : Value} {f to : Int} {b0 b1 b2 : Nat} (h : Nd t w v) (hN : (t.vis f to).length ≤ N)
    (h0 : Boxed w b0 67 v) (h1 : Boxed w b1 3 (.int .i64 f)) (h2 : Boxed w b2 3 (.int .i64 to))
    (hs : t.size ≤ 200000) (hf : -1000000 ≤ f ∧ f ≤ 1000000) (ht : -1000000 ≤ to ∧ to ≤ 1000000) :
    SeqStopsK Fence.wide n Try.prog 56 #[.pointer (some ⟨b0, 0, none⟩), .pointer (some ⟨b1, 0, none⟩), .pointer (some ⟨b2, 0, none⟩)] encs (Below w.heap.size) (fun xs => xs = t.vis f to) (fun _ => True) N w := fun l J Jx W hW hJ hJx hY hJ0 => by
  have x0 := (hW.cell (p := ⟨b0, 0, none⟩) h0.lt).trans h0.cell
  have x1 := (hW.cell (p := ⟨b1, 0, none⟩) h1.lt).trans h1.cell
  have x2 := (hW.cell (p := ⟨b2, 0, none⟩) h2.lt).trans h2.cell
  have HV := Lib.hid (visit_in l N w J Jx (fun s W _ hs => hJ s W _ none hs ⟨rfl, rfl, rfl, Nat.le_refl _, fun _ _ _ => rfl⟩ (fun r e => by cases e))
    (fun pre x W1 hp hl => yield_wide (hY pre x W1 hp hl)) t (n - 1) f to v [] W h hW hJ0 (by simpa using hN) hs hf ht)
  obtain ⟨a, rfl⟩ := h.ptr
  have hdep : Fence.wide.depth.isSome = false := rfl
  clear hY hJ hJx
  refine callsIn_of_wp Try.func56 rfl trivial ?_ rfl
  simp only [Try.ntmps56, List.size_toArray, List.length_cons, List.length_nil, Nat.reduceAdd, Nat.reduceSub, Array.replicate_succ, Array.replicate_zero, List.push_toArray, List.append_toArray, List.nil_append, List.cons_append]
  gi_wp2
  refine ⟨trivial, ?_⟩
  refine HV.out.mono ?_
  rintro e w1 (⟨rfl, hJ1, hb1⟩ | ⟨rfl, ys, hx⟩)
  · gi_wp2
    go_end0
    exact ⟨⟨_, rfl⟩, .inl ⟨_, rfl, hJ1⟩⟩
  · gi_wp2
    go_end0
    exact ⟨⟨_, rfl⟩, .inr ⟨_, trivial, hx⟩⟩

theorem row_base {W : World} {base base' : Nat} {e : TypeId} {size : Nat} {v : Value} {k : Nat} {xs : List Value} (h : W.ownsRow base e size v k xs) (hb : base' ≤ base) : W.ownsRow base' e size v k xs := by
  refine ⟨h.1, ?_⟩
  rcases h.2 with hn | ⟨g, cap, cur, hv, hbg, rest⟩
  · exact .inl hn
  · exact .inr ⟨g, cap, cur, hv, Nat.le_trans hb hbg, rest⟩
theorem str_info : (Try.prog.info? 9).map (fun i => (i.zero, i.size, i.bytes)) = some (some (.string ⟨#[]⟩), 1, 16) := by kernel_rfl
def ApPost (L : List (List UInt8)) (w : World) (e : Ending) (w' : World) : Prop := ∃ v, e = .returned v ∧ w'.ownsRow w.heap.size 9 1 v L.length (L.map estr) ∧ (v = .slice none 0 0 ↔ L = []) ∧ Below w.heap.size w w'
set_option maxRecDepth 100000 in
set_option maxHeartbeats 2000000 in
theorem appendSeq_any (L : List (List UInt8)) (lb : Array Value) {w : World} (hL : L.length ≤ 300000)
    (hseq : SeqStopsK Fence.wide 3 Try.prog 56 lb encs (Below w.heap.size) (fun xs => xs = L) (fun _ => True) L.length w) :
    Calls Try.prog 55 #[.slice none 0 0, .func (.func 56) #[] lb] w (ApPost L w) := by
  obtain ⟨i0, hi0, hz0, hz1, hz2⟩ := info_parts str_info
  refine (callsIn_wide (n := 4)).1 ?_
  refine callsIn_of_wp_marks Try.func55 rfl trivial ?_ rfl
  simp only [Try.ntmps55, List.size_toArray, List.length_cons, List.length_nil, Nat.reduceAdd, Nat.reduceSub, Array.replicate_succ, Array.replicate_zero, List.push_toArray, List.append_toArray, List.nil_append, List.cons_append]
  gi_wp2
  obtain ⟨W0, hW0⟩ : ∃ W0, w.alloc (.cells #[.slice none 0 0] 53) = W0 := ⟨_, rfl⟩
  have b0 : Boxed W0 w.heap.size 53 (.slice none 0 0) := by rw [← hW0]; exact Boxed.new _ _ _
  have hb0 : Below w.heap.size w W0 := by rw [← hW0]; exact (Below.refl _ w).alloc (Nat.le_refl _) _
  have hs0 : W0.heap.size = w.heap.size + 1 := by rw [← hW0]; simp
  rw [hW0]
  clear hW0
  refine wpIn_rangeFunc_ownH rfl (by omega) (gf := 56) (lb := lb) rfl trivial (enters_of Try.func56 (by kernel_rfl) rfl)
    hseq belowK_t (belowK_b (by omega)) hb0 (fun _ => rfl)
    (fun pre W => (∃ v, Boxed W w.heap.size 53 v ∧ W.ownsRow w.heap.size 9 1 v pre.length (pre.map estr) ∧ (v = .slice none 0 0 ↔ pre = [])) ∧ Below w.heap.size w W)
    (fun _ _ _ => False)
    (OwnFrom.and ((holdsRow_own w.heap.size w.heap.size 53 9 1 (fun pre => pre.length) (fun pre => pre.map estr) (fun pre v => (v = .slice none 0 0 ↔ pre = []))).from _) (ownFrom_below (Nat.le_refl _) (by omega)))
    (fun _ _ _ _ _ h _ _ => h.elim)
    ⟨⟨_, b0, World.ownsRow_nil _ _ _ _, by simp⟩, hb0⟩
    (fun x a' _ => a' = { tmps := #[.slice none 0 0, .func (.func 56) #[] lb, .pointer (some ⟨w.heap.size, 0, none⟩), undef, .slice none 0 0, estr x, .func (.func 56) #[] lb, estr x, undef, undef, undef, undef, undef], defers := [] })
    (fun _ _ _ _ _ _ h _ _ => h)
    ?assign ?body ?done ?stop
  case assign =>
    rintro l pre x W K hI hK
    simp only [encs]
    gi_wp2
    exact hK _ _ (KeepsFrom.refl _ _) (Below.refl _ _) hI rfl
  case body =>
    rintro l pre x a' W hl _ ⟨⟨v, hv, hrow, hnil⟩, hB⟩ rfl hlt
    have hc := hv.cell
    have hf := hv.frozen
    have hsz := hB.size
    obtain ⟨xs, hxs⟩ : ∃ xs : ByteArray, estr x = .string xs := ⟨_, rfl⟩
    rw [hxs]
    have HX := Lib.hid hxs
    clear hxs
    gi_wp2_with ((gi_at_builtin; refine wpListIn_append_own _ rfl _ _ 53 rfl w.heap.size 9 i0 (.string ⟨#[]⟩) 1 16 Try.underlying53 hi0 hz0 hz1 hz2 rfl (by decide) _ _ _ rfl (hrow.alloc _) ⟨W.heap.size, 0, none⟩ 1 1 [.string xs] rfl rfl (cell_one_new _ _ _) (by simp [Value.oneCell']) (by unfold maxLen; omega) (by omega) (by simp; omega) ?_; intro v' w3 hown' hg3 hnil3; obtain ⟨q1, q2, q3, q4, q5⟩ := Boxed.appended hv (by decide) hrow hsz (Nat.le_refl _) hown' hg3; have hc3 := q1.cell; have hf3 := q1.frozen; obtain ⟨g', cap', rfl, _⟩ := ownsRow_succ hown'))
    refine ⟨q4.from _, q5, ⟨_, q2, ?_, by simp⟩, hB.trans q5⟩
    rw [List.length_append, List.map_append, List.map_cons, List.map_nil, HX.out]
    exact q3
  case done =>
    rintro D ys W hD rfl ⟨⟨v, hv, hrow, hnil⟩, hB⟩ hK
    obtain ⟨ao, cap, rfl⟩ : ∃ ao cap, v = .slice ao ys.length cap := by
      rcases hrow.2 with ⟨h1, h2⟩ | ⟨g, cap, cur, h1, _⟩
      · exact ⟨none, 0, by rw [h1, h2]⟩
      · exact ⟨_, _, h1⟩
    have hc := hv.cell
    have HR := Lib.hid hrow
    have HNL := Lib.hid hnil
    clear hnil hrow
    gi_wp2
    refine ⟨by simp, .inl ⟨_, _, rfl, run_takeDeferred hK, ?_⟩⟩
    have hDl := (Array.getElem?_eq_some_iff.1 hK).1
    refine ⟨.slice ao ys.length cap, by simp [results, Try.f55, go_sem], .slice ao ys.length cap, rfl, ?_, HNL.out, ?_⟩
    · refine HR.out.kept (grownBy_putObj' W D (.deferred none)) ?_
      rcases HR.out.2 with ⟨h1, _⟩ | ⟨g, cap2, cur, h1, _, hg, _⟩
      · rw [h1]; exact .inl rfl
      · rw [h1]
        refine .inr (fun e => ?_)
        obtain rfl : g = D := by simpa [Value.ownBlock] using e
        rw [hK] at hg
        cases hg
    · exact hB.trans (belowK_b (w := w) (Nat.le_refl _) _ D _ _ (by omega) hK rfl rfl)
  case stop =>
    rintro D c pre W _ _ h
    exact h.elim
set_option maxHeartbeats 1000000 in
theorem collect_any (L : List (List UInt8)) (lb : Array Value) {w : World} (hL : L.length ≤ 300000)
    (hseq : SeqStopsK Fence.wide 3 Try.prog 56 lb encs (Below w.heap.size) (fun xs => xs = L) (fun _ => True) L.length w) :
    Calls Try.prog 43 #[.func (.func 56) #[] lb] w (ApPost L w) := by
  have HS := Lib.hid hseq
  clear hseq
  go_enter Try.func43, Try.ntmps43
  go_wp2_with (go_at_call 55; refine (appendSeq_any L lb hL HS.out).mono ?_; rintro e w1 ⟨v, rfl, h1, h2, h3⟩)
  go_ret
  exact ⟨_, rfl, h1, h2, h3⟩
/-- parts, collected -/
theorem collect_parts (f to : Int) {w : World} {t : Tr} {v : Value} (h : Nd t w v) (hs : t.size ≤ 200000) (hc : t.count ≤ 200000) (hf : -1000000 ≤ f ∧ f ≤ 1000000) (ht : -1000000 ≤ to ∧ to ≤ 1000000) :
    Calls Try.prog 43 #[.func (.func 56) #[] #[.pointer (some ⟨w.heap.size, 0, none⟩), .pointer (some ⟨w.heap.size + 1, 0, none⟩), .pointer (some ⟨w.heap.size + 1 + 1, 0, none⟩)]]
      (((w.alloc (.cells #[v] 67)).alloc (.cells #[.int .i64 f] 3)).alloc (.cells #[.int .i64 to] 3)) (ApPost (t.vis f to) w) := by
  have hl := Tr.vis_len t f to
  have b0 := ((Boxed.new w 67 v).alloc (.cells #[.int .i64 f] 3)).alloc (.cells #[.int .i64 to] 3)
  have b1 := (Boxed.new (w.alloc (.cells #[v] 67)) 3 (.int .i64 f)).alloc (.cells #[.int .i64 to] 3)
  have b2 := Boxed.new ((w.alloc (.cells #[v] 67)).alloc (.cells #[.int .i64 f] 3)) 3 (.int .i64 to)
  have hB : Below w.heap.size w (((w.alloc (.cells #[v] 67)).alloc (.cells #[.int .i64 f] 3)).alloc (.cells #[.int .i64 to] 3)) := (((Below.refl _ w).alloc (Nat.le_refl _) _).alloc (by simp) _).alloc (by simp; omega) _
  simp only [World.size_alloc] at b1 b2
  refine (collect_any (t.vis f to) _ (by omega) (parts_stops 3 _ (((h.alloc _).alloc _).alloc _) (Nat.le_refl _) b0 b1 b2 hs hf ht)).mono ?_
  rintro e w' ⟨v', h1, h2, h3, h4⟩
  exact ⟨v', h1, row_base h2 hB.size, h3, hB.trans (h4.mono hB.size)⟩

/-! ### Chunks, String, Slice -/
theorem toString_list (xs : List (List UInt8)) : (xs.map estr) = (xs.map fun x => (⟨x.toArray⟩ : ByteArray)).map Value.string := by simp [estr]
theorem join_empty (xs : List (List UInt8)) : Lib.join ((xs.map fun x => (⟨x.toArray⟩ : ByteArray)).map (·.data.toList)) [] = xs.flatten := by
  rw [List.map_map, show (xs.map ((fun b : ByteArray => b.data.toList) ∘ fun x => (⟨x.toArray⟩ : ByteArray))) = xs from by simp [Function.comp_def]]
  cases xs with
  | nil => rfl
  | cons x r => rw [Lib.join_cons]; simp [Lib.joinTail]
/-- strings.Join of a row of the call's own with nothing between -/
theorem join_row (xs : List (List UInt8)) {w : World} {base : Nat} {v : Value} (h : w.ownsRow base 9 1 v xs.length (xs.map estr)) (hl : xs.length ≤ 300000) (hf : xs.flatten.length ≤ 140737488355328) :
    Calls Try.prog 42 #[v, .string ⟨#[]⟩] w fun e w' => e = .returned (.string ⟨xs.flatten.toArray⟩) ∧ Below w.heap.size w w' := by
  rcases h.2 with ⟨rfl, h0⟩ | ⟨g, cap, cur, rfl, _, hg, hn, _, _, _⟩
  · obtain rfl : xs = [] := List.eq_nil_of_length_eq_zero h0
    exact (Try.strings_Join_none none 0 ⟨#[]⟩ w).mono fun e w' ⟨h1, h2⟩ => ⟨h1, h2 ▸ Below.refl _ _⟩
  · have := Try.strings_Join g 0 cap (xs.map fun x => (⟨x.toArray⟩ : ByteArray)) ⟨#[]⟩ w (fun j x hx => by
      have hj : j < xs.length := by have := (List.getElem?_eq_some_iff.1 hx).1; simpa using this
      have e := h.cellAt j (by omega)
      rw [Nat.zero_add, e, toString_list, List.getElem?_map, hx]
      rfl) (Array.getElem?_eq_some_iff.1 hg).1 (by simp; omega) (by simpa using hn) (by
        show (Lib.join ((xs.map fun x => (⟨x.toArray⟩ : ByteArray)).map (·.data.toList)) []).length ≤ _
        rw [join_empty]; exact hf)
    rw [List.length_map] at this
    refine this.mono ?_
    rintro e w' ⟨rfl, hb⟩
    refine ⟨?_, hb⟩
    show Ending.returned (.string ⟨(Lib.join ((xs.map fun x => (⟨x.toArray⟩ : ByteArray)).map (·.data.toList)) []).toArray⟩) = _
    rw [join_empty]

theorem seg_nil (t : Tr) (f to : Int) : (t.vis f to).flatten.length ≤ t.size := by
  rw [Tr.vis_bytes, List.length_drop, List.length_take]
  have : t.size = t.bytes.length := rfl
  omega
/-- the bytes that a tree stores -/
def Tr.str (t : Tr) : ByteArray := ⟨t.bytes.toArray⟩
theorem row_slice {W : World} {base : Nat} {e : TypeId} {v : Value} {k : Nat} {xs : List Value} (h : W.ownsRow base e 1 v k xs) : ∃ ao cap, v = .slice ao k cap := by
  rcases h.2 with ⟨h1, h2⟩ | ⟨g, cap, cur, h1, _⟩
  · exact ⟨none, 0, by rw [h1, h2]⟩
  · exact ⟨_, _, h1⟩
theorem cell_three {w : World} {a : Addr} {u : Value} (h : w.cell? a = some u) (hlt : a.block < w.heap.size) (n : Nat) (o1 o2 o3 : Obj) : ((((w.drewN n).alloc o1).alloc o2).alloc o3).cell? a = some u :=
  (Below.cell ((((below_drewN (Below.refl w.heap.size w) n).alloc (Nat.le_refl _) _).alloc (by simp) _).alloc (by simp; omega) _) hlt).trans h
theorem tstring_any {w : World} {tb : Nat} {t : Tr} (h : Tree w tb t) (ho : t.okay) : Calls Try.prog 21 #[.pointer (some ⟨tb, 0, none⟩)] w fun e w' => e = .returned (.string t.str) ∧ Below w.heap.size w w' := by
  obtain ⟨rv, h1, h2⟩ := h
  have c0 := h1.cell 0
  have lt := h1.lt
  simp at c0
  clear h1
  obtain ⟨p, rfl⟩ := h2.ptr
  have hs := ho.2
  have hc := Tr.count_le ho.1
  have hl := Tr.vis_len t 0 (t.size : Int)
  have hfl := seg_nil t 0 (t.size : Int)
  have hC := Lib.hid (collect_parts 0 (t.size : Int) (h2.drewN 1) (by omega) (by omega) ⟨by omega, by omega⟩ ⟨by omega, by omega⟩)
  have hB := Tr.vis_bytes t 0 (t.size : Int)
  have hB2 : (t.vis 0 (t.size : Int)).flatten = t.bytes := by
    rw [hB, Int.toNat_natCast, show t.size = t.bytes.length from rfl, List.take_length]
    rfl
  have HB := Lib.hid hB2
  have HL := Lib.hid (show (t.vis 0 (t.size : Int)).length ≤ 300000 by omega)
  have HF := Lib.hid (show (t.vis 0 (t.size : Int)).flatten.length ≤ 140737488355328 by omega)
  have hA := fun n o1 o2 o3 => cell_three (a := ⟨tb, 0, none⟩) c0 lt n o1 o2 o3
  clear hs hc hl hfl hB hB2 ho
  go_enter Try.func21, Try.ntmps21
  go_wp2_with fail
  go_region_held3 (fun w' => w'.cell? ⟨tb, 0, none⟩ = some (Value.pointer p))
    (first | go_keep)
    (first
      | (go_at_call 36; refine (len_any (h2.drewN _)).mono ?_; rintro e w' ⟨rfl, rfl⟩)
      | (go_at_call 44; refine (parts_any _ _ _ _ ⟨_, rfl⟩).mono ?_; rintro e w' ⟨rfl, rfl⟩)
      | (go_at_call 43; refine hC.out.mono ?_; rintro e w2 ⟨v, rfl, k1, k2, k3⟩; obtain ⟨ao, cap, rfl⟩ := row_slice k1; have c0 := (k3.cell (p := ⟨tb, 0, none⟩) lt).trans c0; have lt2 := Nat.lt_of_lt_of_le lt k3.size)
      | (go_at_call 42; refine (join_row _ k1 HL.out HF.out).mono ?_; rintro e w3 ⟨rfl, hb3⟩; have c0 := (hb3.cell (p := ⟨tb, 0, none⟩) lt2).trans c0))
  all_goals
    go_wp2_with fail
    go_ret
    exact ⟨by rw [HB.out]; rfl, (below_drewN (Below.refl _ _) _).trans (k3.trans (hb3.mono k3.size))⟩
end Go.Proofs.Ytbpokgjahlnfhaa
