/- The law Fills. -/
import Derived.Test.YtfdnpchbbngpjaaGreatJxb
import Derived.Lib.AppendStr
namespace Go.Proofs.YtfdnpchbbngpjaaGreat
attribute [local go_sem ↓] Go.wp_at_zero Go.wp_at_succ
open Go.RowKit Go.Maps

/-! ### new zero bytes as a string -/
def zs (k : Nat) : ByteArray := bytesOf (List.replicate k 0)
theorem zs_size (k : Nat) : (zs k).size = k := by unfold zs; rw [bytesOf_size, List.length_replicate]
theorem make_z (k : Nat) (hk : k ≤ 1048576) (w : World) : (Instr.makeSlice 31 (.int .i64 (k : Int)) (.int .i64 (k : Int))).run Tryz.prog w = .ok (.slice (some ⟨w.heap.size, 0, none⟩) k k) (w.alloc (.cells (madeCells #[.int .u8 0] k) 5)) :=
  run_make_row' (P := Tryz.prog) 31 5 (.int .u8 0) 1 Tryz.underlying31 u8_info' rfl .i64 .i64 k (by omega) (by omega) w
theorem madeCells_at (k j : Nat) (hj : j < k) : (madeCells #[Value.int .u8 0] k)[j]? = some (.int .u8 0) := by
  have h : (madeCells #[Value.int .u8 0] k).toList = List.replicate k (.int .u8 0) := toList_madeCells_one _ _
  rw [← Array.getElem?_toList, h, List.getElem?_replicate, if_pos hj]
theorem conv_z (k : Nat) (W : World) : (convert 31 9 (.slice (some ⟨W.heap.size, 0, none⟩) k k)).run Tryz.prog (W.alloc (.cells (madeCells #[.int .u8 0] k) 5)) = .ok (.string (zs k)) (W.alloc (.cells (madeCells #[.int .u8 0] k) 5)) := by
  have hb : Blk (W.alloc (.cells (madeCells #[.int .u8 0] k) 5)) W.heap.size 5 (madeCells #[.int .u8 0] k) := Blk.new _ _ _
  have := run_convert_bytes_back (P := Tryz.prog) (W.alloc (.cells (madeCells #[.int .u8 0] k) 5)) 31 9 5 ⟨W.heap.size, 0, none⟩ k (List.replicate k 0) Tryz.underlying31 Tryz.underlying5 Tryz.underlying9 (fun j hj => by
    rw [List.length_replicate] at hj
    rw [addr_add, Nat.zero_add, hb.cell j, madeCells_at k j hj, List.getElem_replicate]
    rfl)
  rw [List.length_replicate] at this
  exact this

/-! ### the law in plain words -/
theorem JS.full {S : JS} {n z : Nat} (hz : S.free n = (z : Int) - 1) (h : z ≤ 65536) : S.append n (zs z) = (0, 37, S) := by
  unfold JS.append
  rw [zs_size, if_neg (by omega), if_pos (by omega)]
theorem JS.full0 {S : JS} {n : Nat} (hz : S.free n = -1) : S.append n ⟨#[]⟩ = (0, 37, S) := by
  unfold JS.append
  rw [if_neg (by show ¬ 65536 < 0; omega), if_pos (by rw [hz]; show (-1 : Int) < 0; omega)]
theorem JS.long {S : JS} {n : Nat} : S.append n (zs 65537) = (0, 10, S) := by
  unfold JS.append
  rw [zs_size, if_pos (by omega)]
theorem JS.fits {S : JS} {n y : Nat} (hz : S.free n = (y : Int)) (h : y ≤ 65536) (hb : S.beg ≤ S.next) (hn : n ≤ 65536) : ∃ S', S.append n (zs y) = ((S.first : Int) + S.recs.length, 0, S') ∧ S'.free n = -1 ∧ S'.recs.length = S.recs.length + 1 ∧ S'.comm = S.comm := by
  refine ⟨{ S with recs := S.recs ++ [(S.next, zs y)] }, ?_, ?_, ?_, rfl⟩
  · unfold JS.append
    rw [zs_size, if_neg (by omega), if_neg (by omega)]
  · have e : rend S.beg (S.recs ++ [(S.next, zs y)]) = S.next + 16 + (zs y).size := rend_snoc _ _ _
    rw [zs_size] at e
    unfold JS.free at hz ⊢
    show max (-1) (min ((n : Int) - ((rend S.beg (S.recs ++ [(S.next, zs y)]) : Int) - S.beg) - 16) 65536) = -1
    rw [e]
    omega
  · simp
theorem JS.free_bounds (S : JS) (n : Nat) (h : S.beg ≤ S.next) : -1 ≤ S.free n ∧ S.free n ≤ 65536 ∧ S.free n ≤ max (-1) (n : Int) := by
  unfold JS.free
  omega
theorem JS.free_some {S : JS} {n : Nat} (hn : 16 ≤ n) (hz : S.free n = -1) : S.recs.length ≠ 0 := by
  intro e
  have : S.recs = [] := List.eq_nil_of_length_eq_zero e
  have hx : S.next = S.beg := by unfold JS.next; rw [this]; rfl
  unfold JS.free at hz
  rw [hx] at hz
  omega
theorem JS.drop_all (S : JS) (n : Nat) (hn : 16 ≤ n) (hn2 : n ≤ 65536) : (S.drop S.recs.length).free n = (n : Int) - 16 ∧ ((S.drop S.recs.length).first : Int) = S.last + 1 ∧ (S.drop S.recs.length).last = S.last := by
  have hx := S.next_drop S.recs.length
  have hb : (S.drop S.recs.length).beg = S.next := by show rend S.beg (S.recs.take S.recs.length) = _; rw [List.take_length]; rfl
  have hr : (S.drop S.recs.length).recs.length = 0 := by show (S.recs.drop S.recs.length).length = 0; simp
  have hf : (S.drop S.recs.length).first = S.first + S.recs.length := rfl
  refine ⟨?_, ?_, ?_⟩
  · unfold JS.free
    rw [hx, hb]
    omega
  · rw [hf]; unfold JS.last; omega
  · unfold JS.last
    rw [hr, hf]; omega

/-! ### the journal and the book, more -/
section
variable {w0 w w' : World} {vb jb bb tb : Nat} {S S' : JS} {br br' : Bool} {st st' : VS} {B B' : BS} {X Y : List (Nat × Obj)} {m c : Nat}
theorem kjfree (h : Wk w0 w vb jb bb tb S br st B X) (hl : st.dur.length = m + 2) (hS : S.wf (256 * m) c) (hc : c ≤ 1048576) :
    Calls Tryz.prog 26 #[.pointer (some ⟨jb, 0, none⟩)] w fun e w' => e = .returned (.int .i64 (S.free (256 * m))) ∧ Wk w0 w' vb jb bb tb S br st B X :=
  h.callL _ (fun _ _ _ _ j _ => (free_any j.j j.v hl (by have := hS.pos; have := hS.en_le; have := hS.beg_le; omega) (by have := hS.pos; omega)).mono (by rintro e w' ⟨rfl, n, rfl⟩; exact ⟨rfl, below_drewN (Below.refl _ _)⟩))
theorem kfirst (h : Wk w0 w vb jb bb tb S br st B X) :
    Calls Tryz.prog 29 #[.pointer (some ⟨jb, 0, none⟩)] w fun e w' => e = .returned (.int .i64 (S.first : Int)) ∧ Wk w0 w' vb jb bb tb S br st B X :=
  h.callL _ (fun _ _ _ _ j _ => (first_any j.j).mono (by rintro e w' ⟨rfl, rfl⟩; exact ⟨rfl, Below.refl _ _⟩))
theorem klast (h : Wk w0 w vb jb bb tb S br st B X) (hS : S.wf (256 * m) c) (hc : c ≤ 1048576) :
    Calls Tryz.prog 28 #[.pointer (some ⟨jb, 0, none⟩)] w fun e w' => e = .returned (.int .i64 S.last) ∧ Wk w0 w' vb jb bb tb S br st B X :=
  h.callL _ (fun _ _ _ _ j _ => (last_any j.j (by have := hS.nums; omega) (by have := hS.nums; omega)).mono (by rintro e w' ⟨rfl, n, rfl⟩; exact ⟨rfl, below_drewN (Below.refl _ _)⟩))
theorem kbfree (h : Wk w0 w vb jb bb tb S br st B X) (hA : B.area.length = 256 * m) (hm2 : m ≤ 64) (hS : B.s.wf (256 * m) c) (hc : c ≤ 1048576) :
    Calls Tryz.prog 27 #[.pointer (some ⟨bb, 0, none⟩)] w fun e w' => e = .returned (.int .i64 (B.s.free (256 * m))) ∧ Wk w0 w' vb jb bb tb S br st B X := by
  have hn := hS.nums
  have hp := hS.pos
  have h1 := hS.en_le
  have h2 := hS.beg_le
  have hb := hS.recs_bound hc
  rw [← hA]
  refine h.callL _ (fun _ _ _ _ _ k => ?_)
  obtain ⟨_, _, _, _, _, _, _, k, _⟩ := k
  exact bfree_any k (by omega) (fun r hr => (hb r hr).1) (by omega) (by omega) (by omega)
/-- Commit on a calm device, where there is something to commit -/
theorem kcommit_calm {C : BS} (h : Wk w0 w vb jb bb tb S false st B X) (hI : Inv st C m c) (hs : C.s = S) (hc : c + 1 ≤ 1048576) (hlt : S.comm < S.recs.length) (hC : Calm st) :
    Calls Tryz.prog 16 #[.pointer (some ⟨jb, 0, none⟩)] w fun e w' => e = .returned (.int .i64 0) ∧ ∃ st', Wk w0 w' vb jb bb tb S.commit false st' B X ∧ Inv st' C.commit m (c + 1) ∧ C.commit.s = S.commit ∧ Calm st' := by
  subst hs
  refine (kcommit h hI.up hI.len hI.m1 hI.m2 hI.s hc hlt).mono ?_
  rintro e w' ⟨L, hL, rfl, hW⟩
  have hL' : RingOK C.area C.put m L := by
    rw [hI.area] at hL
    exact hL
  have hok := hI.commit_ok hc hlt hL'
  have hcalm := hC.commitV L C.s.commit.hd
  rcases hok with ⟨a, b⟩ | ⟨a, _⟩
  · rw [a] at hW
    exact ⟨by rw [a]; rfl, _, hW, b, by unfold BS.commit; rw [if_neg (by omega), header_s], hcalm.1⟩
  · exact absurd a hcalm.2
/-- Truncate on a calm device -/
theorem ktrunc_calm {C : BS} (h : Wk w0 w vb jb bb tb S false st B X) (hI : Inv st C m c) (hs : C.s = S) (hc : c + 1 ≤ 1048576) {k : Nat} (hk1 : 1 ≤ k) (hk : k ≤ S.comm) (hC : Calm st) :
    Calls Tryz.prog 17 #[.pointer (some ⟨jb, 0, none⟩), .int .i64 ((S.first : Int) + k - 1)] w fun e w' => e = .returned (.int .i64 0) ∧ ∃ st', Wk w0 w' vb jb bb tb (S.drop k) false st' B X ∧ Inv st' (BS.header C (S.drop k)) m (c + 1) ∧ Calm st' := by
  subst hs
  refine (ktrunc h hI.s hc hk1 hk).mono ?_
  rintro e w' ⟨rfl, hW⟩
  have hcalm := hC.putHd (C.s.drop k).hd
  rcases hI.trunc_ok hc hk with ⟨a, b⟩ | ⟨a, _⟩
  · rw [a] at hW
    exact ⟨by rw [a]; rfl, _, hW, b, hcalm.1⟩
  · exact absurd a hcalm.2
theorem Wk.barea (h : Wk w0 w vb jb bb tb S br st B X) : ∃ ao cap, w.cell? ⟨bb, 2, none⟩ = some (.slice ao B.area.length cap) := by
  obtain ⟨rv, hen, F, G, k1, k2, k3, k4, k5, k6⟩ := h
  obtain ⟨_, _, _, _, _, _, _, k, _⟩ := k2
  exact ⟨_, _, k.blk.cell 2⟩
/-- what is left to do when the journal is full -/
structure Full (m c : Nat) (S : JS) (st : VS) (C : BS) : Prop where
  inv : Inv st C m c
  s : C.s = S
  calm : Calm st
  comm : S.comm = 0
  many : S.recs.length ≠ 0
  free : S.free (256 * m) = -1
theorem Full.last {C : BS} (h : Full m c S st C) : 1 ≤ S.last ∧ S.last ≤ 2097152 := by
  have hS := h.inv.s
  rw [h.s] at hS
  have h1 := hS.one
  have h2 := hS.nums
  have h3 := h.many
  have h4 := h.inv.small
  unfold JS.last
  omega
theorem Full.commit {C : BS} (hF : Full m c S st C) (hc : c + 1 ≤ 1048576) (h : Wk w0 w vb jb bb tb S false st B X) :
    Calls Tryz.prog 16 #[.pointer (some ⟨jb, 0, none⟩)] w fun e w' => e = .returned (.int .i64 0) ∧ ∃ st', Wk w0 w' vb jb bb tb S.commit false st' B X ∧ ∃ C', Inv st' C' m (c + 1) ∧ C'.s = S.commit ∧ Calm st' := by
  have h1 := hF.comm
  have h2 := hF.many
  refine (kcommit_calm h hF.inv hF.s hc (by omega) hF.calm).mono ?_
  rintro e w' ⟨rfl, st', a, b, d, f⟩
  exact ⟨rfl, st', a, _, b, d, f⟩
theorem full_trunc {C : BS} {la : Int} (hla : S.last = la) (hne : S.recs.length ≠ 0) (hI : Inv st C m c) (hs : C.s = S.commit) (hC : Calm st) (hc : c + 1 ≤ 1048576) (h : Wk w0 w vb jb bb tb S.commit false st B X) :
    Calls Tryz.prog 17 #[.pointer (some ⟨jb, 0, none⟩), .int .i64 la] w fun e w' => e = .returned (.int .i64 0) ∧ ∃ st', Wk w0 w' vb jb bb tb (S.commit.drop S.recs.length) false st' B X ∧ st'.dur.length = m + 2 ∧ (S.commit.drop S.recs.length).wf (256 * m) (c + 1) := by
  have := ktrunc_calm (k := S.recs.length) h hI hs hc (by omega) (Nat.le_refl _) hC
  rw [show (S.commit.first : Int) + (S.recs.length : Int) - 1 = la from hla] at this
  refine this.mono ?_
  rintro e w' ⟨rfl, st', a, b, d⟩
  refine ⟨rfl, st', a, b.len, ?_⟩
  have := b.s
  rw [header_s] at this
  exact this
theorem full_app0 {C : BS} (hF : Full m c S st C) (h : Wk w0 w vb jb bb tb S false st B X) :
    Calls Tryz.prog 23 #[.pointer (some ⟨jb, 0, none⟩), .string ⟨#[]⟩] w fun e w' => e = .returned (.tuple #[.int .i64 0, .int .i64 37]) ∧ Wk w0 w' vb jb bb tb S false st B X := by
  have := kappend ⟨#[]⟩ h hF.inv.len (by have := hF.inv.s; rw [hF.s] at this; exact this) hF.inv.small
  rw [JS.full0 hF.free] at this
  exact this
theorem full_last {C : BS} (hF : Full m c S st C) {la : Int} (hla : S.last = la) (h : Wk w0 w vb jb bb tb S false st B X) :
    Calls Tryz.prog 28 #[.pointer (some ⟨jb, 0, none⟩)] w fun e w' => e = .returned (.int .i64 la) ∧ Wk w0 w' vb jb bb tb S false st B X := by
  have := klast h (by have := hF.inv.s; rw [hF.s] at this; exact this) hF.inv.small
  rw [hla] at this
  exact this
theorem full_long (hl : st.dur.length = m + 2) (hS : S.wf (256 * m) c) (hc : c ≤ 1048576) (h : Wk w0 w vb jb bb tb S false st B X) :
    Calls Tryz.prog 23 #[.pointer (some ⟨jb, 0, none⟩), .string (zs 65537)] w fun e w' => e = .returned (.tuple #[.int .i64 0, .int .i64 10]) ∧ Wk w0 w' vb jb bb tb S false st B X := by
  have := kappend (zs 65537) h hl hS hc
  rw [JS.long] at this
  exact this
theorem full_tail {N : Nat} {la : Int} (hla : S.last = la) (hN : 256 * m = N) (hN1 : 16 ≤ N) (hN2 : N ≤ 65536) (hA : B.area.length = N) (hl : st.dur.length = m + 2) (hS : (S.commit.drop S.recs.length).wf (256 * m) c) (hc : c ≤ 1048576) (h : Wk w0 w vb jb bb tb (S.commit.drop S.recs.length) false st B X) :
    ∃ ar ac, ∀ w', Below w.heap.size w w' → w'.cell? ⟨bb, 2, none⟩ = some (.slice ar N ac) ∧
      (Calls Tryz.prog 26 #[.pointer (some ⟨jb, 0, none⟩)] w' fun e w'' => e = .returned (.int .i64 ((N : Int) - 16)) ∧ Below w.heap.size w w'') ∧
      (Calls Tryz.prog 29 #[.pointer (some ⟨jb, 0, none⟩)] w' fun e w'' => e = .returned (.int .i64 (la + 1)) ∧ Below w.heap.size w w'') ∧
      (Calls Tryz.prog 28 #[.pointer (some ⟨jb, 0, none⟩)] w' fun e w'' => e = .returned (.int .i64 la) ∧ Below w.heap.size w w'') := by
  obtain ⟨f1, f2, f3⟩ := JS.drop_all S.commit N hN1 hN2
  have e : S.commit.recs.length = S.recs.length := rfl
  have e2 : S.commit.last = S.last := rfl
  rw [e] at f1 f2 f3
  rw [e2, hla] at f2 f3
  have h4 := hS.pos
  have h5 := hS.en_le
  have h6 := hS.beg_le
  have h7 := hS.nums
  obtain ⟨rv, hen, F, G, k1, k2, k3, k4, k5, k6⟩ := h
  obtain ⟨_, _, _, _, _, _, _, k, _⟩ := k2
  refine ⟨_, _, fun w' hb => ⟨by rw [← hA]; exact (k.below hb).blk.cell 2, ?_, ?_, ?_⟩⟩
  · have := free_any (k1.below hb).j (k1.below hb).v hl (by omega) (by omega)
    rw [hN, f1] at this
    exact this.mono (by rintro e w'' ⟨rfl, n, rfl⟩; exact ⟨rfl, below_drewN hb⟩)
  · have := first_any (k1.below hb).j
    rw [f2] at this
    exact this.mono (by rintro e w'' ⟨rfl, rfl⟩; exact ⟨rfl, hb⟩)
  · have := last_any (k1.below hb).j (by omega) (by omega)
    rw [f3] at this
    exact this.mono (by rintro e w'' ⟨rfl, n, rfl⟩; exact ⟨rfl, below_drewN hb⟩)
theorem u16_cell {v : Value} {l : List Nat} (h : U16s w0 v l) {k : Nat} (hk : k < l.length) : ∃ b off cap, v = .slice (some ⟨b, off, none⟩) l.length cap ∧ l.getD k 0 < 65536 ∧ ∀ w', Below w0.heap.size w0 w' → w'.cell? ⟨b, off + k, none⟩ = some (.int .u16 (l.getD k 0 : Int)) := by
  obtain ⟨h0, ao, cap, h1, h2, h3⟩ := h
  obtain ⟨b, off, e, hlt, hc⟩ := h3 (by omega)
  subst e
  refine ⟨b, off, cap, h1, ?_, fun w' hb => (hb.cell (p := ⟨b, _, none⟩) hlt).trans (hc k hk)⟩
  rw [List.getD_eq_getElem?_getD, List.getElem?_eq_getElem hk]
  exact h0 _ (List.getElem_mem hk)
end
end Go.Proofs.YtfdnpchbbngpjaaGreat
