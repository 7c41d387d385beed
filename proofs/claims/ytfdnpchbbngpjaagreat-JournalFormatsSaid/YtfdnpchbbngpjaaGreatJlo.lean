/- A device and its book in one world; Format on it; the law Formats. -/
import Derived.Test.YtfdnpchbbngpjaaGreatJxb
namespace Go.Proofs.YtfdnpchbbngpjaaGreat
attribute [local go_sem ↓] Go.wp_at_zero Go.wp_at_succ
open Go.RowKit Go.Maps

/-- device vb and book bb, laid since w0, apart from one another -/
def Wv (w0 w : World) (vb bb : Nat) (st : VS) (B : BS) : Prop :=
  ∃ F G, VolF w vb st F ∧ BkF w bb B G ∧ (∀ i, i ∈ F → i ∉ G ∧ w0.heap.size ≤ i) ∧ (∀ i, i ∈ G → w0.heap.size ≤ i) ∧ Below w0.heap.size w0 w
section
variable {w0 w w' : World} {vb jb bb tb : Nat} {S S' : JS} {br br' : Bool} {st st' : VS} {B B' C : BS} {X : List (Nat × Obj)} {m c : Nat}
theorem Wv.size (h : Wv w0 w vb bb st B) : Below w0.heap.size w0 w := by
  obtain ⟨_, _, _, _, _, _, h5⟩ := h
  exact h5
theorem Wv.below (h : Wv w0 w vb bb st B) (hb : Below w.heap.size w w') : Wv w0 w' vb bb st B := by
  obtain ⟨F, G, h1, h2, h3, h4, h5⟩ := h
  exact ⟨F, G, h1.below hb, h2.below hb, h3, h4, h5.trans (hb.mono h5.size)⟩
theorem Wk.toWv (h : Wk w0 w vb jb bb tb S br st B X) : Wv w0 w vb bb st B := by
  obtain ⟨rv, hen, F, G, h1, h2, h3, h4, h5, _⟩ := h
  exact ⟨F, G, h1.v, h2, fun i hi => h3 i (by simp [jvfoot, hi]), h4, h5⟩
theorem Wv.stepV (h : Wv w0 w vb bb st B) (hs : ∀ F, VolF w vb st F → Step F w w' vb st') : Wv w0 w' vb bb st' B := by
  obtain ⟨F, G, h1, h2, h3, h4, h5⟩ := h
  obtain ⟨F', k1, k2, k3⟩ := hs F h1
  refine ⟨F', G, k1, h2.turn k2 (fun i hi hi2 => (h3 i hi2).1 hi), fun i hi => ?_, h4, h5.trans (k2.toBelow (fun i hi => (h3 i hi).2) h5.size)⟩
  rcases k3 i hi with e | e
  · exact h3 i e
  · refine ⟨fun hg => ?_, Nat.le_trans h5.size e⟩
    have := h2.lt i hg
    omega
theorem Wv.stepB (h : Wv w0 w vb bb st B) (hs : ∀ G, BkF w bb B G → BStep G w w' bb B') : Wv w0 w' vb bb st B' := by
  obtain ⟨F, G, h1, h2, h3, h4, h5⟩ := h
  obtain ⟨G', k1, k2, k3⟩ := hs G h2
  refine ⟨F, G', h1.turn k2 (fun i hi => (h3 i hi).1), k1, fun i hi => ⟨fun hg => ?_, (h3 i hi).2⟩, fun i hi => ?_, h5.trans (k2.toBelow h4 h5.size)⟩
  · rcases k3 i hg with e | e
    · exact (h3 i hi).1 e
    · have := h1.lt i hi; omega
  · rcases k3 i hi with e | e
    · exact h4 i e
    · exact Nat.le_trans h5.size e
theorem Wv.callV {f : FuncId} {a : Array Value} (P : Ending → Prop) (h : Wv w0 w vb bb st B)
    (hc : ∀ F, VolF w vb st F → Calls Tryz.prog f a w fun e w' => P e ∧ Step F w w' vb st') : Calls Tryz.prog f a w fun e w' => P e ∧ Wv w0 w' vb bb st' B := by
  have h' := h
  obtain ⟨F, G, h1, h2, h3, h4, h5⟩ := h'
  refine (hc F h1).mono ?_
  rintro e w' ⟨hp, F', k1, k2, k3⟩
  refine ⟨hp, F', G, k1, h2.turn k2 (fun i hi hi2 => (h3 i hi2).1 hi), fun i hi => ?_, h4, h5.trans (k2.toBelow (fun i hi => (h3 i hi).2) h5.size)⟩
  rcases k3 i hi with e | e
  · exact h3 i e
  · refine ⟨fun hg => ?_, Nat.le_trans h5.size e⟩
    have := h2.lt i hg
    omega
theorem Wv.callB {f : FuncId} {a : Array Value} (P : Ending → Prop) (h : Wv w0 w vb bb st B)
    (hc : ∀ G, BkF w bb B G → Calls Tryz.prog f a w fun e w' => P e ∧ BStep G w w' bb B') : Calls Tryz.prog f a w fun e w' => P e ∧ Wv w0 w' vb bb st B' := by
  obtain ⟨F, G, h1, h2, h3, h4, h5⟩ := h
  refine (hc G h2).mono ?_
  rintro e w' ⟨hp, G', k1, k2, k3⟩
  refine ⟨hp, F, G', h1.turn k2 (fun i hi => (h3 i hi).1), k1, fun i hi => ⟨fun hg => ?_, (h3 i hi).2⟩, fun i hi => ?_, h5.trans (k2.toBelow h4 h5.size)⟩
  · rcases k3 i hg with e | e
    · exact (h3 i hi).1 e
    · have := h1.lt i hi; omega
  · rcases k3 i hi with e | e
    · exact h4 i e
    · exact Nat.le_trans h5.size e
theorem Wv.callL {f : FuncId} {a : Array Value} (P : Ending → Prop) (h : Wv w0 w vb bb st B)
    (hc : ∀ F G, VolF w vb st F → BkF w bb B G → Calls Tryz.prog f a w fun e w' => P e ∧ Below w.heap.size w w') : Calls Tryz.prog f a w fun e w' => P e ∧ Wv w0 w' vb bb st B := by
  have h' := h
  obtain ⟨F, G, h1, h2, h3, h4, h5⟩ := h'
  refine (hc F G h1 h2).mono ?_
  rintro e w' ⟨hp, hb⟩
  exact ⟨hp, h.below hb⟩
theorem vopen (h : Wv w0 w vb bb st B) (hI : Inv st C m c) :
    Calls Tryz.prog 20 #[.pointer (some ⟨vb, 0, none⟩)] w fun e w' => ∃ jb tb, e = .returned (.tuple #[.pointer (some ⟨jb, 0, none⟩), .int .i64 0]) ∧ Wk w0 w' vb jb bb tb C.s.reopen false st B [] := by
  obtain ⟨F, G, k1, k2, k3, k4, k5⟩ := h
  refine (open_yes k1 hI.up hI.len hI.m1 hI.m2 hI.found).mono ?_
  rintro e w' ⟨jb', tb', rv', hen', rfl, hj, ht, hb, htb, hjf⟩
  have hs := hb.size
  refine ⟨jb', tb', rfl, rv', hen', F, G, ⟨hj, k1.below hb, ht, fun i hi hi2 => ?_, fun hi => (hjf tb' hi).2 rfl, fun hi => ?_⟩, k2.below hb, fun i hi => ?_, k4, k5.trans (hb.mono k5.size), fun x hx => by cases hx⟩
  · have h3 := (hjf i hi).1
    have h4 := k1.lt i hi2
    omega
  · have h4 := k1.lt tb' hi
    omega
  · unfold jvfoot at hi
    rcases List.mem_cons.1 hi with rfl | hi
    · exact ⟨fun hg => by have := k2.lt _ hg; omega, Nat.le_trans k5.size htb⟩
    rcases List.mem_append.1 hi with hi | hi
    · have := (hjf i hi).1
      exact ⟨fun hg => by have := k2.lt _ hg; omega, Nat.le_trans k5.size this⟩
    · exact k3 i hi
theorem vimage (h : Wv w0 w vb bb st B) (hI : Inv st B m c) :
    Calls Tryz.prog 22 #[.pointer (some ⟨bb, 0, none⟩), .pointer (some ⟨vb, 0, none⟩)] w fun e w' => e = .returned (.bool true) ∧ Wv w0 w' vb bb st B :=
  h.callL _ (fun _ _ k j => bimage_any j k hI.up hI.len hI.m2 hI.h0 hI.h1 hI.area)
theorem vformat (h : Wv w0 w vb bb st B) (hI : Inv st C m c) (hc : c + 1 ≤ 1048576) (hC : Calm st) :
    Calls Tryz.prog 31 #[.pointer (some ⟨vb, 0, none⟩)] w fun e w' => e = .returned (.int .i64 0) ∧ ∃ st', Wv w0 w' vb bb st' B ∧ Inv st' (BS.header C (JS.blank C.s.h)) m (c + 1) ∧ Calm st' := by
  have hf := hI.find
  rw [← hI.h0, ← hI.h1] at hf
  have hh := hI.s.h
  have hcalm := hC.putHd (JS.blank C.s.h).hd
  obtain ⟨a, b⟩ := hI.format_ok hc hcalm.2
  have e : (findHd (st.sct 0) (st.sct 1) (256 * m)).1.num = C.s.h := by rw [hf]; rfl
  refine (h.callV (fun e => e = .returned (.int .i64 0)) (st' := (st.putHd (JS.blank C.s.h).hd).2) (fun F k => ?_)).mono ?_
  · have := format_any k hI.up hI.len hI.m1 (by rw [e]; omega)
    rw [e, a] at this
    exact this
  · rintro e w' ⟨rfl, hW⟩
    exact ⟨rfl, _, hW, b, hcalm.1⟩
theorem format_chk {F : List Nat} (hV : VolF w vb st F) (hc : st.chk ≠ 0) :
    Calls Tryz.prog 31 #[.pointer (some ⟨vb, 0, none⟩)] w fun e w' => e = .returned (.int .i64 (st.chk : Int)) ∧ w = w' := by
  obtain ⟨c, hcc⟩ : ∃ c, st.chk = c := ⟨_, rfl⟩
  have e1 : ((c : Int) != 0) = true := by rw [bne_iff_ne]; omega
  have HC := Lib.hid (check_any hV)
  rw [hcc] at HC ⊢
  clear hcc hc
  go_enter Tryz.func31, Tryz.ntmps31
  go_wp2_with ((go_at_call 61; refine HC.out.mono ?_; rintro e w' ⟨rfl, rfl⟩))
  go_ret
  exact ⟨rfl, rfl⟩
theorem format_nil (w : World) : Calls Tryz.prog 31 #[.pointer none] w fun e w' => e = .returned (.int .i64 1) ∧ w = w' := by
  go_enter Tryz.func31, Tryz.ntmps31
  go_wp2_with ((go_at_call 61; refine (check_nil _).mono ?_; rintro e w1 ⟨rfl, rfl⟩))
  go_ret
  exact ⟨rfl, rfl⟩
/-- Commit on a calm device, whether there is something to commit or not -/
theorem kcommit_all (h : Wk w0 w vb jb bb tb S false st B X) (hI : Inv st C m c) (hs : C.s = S) (hc : c + 1 ≤ 1048576) (hC : Calm st) :
    Calls Tryz.prog 16 #[.pointer (some ⟨jb, 0, none⟩)] w fun e w' => e = .returned (.int .i64 0) ∧ ∃ st', Wk w0 w' vb jb bb tb C.commit.s false st' B X ∧ Inv st' C.commit m (c + 1) ∧ Calm st' := by
  have hcm := hI.s.comm
  subst hs
  by_cases he : C.s.comm = C.s.recs.length
  · refine (kcommit_none h he).mono ?_
    rintro e w' ⟨rfl, hW⟩
    have e : C.commit = C := by unfold BS.commit; rw [if_pos he]
    rw [e]
    exact ⟨rfl, st, hW, hI.mono (Nat.le_succ c) hc, hC⟩
  · refine (kcommit h hI.up hI.len hI.m1 hI.m2 hI.s hc (by omega)).mono ?_
    rintro e w' ⟨L, hL, rfl, hW⟩
    have hL' : RingOK C.area C.put m L := by
      rw [hI.area] at hL
      exact hL
    have hok := hI.commit_ok hc (by omega) hL'
    have hcalm := hC.commitV L C.s.commit.hd
    have e : C.commit.s = C.s.commit := by unfold BS.commit; rw [if_neg he, header_s]
    rcases hok with ⟨a, b⟩ | ⟨a, _⟩
    · rw [a] at hW
      exact ⟨by rw [a]; rfl, _, by rw [e]; exact hW, b, hcalm.1⟩
    · exact absurd a hcalm.2
theorem kbcommit_all (h : Wk w0 w vb jb bb tb S br st B X) (hA : B.area.length = 256 * m) (hm : 1 ≤ m) (hm2 : m ≤ 64) (hS : B.s.wf (256 * m) c) (hc : c ≤ 1048576) :
    Calls Tryz.prog 34 #[.pointer (some ⟨bb, 0, none⟩)] w fun e w' => e = .returned (.tuple #[]) ∧ Wk w0 w' vb jb bb tb S br st B.commit X := by
  have hcm := hS.comm
  by_cases he : B.s.comm = B.s.recs.length
  · have e : B.commit = B := by unfold BS.commit; rw [if_pos he]
    rw [e]
    exact kbcommit_none h hS hc he
  · exact kbcommit h hA hm hm2 hS hc (by omega)
theorem commit_full (_hI : Inv st C m c) : C.commit.s.comm = C.commit.s.recs.length := by
  by_cases he : C.s.comm = C.s.recs.length
  · have e : C.commit = C := by unfold BS.commit; rw [if_pos he]
    rw [e]; exact he
  · have e : C.commit.s = C.s.commit := by unfold BS.commit; rw [if_neg he, header_s]
    rw [e]; rfl
/-- the book emptied by hand -/
def BS.empty (B : BS) : BS := { B with s := ⟨B.s.h, 1, 0, [], 0⟩ }
theorem empty_header (B : BS) : BS.header B.empty B.empty.bump.s = BS.header B (JS.blank B.s.h) := rfl
theorem Bk.emptied {g0 g1 ga c0 c1 ca : Nat} {vr : Value} (h : Bk w bb g0 g1 ga c0 c1 ca vr B) :
    BStep (bfoot bb g0 g1 ga vr) w (((w.setCell ⟨bb, 6, none⟩ (.slice none 0 0)).setCell ⟨bb, 4, none⟩ (.int .i64 1)).setCell ⟨bb, 5, none⟩ (.int .i64 0)) bb B.empty := by
  have t : Turn [bb] w (((w.setCell ⟨bb, 6, none⟩ (.slice none 0 0)).setCell ⟨bb, 4, none⟩ (.int .i64 1)).setCell ⟨bb, 5, none⟩ (.int .i64 0)) :=
    (((Turn.refl _ w).setCell (p := ⟨bb, 6, none⟩) (.inl (by simp)) _).setCell (p := ⟨bb, 4, none⟩) (.inl (by simp)) _).setCell (p := ⟨bb, 5, none⟩) (.inl (by simp)) _
  have hb0 : g0 ≠ bb := h.h0.ne h.blk (by decide)
  have hb1 : g1 ≠ bb := h.h1.ne h.blk (by decide)
  refine ⟨_, ⟨g0, g1, ga, c0, c1, ca, .slice none 0 0, ⟨((h.blk.set_ 6 (.slice none 0 0)).set_ 4 (.int .i64 1)).set_ 5 (.int .i64 0), h.h0.turn t (by simpa using hb0), h.h1.turn t (by simpa using hb1), h.k0, h.k1, row_turn h.ar t (fun x hx => by
      have : x = ga := by simpa [Value.ownBlock] using hx.symm
      subst this; simpa using h.ar_ne), World.ownsRow_nil _ _ _ _, h.n0, h.n1⟩, rfl⟩, t.mono (fun i hi => by simp at hi; subst hi; simp [bfoot]), fun i hi => ?_⟩
  unfold bfoot at hi ⊢
  simp [Value.ownBlock] at hi ⊢
  rcases hi with rfl | rfl | rfl | rfl
  · exact .inl (.inl rfl)
  · exact .inl (.inr (.inl rfl))
  · exact .inl (.inr (.inr (.inl rfl)))
  · exact .inl (.inr (.inr (.inr (.inl rfl))))
theorem Wv.emptied (h : Wv w0 w vb bb st B) : Wv w0 (((w.setCell ⟨bb, 6, none⟩ (.slice none 0 0)).setCell ⟨bb, 4, none⟩ (.int .i64 1)).setCell ⟨bb, 5, none⟩ (.int .i64 0)) vb bb st B.empty :=
  h.stepB (fun G k => by
    obtain ⟨_, _, _, _, _, _, _, k, rfl⟩ := k
    exact k.emptied)
theorem Wv.cells (h : Wv w0 w vb bb st B) : (∃ v, w.cell? ⟨bb, 6, none⟩ = some v) ∧ w.cell? ⟨bb, 4, none⟩ = some (.int .i64 (B.s.first : Int)) ∧ w.cell? ⟨bb, 5, none⟩ = some (.int .i64 (B.s.beg : Int)) ∧ w.frozen? ⟨bb, 6, none⟩ = false ∧ w.frozen? ⟨bb, 4, none⟩ = false ∧ w.frozen? ⟨bb, 5, none⟩ = false := by
  obtain ⟨F, G, k1, k2, k3, k4, k5⟩ := h
  obtain ⟨_, _, _, _, _, _, _, k, _⟩ := k2
  exact ⟨⟨_, k.blk.cell 6⟩, k.blk.cell 4, k.blk.cell 5, k.blk.frozen 6, k.blk.frozen 4, k.blk.frozen 5⟩
theorem vheader (h : Wv w0 w vb bb st B.empty) (hh : B.s.h ≤ 1048576) :
    Calls Tryz.prog 33 #[.pointer (some ⟨bb, 0, none⟩)] w fun e w' => e = .returned (.tuple #[]) ∧ Wv w0 w' vb bb st (BS.header B (JS.blank B.s.h)) :=
  h.callB _ (fun G k => by
    have := bheader_any k hh (by show 1 ≤ _; omega) (by show 0 ≤ _; omega) (by show 0 ≤ _; omega) (by show 0 ≤ _; omega) (by show 0 ≤ _; omega) (fun r hr => by cases hr)
    rw [empty_header] at this
    exact this)
/-- the device alone, laid since w0 -/
def Vv (w0 w : World) (vb : Nat) (st : VS) : Prop := ∃ F, VolF w vb st F ∧ (∀ i, i ∈ F → w0.heap.size ≤ i) ∧ Below w0.heap.size w0 w
theorem Vv.below (h : Vv w0 w vb st) (hb : Below w.heap.size w w') : Vv w0 w' vb st := by
  obtain ⟨F, h1, h2, h3⟩ := h
  exact ⟨F, h1.below hb, h2, h3.trans (hb.mono h3.size)⟩
theorem Vv.size (h : Vv w0 w vb st) : Below w0.heap.size w0 w := by
  obtain ⟨_, _, _, h⟩ := h
  exact h
theorem Vv.book (h : Vv w0 w vb st) (hb : Below w.heap.size w w') {G : List Nat} (hB : BkF w' bb B G) (hG : ∀ i, i ∈ G → w.heap.size ≤ i) : Wv w0 w' vb bb st B := by
  obtain ⟨F, h1, h2, h3⟩ := h
  exact ⟨F, G, h1.below hb, hB, fun i hi => ⟨fun hg => by have := h1.lt i hi; have := hG i hg; omega, h2 i hi⟩, fun i hi => Nat.le_trans h3.size (hG i hi), h3.trans (hb.mono h3.size)⟩
theorem new_none (m : Nat) (h1 : 1 ≤ m) (h2 : m ≤ 64) : (VS.new (m + 2)).found = none := by
  have hw := VS.wf_new (n := m + 2) (by omega) (by omega)
  rw [found_parts hw List.length_replicate, new_found m h1]
  rfl
theorem xopen_none (h : Vv w0 w vb (VS.new (m + 2))) (h1 : 1 ≤ m) (h2 : m ≤ 64) :
    Calls Tryz.prog 20 #[.pointer (some ⟨vb, 0, none⟩)] w fun e w' => e = .returned (.tuple #[.pointer none, .int .i64 15]) ∧ Vv w0 w' vb (VS.new (m + 2)) := by
  have h' := h
  obtain ⟨F, k1, k2, k3⟩ := h'
  refine (open_none k1 rfl List.length_replicate h1 (new_none m h1 h2)).mono ?_
  rintro e w' ⟨rfl, hb⟩
  exact ⟨rfl, h.below hb⟩
theorem xformat_new (h : Vv w0 w vb (VS.new (m + 2))) (h1 : 1 ≤ m) (h2 : m ≤ 64) :
    Calls Tryz.prog 31 #[.pointer (some ⟨vb, 0, none⟩)] w fun e w' => e = .returned (.int .i64 0) ∧ ∃ st, Vv w0 w' vb st ∧ Inv st (BS.header (BS.blank m) (JS.blank 0)) m 1 ∧ Calm st := by
  obtain ⟨hz, hI, hC⟩ := format_new m h1 h2
  have hlen : (VS.new (m + 2)).dur.length = m + 2 := List.length_replicate
  have hnf := new_found m h1
  obtain ⟨F, k1, k2, k3⟩ := h
  have := format_any k1 rfl hlen h1 (by rw [hnf]; decide)
  rw [hnf] at this
  refine this.mono ?_
  rintro e w' ⟨rfl, F2, a, b, d⟩
  refine ⟨?_, _, ⟨F2, a, fun i hi => ?_, k3.trans (b.toBelow k2 k3.size)⟩, hI, hC⟩
  · show Ending.returned (Value.int .i64 (((VS.new (m + 2)).putHd (JS.blank 0).hd).1 : Int)) = _
    rw [hz]
    rfl
  · rcases d i hi with e | e
    · exact k2 i e
    · exact Nat.le_trans k3.size e
theorem vheader0 (h : Wv w0 w vb bb st (BS.blank m)) :
    Calls Tryz.prog 33 #[.pointer (some ⟨bb, 0, none⟩)] w fun e w' => e = .returned (.tuple #[]) ∧ Wv w0 w' vb bb st (BS.header (BS.blank m) (JS.blank 0)) :=
  h.callB _ (fun G k => by
    have := bheader_any k (by show 0 ≤ _; omega) (by show 1 ≤ _; omega) (by show 0 ≤ _; omega) (by show 0 ≤ _; omega) (by show 0 ≤ _; omega) (by show 0 ≤ _; omega) (fun r hr => by cases hr)
    rw [blank_header] at this
    exact this)
end
end Go.Proofs.YtfdnpchbbngpjaaGreat
