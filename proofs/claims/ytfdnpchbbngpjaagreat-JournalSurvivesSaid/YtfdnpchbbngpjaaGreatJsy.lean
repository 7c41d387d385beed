/- The device beside its book; committed, sameRecords, survived; the law Survives. -/
import Derived.Test.YtfdnpchbbngpjaaGreatJxb
import Derived.Test.YtfdnpchbbngpjaaGreatJsd
import Derived.Deep.DeepCutAuto
namespace Go.Proofs.YtfdnpchbbngpjaaGreat
attribute [local go_sem ↓] Go.wp_at_zero Go.wp_at_succ
open Go.RowKit Go.Maps

/-- device vb and book bb, laid since w0, apart from one another -/
def Wv (w0 w : World) (vb bb : Nat) (st : VS) (B : BS) : Prop :=
  ∃ F G, VolF w vb st F ∧ BkF w bb B G ∧ (∀ i, i ∈ F → i ∉ G ∧ w0.heap.size ≤ i) ∧ (∀ i, i ∈ G → w0.heap.size ≤ i) ∧ Below w0.heap.size w0 w
section
variable {w0 w w' : World} {vb jb bb tb : Nat} {S S' : JS} {br br' : Bool} {st st' : VS} {B B' C : BS} {X : List (Nat × Obj)} {m c : Nat}
theorem Wv.size (h : Wv w0 w vb bb st B) : Below w0.heap.size w0 w := by
  obtain ⟨_, _, _, _, _, _, h5⟩ := h
  exact h5
theorem Wv.below (h : Wv w0 w vb bb st B) (hb : Below w.heap.size w w') : Wv w0 w' vb bb st B := by
  obtain ⟨F, G, h1, h2, h3, h4, h5⟩ := h
  exact ⟨F, G, h1.below hb, h2.below hb, h3, h4, h5.trans (hb.mono h5.size)⟩
theorem Wk.toWv (h : Wk w0 w vb jb bb tb S br st B X) : Wv w0 w vb bb st B := by
  obtain ⟨rv, hen, F, G, h1, h2, h3, h4, h5, _⟩ := h
  exact ⟨F, G, h1.v, h2, fun i hi => h3 i (by simp [jvfoot, hi]), h4, h5⟩
theorem Wv.stepV (h : Wv w0 w vb bb st B) (hs : ∀ F, VolF w vb st F → Step F w w' vb st') : Wv w0 w' vb bb st' B := by
  obtain ⟨F, G, h1, h2, h3, h4, h5⟩ := h
  obtain ⟨F', k1, k2, k3⟩ := hs F h1
  refine ⟨F', G, k1, h2.turn k2 (fun i hi hi2 => (h3 i hi2).1 hi), fun i hi => ?_, h4, h5.trans (k2.toBelow (fun i hi => (h3 i hi).2) h5.size)⟩
  rcases k3 i hi with e | e
  · exact h3 i e
  · refine ⟨fun hg => ?_, Nat.le_trans h5.size e⟩
    have := h2.lt i hg
    omega
theorem Wv.stepB (h : Wv w0 w vb bb st B) (hs : ∀ G, BkF w bb B G → BStep G w w' bb B') : Wv w0 w' vb bb st B' := by
  obtain ⟨F, G, h1, h2, h3, h4, h5⟩ := h
  obtain ⟨G', k1, k2, k3⟩ := hs G h2
  refine ⟨F, G', h1.turn k2 (fun i hi => (h3 i hi).1), k1, fun i hi => ⟨fun hg => ?_, (h3 i hi).2⟩, fun i hi => ?_, h5.trans (k2.toBelow h4 h5.size)⟩
  · rcases k3 i hg with e | e
    · exact (h3 i hi).1 e
    · have := h1.lt i hi; omega
  · rcases k3 i hi with e | e
    · exact h4 i e
    · exact Nat.le_trans h5.size e
theorem Wv.callV {f : FuncId} {a : Array Value} (P : Ending → Prop) (h : Wv w0 w vb bb st B)
    (hc : ∀ F, VolF w vb st F → Calls Tryz.prog f a w fun e w' => P e ∧ Step F w w' vb st') : Calls Tryz.prog f a w fun e w' => P e ∧ Wv w0 w' vb bb st' B := by
  have h' := h
  obtain ⟨F, G, h1, h2, h3, h4, h5⟩ := h'
  refine (hc F h1).mono ?_
  rintro e w' ⟨hp, F', k1, k2, k3⟩
  refine ⟨hp, F', G, k1, h2.turn k2 (fun i hi hi2 => (h3 i hi2).1 hi), fun i hi => ?_, h4, h5.trans (k2.toBelow (fun i hi => (h3 i hi).2) h5.size)⟩
  rcases k3 i hi with e | e
  · exact h3 i e
  · refine ⟨fun hg => ?_, Nat.le_trans h5.size e⟩
    have := h2.lt i hg
    omega
theorem Wv.callB {f : FuncId} {a : Array Value} (P : Ending → Prop) (h : Wv w0 w vb bb st B)
    (hc : ∀ G, BkF w bb B G → Calls Tryz.prog f a w fun e w' => P e ∧ BStep G w w' bb B') : Calls Tryz.prog f a w fun e w' => P e ∧ Wv w0 w' vb bb st B' := by
  obtain ⟨F, G, h1, h2, h3, h4, h5⟩ := h
  refine (hc G h2).mono ?_
  rintro e w' ⟨hp, G', k1, k2, k3⟩
  refine ⟨hp, F, G', h1.turn k2 (fun i hi => (h3 i hi).1), k1, fun i hi => ⟨fun hg => ?_, (h3 i hi).2⟩, fun i hi => ?_, h5.trans (k2.toBelow h4 h5.size)⟩
  · rcases k3 i hg with e | e
    · exact (h3 i hi).1 e
    · have := h1.lt i hi; omega
  · rcases k3 i hi with e | e
    · exact h4 i e
    · exact Nat.le_trans h5.size e
theorem Wv.callL {f : FuncId} {a : Array Value} (P : Ending → Prop) (h : Wv w0 w vb bb st B)
    (hc : ∀ F G, VolF w vb st F → BkF w bb B G → Calls Tryz.prog f a w fun e w' => P e ∧ Below w.heap.size w w') : Calls Tryz.prog f a w fun e w' => P e ∧ Wv w0 w' vb bb st B := by
  have h' := h
  obtain ⟨F, G, h1, h2, h3, h4, h5⟩ := h'
  refine (hc F G h1 h2).mono ?_
  rintro e w' ⟨hp, hb⟩
  exact ⟨hp, h.below hb⟩
theorem vopen (h : Wv w0 w vb bb st B) (hI : Inv st C m c) :
    Calls Tryz.prog 20 #[.pointer (some ⟨vb, 0, none⟩)] w fun e w' => ∃ jb tb, e = .returned (.tuple #[.pointer (some ⟨jb, 0, none⟩), .int .i64 0]) ∧ Wk w0 w' vb jb bb tb C.s.reopen false st B [] := by
  obtain ⟨F, G, k1, k2, k3, k4, k5⟩ := h
  refine (open_yes k1 hI.up hI.len hI.m1 hI.m2 hI.found).mono ?_
  rintro e w' ⟨jb', tb', rv', hen', rfl, hj, ht, hb, htb, hjf⟩
  have hs := hb.size
  refine ⟨jb', tb', rfl, rv', hen', F, G, ⟨hj, k1.below hb, ht, fun i hi hi2 => ?_, fun hi => (hjf tb' hi).2 rfl, fun hi => ?_⟩, k2.below hb, fun i hi => ?_, k4, k5.trans (hb.mono k5.size), fun x hx => by cases hx⟩
  · have h3 := (hjf i hi).1
    have h4 := k1.lt i hi2
    omega
  · have h4 := k1.lt tb' hi
    omega
  · unfold jvfoot at hi
    rcases List.mem_cons.1 hi with rfl | hi
    · exact ⟨fun hg => by have := k2.lt _ hg; omega, Nat.le_trans k5.size htb⟩
    rcases List.mem_append.1 hi with hi | hi
    · have := (hjf i hi).1
      exact ⟨fun hg => by have := k2.lt _ hg; omega, Nat.le_trans k5.size this⟩
    · exact k3 i hi
theorem vimage (h : Wv w0 w vb bb st B) (hI : Inv st B m c) :
    Calls Tryz.prog 22 #[.pointer (some ⟨bb, 0, none⟩), .pointer (some ⟨vb, 0, none⟩)] w fun e w' => e = .returned (.bool true) ∧ Wv w0 w' vb bb st B :=
  h.callL _ (fun _ _ k j => bimage_any j k hI.up hI.len hI.m2 hI.h0 hI.h1 hI.area)
theorem vformat (h : Wv w0 w vb bb st B) (hI : Inv st C m c) (hc : c + 1 ≤ 1048576) (hC : Calm st) :
    Calls Tryz.prog 31 #[.pointer (some ⟨vb, 0, none⟩)] w fun e w' => e = .returned (.int .i64 0) ∧ ∃ st', Wv w0 w' vb bb st' B ∧ Inv st' (BS.header C (JS.blank C.s.h)) m (c + 1) ∧ Calm st' := by
  have hf := hI.find
  rw [← hI.h0, ← hI.h1] at hf
  have hh := hI.s.h
  have hcalm := hC.putHd (JS.blank C.s.h).hd
  obtain ⟨a, b⟩ := hI.format_ok hc hcalm.2
  have e : (findHd (st.sct 0) (st.sct 1) (256 * m)).1.num = C.s.h := by rw [hf]; rfl
  refine (h.callV (fun e => e = .returned (.int .i64 0)) (st' := (st.putHd (JS.blank C.s.h).hd).2) (fun F k => ?_)).mono ?_
  · have := format_any k hI.up hI.len hI.m1 (by rw [e]; omega)
    rw [e, a] at this
    exact this
  · rintro e w' ⟨rfl, hW⟩
    exact ⟨rfl, _, hW, b, hcalm.1⟩
theorem format_chk {F : List Nat} (hV : VolF w vb st F) (hc : st.chk ≠ 0) :
    Calls Tryz.prog 31 #[.pointer (some ⟨vb, 0, none⟩)] w fun e w' => e = .returned (.int .i64 (st.chk : Int)) ∧ w = w' := by
  obtain ⟨c, hcc⟩ : ∃ c, st.chk = c := ⟨_, rfl⟩
  have e1 : ((c : Int) != 0) = true := by rw [bne_iff_ne]; omega
  have HC := Lib.hid (check_any hV)
  rw [hcc] at HC ⊢
  clear hcc hc
  go_enter Tryz.func31, Tryz.ntmps31
  go_wp2_with ((go_at_call 61; refine HC.out.mono ?_; rintro e w' ⟨rfl, rfl⟩))
  go_ret
  exact ⟨rfl, rfl⟩
theorem format_nil (w : World) : Calls Tryz.prog 31 #[.pointer none] w fun e w' => e = .returned (.int .i64 1) ∧ w = w' := by
  go_enter Tryz.func31, Tryz.ntmps31
  go_wp2_with ((go_at_call 61; refine (check_nil _).mono ?_; rintro e w1 ⟨rfl, rfl⟩))
  go_ret
  exact ⟨rfl, rfl⟩
/-- Commit on a calm device, whether there is something to commit or not -/
theorem kcommit_all (h : Wk w0 w vb jb bb tb S false st B X) (hI : Inv st C m c) (hs : C.s = S) (hc : c + 1 ≤ 1048576) (hC : Calm st) :
    Calls Tryz.prog 16 #[.pointer (some ⟨jb, 0, none⟩)] w fun e w' => e = .returned (.int .i64 0) ∧ ∃ st', Wk w0 w' vb jb bb tb C.commit.s false st' B X ∧ Inv st' C.commit m (c + 1) ∧ Calm st' := by
  have hcm := hI.s.comm
  subst hs
  by_cases he : C.s.comm = C.s.recs.length
  · refine (kcommit_none h he).mono ?_
    rintro e w' ⟨rfl, hW⟩
    have e : C.commit = C := by unfold BS.commit; rw [if_pos he]
    rw [e]
    exact ⟨rfl, st, hW, hI.mono (Nat.le_succ c) hc, hC⟩
  · refine (kcommit h hI.up hI.len hI.m1 hI.m2 hI.s hc (by omega)).mono ?_
    rintro e w' ⟨L, hL, rfl, hW⟩
    have hL' : RingOK C.area C.put m L := by
      rw [hI.area] at hL
      exact hL
    have hok := hI.commit_ok hc (by omega) hL'
    have hcalm := hC.commitV L C.s.commit.hd
    have e : C.commit.s = C.s.commit := by unfold BS.commit; rw [if_neg he, header_s]
    rcases hok with ⟨a, b⟩ | ⟨a, _⟩
    · rw [a] at hW
      exact ⟨by rw [a]; rfl, _, by rw [e]; exact hW, b, hcalm.1⟩
    · exact absurd a hcalm.2
theorem kbcommit_all (h : Wk w0 w vb jb bb tb S br st B X) (hA : B.area.length = 256 * m) (hm : 1 ≤ m) (hm2 : m ≤ 64) (hS : B.s.wf (256 * m) c) (hc : c ≤ 1048576) :
    Calls Tryz.prog 34 #[.pointer (some ⟨bb, 0, none⟩)] w fun e w' => e = .returned (.tuple #[]) ∧ Wk w0 w' vb jb bb tb S br st B.commit X := by
  have hcm := hS.comm
  by_cases he : B.s.comm = B.s.recs.length
  · have e : B.commit = B := by unfold BS.commit; rw [if_pos he]
    rw [e]
    exact kbcommit_none h hS hc he
  · exact kbcommit h hA hm hm2 hS hc (by omega)
theorem commit_full (_hI : Inv st C m c) : C.commit.s.comm = C.commit.s.recs.length := by
  by_cases he : C.s.comm = C.s.recs.length
  · have e : C.commit = C := by unfold BS.commit; rw [if_pos he]
    rw [e]; exact he
  · have e : C.commit.s = C.s.commit := by unfold BS.commit; rw [if_neg he, header_s]
    rw [e]; rfl
/-- the book emptied by hand -/
def BS.empty (B : BS) : BS := { B with s := ⟨B.s.h, 1, 0, [], 0⟩ }
theorem empty_header (B : BS) : BS.header B.empty B.empty.bump.s = BS.header B (JS.blank B.s.h) := rfl
theorem Bk.emptied {g0 g1 ga c0 c1 ca : Nat} {vr : Value} (h : Bk w bb g0 g1 ga c0 c1 ca vr B) :
    BStep (bfoot bb g0 g1 ga vr) w (((w.setCell ⟨bb, 6, none⟩ (.slice none 0 0)).setCell ⟨bb, 4, none⟩ (.int .i64 1)).setCell ⟨bb, 5, none⟩ (.int .i64 0)) bb B.empty := by
  have t : Turn [bb] w (((w.setCell ⟨bb, 6, none⟩ (.slice none 0 0)).setCell ⟨bb, 4, none⟩ (.int .i64 1)).setCell ⟨bb, 5, none⟩ (.int .i64 0)) :=
    (((Turn.refl _ w).setCell (p := ⟨bb, 6, none⟩) (.inl (by simp)) _).setCell (p := ⟨bb, 4, none⟩) (.inl (by simp)) _).setCell (p := ⟨bb, 5, none⟩) (.inl (by simp)) _
  have hb0 : g0 ≠ bb := h.h0.ne h.blk (by decide)
  have hb1 : g1 ≠ bb := h.h1.ne h.blk (by decide)
  refine ⟨_, ⟨g0, g1, ga, c0, c1, ca, .slice none 0 0, ⟨((h.blk.set_ 6 (.slice none 0 0)).set_ 4 (.int .i64 1)).set_ 5 (.int .i64 0), h.h0.turn t (by simpa using hb0), h.h1.turn t (by simpa using hb1), h.k0, h.k1, row_turn h.ar t (fun x hx => by
      have : x = ga := by simpa [Value.ownBlock] using hx.symm
      subst this; simpa using h.ar_ne), World.ownsRow_nil _ _ _ _, h.n0, h.n1⟩, rfl⟩, t.mono (fun i hi => by simp at hi; subst hi; simp [bfoot]), fun i hi => ?_⟩
  unfold bfoot at hi ⊢
  simp [Value.ownBlock] at hi ⊢
  rcases hi with rfl | rfl | rfl | rfl
  · exact .inl (.inl rfl)
  · exact .inl (.inr (.inl rfl))
  · exact .inl (.inr (.inr (.inl rfl)))
  · exact .inl (.inr (.inr (.inr (.inl rfl))))
theorem Wv.emptied (h : Wv w0 w vb bb st B) : Wv w0 (((w.setCell ⟨bb, 6, none⟩ (.slice none 0 0)).setCell ⟨bb, 4, none⟩ (.int .i64 1)).setCell ⟨bb, 5, none⟩ (.int .i64 0)) vb bb st B.empty :=
  h.stepB (fun G k => by
    obtain ⟨_, _, _, _, _, _, _, k, rfl⟩ := k
    exact k.emptied)
theorem Wv.cells (h : Wv w0 w vb bb st B) : (∃ v, w.cell? ⟨bb, 6, none⟩ = some v) ∧ w.cell? ⟨bb, 4, none⟩ = some (.int .i64 (B.s.first : Int)) ∧ w.cell? ⟨bb, 5, none⟩ = some (.int .i64 (B.s.beg : Int)) ∧ w.frozen? ⟨bb, 6, none⟩ = false ∧ w.frozen? ⟨bb, 4, none⟩ = false ∧ w.frozen? ⟨bb, 5, none⟩ = false := by
  obtain ⟨F, G, k1, k2, k3, k4, k5⟩ := h
  obtain ⟨_, _, _, _, _, _, _, k, _⟩ := k2
  exact ⟨⟨_, k.blk.cell 6⟩, k.blk.cell 4, k.blk.cell 5, k.blk.frozen 6, k.blk.frozen 4, k.blk.frozen 5⟩
theorem vheader (h : Wv w0 w vb bb st B.empty) (hh : B.s.h ≤ 1048576) :
    Calls Tryz.prog 33 #[.pointer (some ⟨bb, 0, none⟩)] w fun e w' => e = .returned (.tuple #[]) ∧ Wv w0 w' vb bb st (BS.header B (JS.blank B.s.h)) :=
  h.callB _ (fun G k => by
    have := bheader_any k hh (by show 1 ≤ _; omega) (by show 0 ≤ _; omega) (by show 0 ≤ _; omega) (by show 0 ≤ _; omega) (by show 0 ≤ _; omega) (fun r hr => by cases hr)
    rw [empty_header] at this
    exact this)
/-- the device alone, laid since w0 -/
def Vv (w0 w : World) (vb : Nat) (st : VS) : Prop := ∃ F, VolF w vb st F ∧ (∀ i, i ∈ F → w0.heap.size ≤ i) ∧ Below w0.heap.size w0 w
theorem Vv.below (h : Vv w0 w vb st) (hb : Below w.heap.size w w') : Vv w0 w' vb st := by
  obtain ⟨F, h1, h2, h3⟩ := h
  exact ⟨F, h1.below hb, h2, h3.trans (hb.mono h3.size)⟩
theorem Vv.size (h : Vv w0 w vb st) : Below w0.heap.size w0 w := by
  obtain ⟨_, _, _, h⟩ := h
  exact h
theorem Vv.book (h : Vv w0 w vb st) (hb : Below w.heap.size w w') {G : List Nat} (hB : BkF w' bb B G) (hG : ∀ i, i ∈ G → w.heap.size ≤ i) : Wv w0 w' vb bb st B := by
  obtain ⟨F, h1, h2, h3⟩ := h
  exact ⟨F, G, h1.below hb, hB, fun i hi => ⟨fun hg => by have := h1.lt i hi; have := hG i hg; omega, h2 i hi⟩, fun i hi => Nat.le_trans h3.size (hG i hi), h3.trans (hb.mono h3.size)⟩
theorem new_none (m : Nat) (h1 : 1 ≤ m) (h2 : m ≤ 64) : (VS.new (m + 2)).found = none := by
  have hw := VS.wf_new (n := m + 2) (by omega) (by omega)
  rw [found_parts hw List.length_replicate, new_found m h1]
  rfl
theorem xopen_none (h : Vv w0 w vb (VS.new (m + 2))) (h1 : 1 ≤ m) (h2 : m ≤ 64) :
    Calls Tryz.prog 20 #[.pointer (some ⟨vb, 0, none⟩)] w fun e w' => e = .returned (.tuple #[.pointer none, .int .i64 15]) ∧ Vv w0 w' vb (VS.new (m + 2)) := by
  have h' := h
  obtain ⟨F, k1, k2, k3⟩ := h'
  refine (open_none k1 rfl List.length_replicate h1 (new_none m h1 h2)).mono ?_
  rintro e w' ⟨rfl, hb⟩
  exact ⟨rfl, h.below hb⟩
theorem xformat_new (h : Vv w0 w vb (VS.new (m + 2))) (h1 : 1 ≤ m) (h2 : m ≤ 64) :
    Calls Tryz.prog 31 #[.pointer (some ⟨vb, 0, none⟩)] w fun e w' => e = .returned (.int .i64 0) ∧ ∃ st, Vv w0 w' vb st ∧ Inv st (BS.header (BS.blank m) (JS.blank 0)) m 1 ∧ Calm st := by
  obtain ⟨hz, hI, hC⟩ := format_new m h1 h2
  have hlen : (VS.new (m + 2)).dur.length = m + 2 := List.length_replicate
  have hnf := new_found m h1
  obtain ⟨F, k1, k2, k3⟩ := h
  have := format_any k1 rfl hlen h1 (by rw [hnf]; decide)
  rw [hnf] at this
  refine this.mono ?_
  rintro e w' ⟨rfl, F2, a, b, d⟩
  refine ⟨?_, _, ⟨F2, a, fun i hi => ?_, k3.trans (b.toBelow k2 k3.size)⟩, hI, hC⟩
  · show Ending.returned (Value.int .i64 (((VS.new (m + 2)).putHd (JS.blank 0).hd).1 : Int)) = _
    rw [hz]
    rfl
  · rcases d i hi with e | e
    · exact k2 i e
    · exact Nat.le_trans k3.size e
theorem vheader0 (h : Wv w0 w vb bb st (BS.blank m)) :
    Calls Tryz.prog 33 #[.pointer (some ⟨bb, 0, none⟩)] w fun e w' => e = .returned (.tuple #[]) ∧ Wv w0 w' vb bb st (BS.header (BS.blank m) (JS.blank 0)) :=
  h.callB _ (fun G k => by
    have := bheader_any k (by show 0 ≤ _; omega) (by show 1 ≤ _; omega) (by show 0 ≤ _; omega) (by show 0 ≤ _; omega) (by show 0 ≤ _; omega) (by show 0 ≤ _; omega) (fun r hr => by cases hr)
    rw [blank_header] at this
    exact this)
end
end Go.Proofs.YtfdnpchbbngpjaaGreat
namespace Go.Proofs.YtfdnpchbbngpjaaGreat
open Go.RowKit Go.Maps

theorem lastAt_snoc (ps : List (Nat × ByteArray)) (k i : Nat) (d : ByteArray) : lastAt (ps ++ [(k, d)]) i = if k = i then some d else lastAt ps i := by
  unfold lastAt
  rw [List.reverse_append]
  by_cases h : k = i
  · subst h
    simp
  · rw [if_neg h]
    simp [h]
theorem VS.write_calm {st : VS} (hC : Calm st) {k : Nat} (hk : k < st.dur.length) {d : ByteArray} (hs : d.size = 256) (hr : st.pend.length < 4096) :
    (st.write (k : Int) d).1 = 0 ∧ Calm (st.write (k : Int) d).2 ∧ (st.write (k : Int) d).2.dur = st.dur ∧ (st.write (k : Int) d).2.pend = st.pend ++ [(k, d)] := by
  obtain ⟨h1, h2, h3⟩ := VS.write_two hC.2 hk hs hr
  have h4 := hC.write (k : Int) d
  rcases h1 with ⟨a, _⟩ | ⟨a, _⟩
  · exact ⟨a, h4.1, h2, h3⟩
  · exact absurd a h4.2
theorem sct_write {st st' : VS} {k : Nat} {d : ByteArray} (hd : st'.dur = st.dur) (hp : st'.pend = st.pend ++ [(k, d)]) (i : Nat) : st'.sct i = if k = i then d.data.toList else st.sct i := by
  unfold VS.sct VS.content VS.at_
  rw [hp, hd, lastAt_snoc]
  split <;> rfl
section
variable {w0 w w' : World} {vb jb bb tb : Nat} {S : JS} {br : Bool} {st st' : VS} {B : BS} {X : List (Nat × Obj)}
theorem JV.stepOf {rv : Value} {hen : Nat} {F : List Nat} (h : JV w jb vb tb S br rv hen st F) (hs : Step F w w' vb st') : StepV w w' jb vb tb rv F S br st' := by
  obtain ⟨F', k1, k2, k3⟩ := h.stepD hs
  refine ⟨rv, hen, F', k1, k2.mono (fun i hi => by simp [jvfoot, hi]), fun i hi => ?_⟩
  unfold jvfoot at hi ⊢
  rcases List.mem_cons.1 hi with rfl | hi
  · exact .inl (by simp)
  rcases List.mem_append.1 hi with hi | hi
  · exact .inl (by simp [hi])
  · rcases k3 i hi with e | e
    · exact .inl (by simp [e])
    · exact .inr e
theorem kdev {f : FuncId} {a : Array Value} (P : Ending → Prop) (h : Wk w0 w vb jb bb tb S br st B X)
    (hc : ∀ F, VolF w vb st F → Calls Tryz.prog f a w fun e w' => P e ∧ Step F w w' vb st') : Calls Tryz.prog f a w fun e w' => P e ∧ Wk w0 w' vb jb bb tb S br st' B X := by
  obtain ⟨rv, hen, F, G, k1, k2, k3, k4, k5, k6⟩ := h
  refine (hc F k1.v).mono ?_
  rintro e w' ⟨hp, hs⟩
  exact ⟨hp, Wk.toV k1 k2 k3 k4 k5 k6 (k1.stepOf hs)⟩
/-- a sector is read -/
theorem kvread (h : Wk w0 w vb jb bb tb S br st B X) (hd : st.down = false) {k : Nat} (hk : k < st.dur.length) :
    Calls Tryz.prog 37 #[.pointer (some ⟨vb, 0, none⟩), .int .i64 (k : Int)] w fun e w' => e = .returned (.tuple #[.string (st.content k), .int .i64 0]) ∧ Wk w0 w' vb jb bb tb S br st B X :=
  h.callL _ (fun _ _ _ _ j _ => by
    have := read_any (k : Int) j.v
    rw [read_in hd hk] at this
    exact this)
/-- a sector is written -/
theorem kvwrite (h : Wk w0 w vb jb bb tb S br st B X) (k : Nat) (d : ByteArray) :
    Calls Tryz.prog 38 #[.pointer (some ⟨vb, 0, none⟩), .int .i64 (k : Int), .string d] w fun e w' => e = .returned (.int .i64 ((st.write (k : Int) d).1 : Int)) ∧ Wk w0 w' vb jb bb tb S br (st.write (k : Int) d).2 B X :=
  kdev _ h (fun _ k' => write_any (k : Int) d k')
end
end Go.Proofs.YtfdnpchbbngpjaaGreat
namespace Go.Proofs.YtfdnpchbbngpjaaGreat
attribute [local go_sem ↓] Go.wp_at_zero Go.wp_at_succ
open Go.RowKit Go.Maps

def Shp (a0 a1 a2 a3 a5 : Value) : Prop := ∃ (o0 o1 o2 : Option Addr) (n0 c0 n1 c1 n2 c2 : Nat) (h bg : Int), a0 = .slice o0 n0 c0 ∧ a1 = .slice o1 n1 c1 ∧ a2 = .slice o2 n2 c2 ∧ a3 = .int .i64 h ∧ a5 = .int .i64 bg
/-- block b is a book with these records; its sectors are not looked at -/
def Bz (w : World) (b : Nat) (S : JS) : Prop :=
  ∃ a0 a1 a2 a3 a5 vr, Blk w b 36 #[a0, a1, a2, a3, .int .i64 (S.first : Int), a5, vr] ∧ w.ownsRow 0 82 3 vr S.recs.length (bcells S.comm S.recs) ∧ Shp a0 a1 a2 a3 a5
section
variable {w w' : World} {b : Nat} {S : JS}
theorem Bk.bz {bb g0 g1 ga c0 c1 ca : Nat} {vr : Value} {B : BS} (h : Bk w bb g0 g1 ga c0 c1 ca vr B) : Bz w bb B.s := ⟨_, _, _, _, _, _, h.blk, h.rs, _, _, _, _, _, _, _, _, _, _, _, rfl, rfl, rfl, rfl, rfl⟩
theorem Bz.below (h : Bz w b S) (hb : Below w.heap.size w w') : Bz w' b S := by
  obtain ⟨a0, a1, a2, a3, a5, vr, h1, h2, h3⟩ := h
  exact ⟨a0, a1, a2, a3, a5, vr, h1.below hb h1.lt, row_turn h2 (Turn.ofBelow (F := []) hb (Nat.le_refl _)) (fun _ _ => by simp), h3⟩
set_option maxRecDepth 100000 in
theorem zdurable_any (h : Bz w b S) (hc : S.comm ≤ S.recs.length) (hlen : S.recs.length ≤ 1048576) (hf : S.first ≤ 1048576) :
    Calls Tryz.prog 42 #[.pointer (some ⟨b, 0, none⟩)] w fun e w' => e = .returned (.int .i64 S.durable) ∧ ∃ n, w' = w.drewN n := by
  obtain ⟨a0, a1, a2, a3, a5, vr, hblk, hrs, _⟩ := h
  obtain ⟨n, hn⟩ : ∃ n, S.recs.length = n := ⟨_, rfl⟩
  obtain ⟨ao, cap, rfl⟩ := brow_shape hrs
  rw [hn] at hblk hrs hc hlen
  have c4 := hblk.cell 4
  simp at c4
  have HB := Lib.hid (And.intro hblk hrs)
  clear hblk hrs
  go_enter Tryz.func42, Tryz.ntmps42
  go_wp2
  go_loopw [3, 4] (fun a i wr => (∃ m, wr = w.drewN m) ∧ ∃ k : Nat, k ≤ n ∧ i = .int .i64 (k : Int) ∧ a = .int .i64 ((S.first : Int) - 1 + ((min k S.comm : Nat) : Int))) (fun _ i _ => n - (intOf i).toNat)
  case atStart => exact ⟨⟨0, rfl⟩, 0, Nat.zero_le _, rfl, by simp⟩
  case round =>
    obtain ⟨⟨m, hwm⟩, k, hk, rfl, rfl⟩ := hrel
    have hbl := below_drewN (n := m) (Below.refl w.heap.size w)
    rw [← hwm] at hbl
    have h1 := HB.out.1.below hbl HB.out.1.lt
    have h2 := row_turn HB.out.2 (Turn.ofBelow (F := []) hbl (Nat.le_refl _)) (fun _ _ => by simp)
    have HWM := Lib.hid hwm
    clear hwm
    have c6 : wr.cell? ⟨b, 6, none⟩ = some (.slice ao n cap) := h1.cell 6
    have c4 : wr.cell? ⟨b, 4, none⟩ = some (.int .i64 (S.first : Int)) := h1.cell 4
    by_cases hkn : k < n
    · obtain ⟨r, hr⟩ : ∃ r, S.recs[k]? = some r := ⟨_, List.getElem?_eq_getElem (by omega)⟩
      obtain ⟨g, rfl, d0, d1, d2⟩ := rec_cells h2 hr hkn
      clear h1 h2 hbl
      by_cases hkc : k < S.comm
      · rw [decide_eq_true hkc] at d2
        go_wp2_with fail
        go_roundw
        case rel => exact ⟨⟨_, HWM.out⟩, k + 1, by omega, by go_num, by go_num⟩
        case measure => simp [intOf]; omega
      · rw [decide_eq_false hkc] at d2
        go_wp2_with fail
        go_roundw
        case rel => exact ⟨⟨_, HWM.out⟩, k + 1, by omega, by go_num, by go_num⟩
        case measure => simp [intOf]; omega
    · have e1 : (S.first : Int) - 1 + ((min k S.comm : Nat) : Int) = S.durable := by rw [Nat.min_eq_right (by omega)]; unfold JS.durable; omega
      rw [e1]
      clear h1 h2 hbl
      go_wp2_with fail
      go_ret
      exact ⟨rfl, _, HWM.out⟩
theorem Bz.fresh {w1 w2 : World} (h : Bz w b S) (hb : Below w.heap.size w w1) {o : Obj} (hg : (w1.alloc o).grownBy w2 (some w1.heap.size)) {n c g cap : Nat} {l : List Rc} (hn : l.length = n)
    (hown : w2.ownsRow w1.heap.size 82 3 (.slice (some ⟨g, 0, none⟩) n cap) n (bcells c l)) :
    Bz (w2.setCell ⟨b, 6, none⟩ (.slice (some ⟨g, 0, none⟩) n cap)) b { S with recs := l, comm := c } ∧ Turn [b] w (w2.setCell ⟨b, 6, none⟩ (.slice (some ⟨g, 0, none⟩) n cap)) := by
  obtain ⟨a0, a1, a2, a3, a5, vr, h1, h2, h5⟩ := h
  have hs := hb.size
  have t1 : Turn [] w w2 := ((Turn.ofBelow hb (Nat.le_refl _)).alloc o).grown hg (fun x e => by injection e with e; subst e; exact .inr hs)
  have hgw := (hown.lt g rfl).1
  have hlb := h1.lt
  have ts : Turn [b] w2 (w2.setCell ⟨b, 6, none⟩ (.slice (some ⟨g, 0, none⟩) n cap)) := (Turn.refl _ w2).setCell (p := ⟨b, 6, none⟩) (.inl (by simp)) _
  refine ⟨⟨a0, a1, a2, a3, a5, _, (h1.turn t1 (by simp)).set_ 6 _, ?_, h5⟩, (t1.mono (fun i hi => by cases hi)).setCell (p := ⟨b, 6, none⟩) (.inl (by simp)) _⟩
  show World.ownsRow _ 0 _ 3 _ l.length (bcells c l)
  rw [hn]
  exact row_turn (row_base hown (Nat.zero_le _)) ts (fun x hx => by
    have : x = g := by simpa [Value.ownBlock] using hx.symm
    subst this; simp; omega)
set_option maxRecDepth 100000 in
set_option maxHeartbeats 2000000 in
theorem zreopen_any (h : Bz w b S) (hc : S.comm ≤ S.recs.length) (hlen : S.recs.length ≤ 1048576) (hf : S.first ≤ 1048576) :
    Calls Tryz.prog 44 #[.pointer (some ⟨b, 0, none⟩)] w fun e w' => e = .returned (.tuple #[]) ∧ Bz w' b S.reopen ∧ Turn [b] w w' := by
  obtain ⟨i0, hi0, hz0, hz1, hz2⟩ := info_parts brec_info
  have HBZ := Lib.hid h
  have HD := Lib.hid (fun m => zdurable_any (h.below (below_drewN (n := m) (Below.refl _ w))) hc hlen hf)
  obtain ⟨a0, a1, a2, a3, a5, vr, hblk, hrs, _⟩ := h
  obtain ⟨n, hn⟩ : ∃ n, S.recs.length = n := ⟨_, rfl⟩
  obtain ⟨ao, cap, rfl⟩ := brow_shape hrs
  rw [hn] at hblk hrs hc hlen
  have hcap : n ≤ cap := by
    rcases hrs.2 with ⟨h1, h2⟩ | ⟨g, c, cur, h1, _, _, h4, _⟩
    · omega
    · injection h1 with h1 h2 h3; omega
  obtain ⟨du, hdu⟩ : ∃ du, S.durable = du := ⟨_, rfl⟩
  rw [hdu] at HD
  have hdv : du = (S.first : Int) + S.comm - 1 := hdu.symm
  have c4 : w.cell? ⟨b, 4, none⟩ = some (.int .i64 (S.first : Int)) := hblk.cell 4
  have e1 : IntKind.i64.wrap (du - (S.first : Int)) = (S.comm : Int) - 1 := by rw [IntKind.wrap_i64] <;> omega
  obtain ⟨cm, hcm⟩ : ∃ cm, S.comm = cm := ⟨_, rfl⟩
  rw [hcm] at e1 hc hrs
  have HB := Lib.hid (And.intro hblk hrs)
  clear hdu hdv hblk hrs
  go_enter Tryz.func44, Tryz.ntmps44
  go_wp2_with fail
  go_quiet ((go_at_call 42; refine (HD.out _).mono ?_; rintro e w' ⟨rfl, q, rfl⟩; exact ⟨rfl, _, World.drewN_drewN ..⟩))
  obtain ⟨W0, hW0⟩ : ∃ W0, w.drewN nq = W0 := ⟨_, rfl⟩
  have hb0 : Below w.heap.size w W0 := by rw [← hW0]; exact below_drewN (Below.refl _ _)
  rw [hW0]
  have h0 := HB.out.1.below hb0 HB.out.1.lt
  have hrow := row_turn HB.out.2 (Turn.ofBelow (F := []) hb0 (Nat.le_refl _)) (fun _ _ => by simp)
  have hbA : Below W0.heap.size W0 (W0.alloc (.cells #[] 82)) := (Below.refl _ W0).alloc (Nat.le_refl _) _
  have c6 : (W0.alloc (.cells #[] 82)).cell? ⟨b, 6, none⟩ = some (.slice ao n cap) := (hbA.cell (p := ⟨b, 6, none⟩) h0.lt).trans (h0.cell 6)
  have f6 := (h0.below hbA h0.lt).frozen 6
  have hlt := h0.lt
  have hcap2 : (cm : Int) ≤ (cap : Int) := by omega
  have hta : bcells cm (S.recs.take cm) = (bcells cm S.recs).take (cm * 3) := bcells_take _ _ _
  have htl : (S.recs.take cm).length = cm := by rw [List.length_take, hn]; omega
  have hln : (bcells cm (S.recs.take cm)).length = cm * 3 := by rw [bcells_len, htl]
  have hnews : cm = 0 ∨ ∃ ad, ao = some ad ∧ ∀ j u, (bcells cm (S.recs.take cm))[j]? = some u → (W0.alloc (.cells #[] 82)).cell? (ad.add j) = some u := by
    by_cases h : cm = 0
    · exact .inl h
    · right
      rcases hrow.2 with ⟨h1, h2⟩ | ⟨g, c, cur, h1, _⟩
      · omega
      · injection h1 with h1
        subst h1
        refine ⟨_, rfl, fun j u hu => ?_⟩
        rw [hta, List.getElem?_take] at hu
        split at hu
        · exact (hrow.alloc _).cells rfl _ _ hu
        · cases hu
  have hone := bcells_one cm (S.recs.take cm)
  have hmade := World.ownsRow_made (e := 82) (size := 3) W0 #[] 0 (Nat.le_refl _) (Nat.zero_le _) rfl
  have HN := Lib.hid (And.intro hnews (And.intro hmade (And.intro hone hln)))
  have hk63 : cm ≤ maxLen := by unfold maxLen; omega
  have hkb : cm * 32 ≤ 140737488355328 := by omega
  have HH := Lib.hid (And.intro hb0 (And.intro hcm (And.intro htl f6)))
  clear hta htl hln hnews hone hmade hrow h0 hb0 hbA hW0 f6 hcm hn
  go_wp2_with ((at_builtin; refine wpList_append_shown _ rfl _ _ 34 rfl W0.heap.size 82 i0 _ 3 32 Tryz.underlying34 hi0 hz0 hz1 hz2 rfl (by decide) W0.heap.size rfl HN.out.2.1 ao cm _ (bcells cm (S.recs.take cm)) rfl HN.out.2.2.2 HN.out.1 HN.out.2.2.1 hk63 hkb (by simp) ?_))
  intro g7 cap7 w7 hown hg
  obtain ⟨hb0, hcm, htl, f6⟩ := HH.out
  have eb := hg.block b (by rw [World.size_alloc]; omega) (by intro h; injection h with h; omega)
  have k6 := (World.cell?_of_block (a := ⟨b, 6, none⟩) eb).trans c6
  have f7 := (World.frozen?_of_block (a := ⟨b, 6, none⟩) eb).trans f6
  obtain ⟨P1, P2⟩ := HBZ.out.fresh (c := cm) hb0 hg htl hown
  have hre : S.reopen = { S with recs := S.recs.take cm, comm := cm } := by unfold JS.reopen; rw [hcm]
  have HP := Lib.hid (And.intro P1 P2)
  rw [← hre] at HP
  clear P1 P2 hown hg eb hb0 htl f6 c6 hre
  go_wp2_with fail
  go_end0
  exact ⟨rfl, HP.out⟩
set_option maxRecDepth 100000 in
theorem committed_any (h : Bz w b S) (hc : S.comm ≤ S.recs.length) (hlen : S.recs.length ≤ 1048576) (hf : S.first ≤ 1048576) :
    Calls Tryz.prog 65 #[.pointer (some ⟨b, 0, none⟩)] w fun e w' => ∃ c, e = .returned (.pointer (some ⟨c, 0, none⟩)) ∧ Bz w' c S.reopen ∧ Below w.heap.size w w' := by
  obtain ⟨a0, a1, a2, a3, a5, vr, hblk, hrs, hsh⟩ := h
  have hz : Bz (w.alloc (.cells #[a0, a1, a2, a3, .int .i64 (S.first : Int), a5, vr] 36)) w.heap.size S := ⟨a0, a1, a2, a3, a5, vr, Blk.new _ _ _, row_turn hrs (Turn.ofBelow (F := []) ((Below.refl _ w).alloc (Nat.le_refl _) _) (Nat.le_refl _)) (fun _ _ => by simp), hsh⟩
  have HR := Lib.hid (zreopen_any hz hc hlen hf)
  obtain ⟨o0, o1, o2, n0, c0, n1, c1, n2, c2, hh, bg, rfl, rfl, rfl, rfl, rfl⟩ := hsh
  obtain ⟨ao, cap, rfl⟩ := brow_shape hrs
  have k0 := hblk.cell 0
  have k1 := hblk.cell 1
  have k2 := hblk.cell 2
  have k3 := hblk.cell 3
  have k4 := hblk.cell 4
  have k5 := hblk.cell 5
  have k6 := hblk.cell 6
  simp at k0 k1 k2 k3 k4 k5 k6
  have HA := Lib.hid ((Below.refl w.heap.size w).alloc (Nat.le_refl _) (.cells #[.slice o0 n0 c0, .slice o1 n1 c1, .slice o2 n2 c2, .int .i64 hh, .int .i64 (S.first : Int), .int .i64 bg, .slice ao S.recs.length cap] 36))
  obtain ⟨N, hN⟩ : ∃ N, S.recs.length = N := ⟨_, rfl⟩
  rw [hN] at k6 HR HA
  clear hz hrs hblk hN
  go_enter Tryz.func65, Tryz.ntmps65
  go_wp2_with ((go_at_call 44; refine HR.out.mono ?_; rintro e w2 ⟨rfl, hz2, ht2⟩))
  go_ret
  exact ⟨_, rfl, hz2, HA.out.trans (ht2.toBelow (fun i hi => by simp at hi; omega) (by simp))⟩
/-- the same records -/
def sameB (S T : JS) : Bool := decide (S.first = T.first) && decide (S.recs.map (fun r => r.2.data.toList) = T.recs.map (fun r => r.2.data.toList))
theorem bytes_same {x y : ByteArray} : x.toList = y.toList ↔ x = y := by
  constructor
  · intro h
    rw [ByteArray.toList_eq, ByteArray.toList_eq] at h
    cases x; cases y
    simp at h
    rw [h]
  · intro h; rw [h]
theorem sameB_no {S T : JS} {k : Nat} {r q : Rc} (hr : S.recs[k]? = some r) (hq : T.recs[k]? = some q) (h : r.2 ≠ q.2) : sameB S T = false := by
  unfold sameB
  rw [Bool.and_eq_false_iff]
  right
  rw [decide_eq_false_iff_not]
  intro e
  have := congrArg (fun l => l[k]?) e
  simp only [List.getElem?_map, hr, hq, Option.map_some, Option.some.injEq] at this
  exact h (bytes_same.1 (by rw [ByteArray.toList_eq, ByteArray.toList_eq, this]))
theorem sameB_yes {S T : JS} (hf : S.first = T.first) (hl : S.recs.length = T.recs.length) (h : ∀ (i : Nat) (r q : Rc), S.recs[i]? = some r → T.recs[i]? = some q → r.2 = q.2) : sameB S T = true := by
  unfold sameB
  rw [decide_eq_true hf, Bool.true_and, decide_eq_true_iff]
  apply List.ext_getElem (by simp [hl])
  intro i h1 h2
  simp only [List.length_map] at h1 h2
  simp only [List.getElem_map]
  rw [h i _ _ (List.getElem?_eq_getElem h1) (List.getElem?_eq_getElem h2)]
set_option maxRecDepth 100000 in
set_option maxHeartbeats 2000000 in
theorem same_any {w : World} {a b : Nat} {S T : JS} (ha : Bz w a S) (hb : Bz w b T) (hla : S.recs.length ≤ 1048576) (hlb : T.recs.length ≤ 1048576) :
    Calls Tryz.prog 64 #[.pointer (some ⟨a, 0, none⟩), .pointer (some ⟨b, 0, none⟩)] w fun e w' => e = .returned (.bool (sameB S T)) ∧ Below w.heap.size w w' := by
  have HA := Lib.hid ha
  have HB := Lib.hid hb
  obtain ⟨_, _, _, _, _, va, hA1, hA2, _⟩ := ha
  obtain ⟨_, _, _, _, _, vb, hB1, hB2, _⟩ := hb
  obtain ⟨aa, ca, rfl⟩ := brow_shape hA2
  obtain ⟨ab, cb, rfl⟩ := brow_shape hB2
  obtain ⟨N, hN⟩ : ∃ N, S.recs.length = N := ⟨_, rfl⟩
  obtain ⟨M, hM⟩ : ∃ M, T.recs.length = M := ⟨_, rfl⟩
  rw [hN] at hA1 hA2 hla
  rw [hM] at hB1 hB2 hlb
  have CA := Lib.hid (fun (w' : World) (h : Below w.heap.size w w') => And.intro ((hA1.below h hA1.lt).cell 4) (And.intro ((hA1.below h hA1.lt).cell 6) (row_turn hA2 (Turn.ofBelow (F := []) h (Nat.le_refl _)) (fun _ _ => by simp))))
  have CB := Lib.hid (fun (w' : World) (h : Below w.heap.size w w') => And.intro ((hB1.below h hB1.lt).cell 4) (And.intro ((hB1.below h hB1.lt).cell 6) (row_turn hB2 (Turn.ofBelow (F := []) h (Nat.le_refl _)) (fun _ _ => by simp))))
  have HN := Lib.hid (And.intro hN hM)
  have a4 := hA1.cell 4
  have a6 := hA1.cell 6
  have b4 := hB1.cell 4
  have b6 := hB1.cell 6
  simp at a4 a6 b4 b6
  clear hA1 hA2 hB1 hB2 hN hM HA HB
  by_cases hf : S.first = T.first
  · have e1 : ((S.first : Int) != (T.first : Int)) = false := by rw [bne_eq_false_iff_eq]; omega
    by_cases hl : N = M
    · have e2 : ((N : Int) != (M : Int)) = false := by rw [bne_eq_false_iff_eq]; omega
      subst hl
      go_enter Tryz.func64, Tryz.ntmps64
      go_wp2_with fail
      go_quiet (fail)
      go_wp2_with fail
      have hb0 : Below w.heap.size w (w.drewN nq) := below_drewN (Below.refl _ _)
      obtain ⟨W0, hW0⟩ : ∃ W0, w.drewN nq = W0 := ⟨_, rfl⟩
      rw [hW0] at hb0 ⊢
      clear hW0 a4 a6 b4 b6
      go_loopw [5] (fun i wr => ∃ k : Nat, k ≤ N ∧ i = .int .i64 (k : Int) ∧ Below w.heap.size w wr ∧ ∀ (i : Nat) (r q : Rc), i < k → S.recs[i]? = some r → T.recs[i]? = some q → r.2 = q.2) (fun i _ => N - (intOf i).toNat)
      case atStart => exact ⟨0, Nat.zero_le _, rfl, hb0, fun i r q h => by omega⟩
      case round =>
        obtain ⟨k, hk, rfl, hbr, hall⟩ := hrel
        have HALL := Lib.hid hall
        obtain ⟨_, a6, ra⟩ := CA.out wr hbr
        obtain ⟨_, b6, rb⟩ := CB.out wr hbr
        simp at a6 b6
        clear hall
        by_cases hkn : k < N
        · obtain ⟨r, hr⟩ : ∃ r, S.recs[k]? = some r := ⟨_, List.getElem?_eq_getElem (by rw [HN.out.1]; omega)⟩
          obtain ⟨q, hq⟩ : ∃ q, T.recs[k]? = some q := ⟨_, List.getElem?_eq_getElem (by rw [HN.out.2]; omega)⟩
          obtain ⟨g, rfl, r0, _, _⟩ := rec_cells ra hr hkn
          obtain ⟨g', rfl, q0, _, _⟩ := rec_cells rb hq hkn
          have HRQ := Lib.hid (And.intro hr hq)
          have kI : (k : Int) < (N : Int) := by omega
          clear ra rb hr hq
          by_cases hd : r.2 = q.2
          · have e3 : (r.2.toList == q.2.toList) = true := by rw [beq_iff_eq]; exact bytes_same.2 hd
            have HD := Lib.hid hd
            clear hd
            go_wp2_with fail
            go_quiet (fail)
            go_wp2_with fail
            go_roundw
            case rel =>
              refine ⟨k + 1, by omega, by go_num, below_drewN hbr, fun i r' q' hi h1 h2 => ?_⟩
              by_cases e : i = k
              · subst e
                have := HRQ.out
                rw [h1, h2] at this
                obtain ⟨x1, x2⟩ := this
                injection x1 with x1
                injection x2 with x2
                rw [x1, x2]
                exact HD.out
              · exact HALL.out i r' q' (by omega) h1 h2
            case measure => simp [intOf]; omega
          · have e3 : (r.2.toList == q.2.toList) = false := by rw [beq_eq_false_iff_ne]; exact fun h => hd (bytes_same.1 h)
            have hno := sameB_no HRQ.out.1 HRQ.out.2 hd
            have HNO := Lib.hid hno
            clear hd hno
            go_wp2_with fail
            go_quiet (fail)
            go_wp2_with fail
            go_ret
            exact ⟨by rw [HNO.out]; rfl, below_drewN hbr⟩
        · have hyes := sameB_yes hf (HN.out.1.trans HN.out.2.symm) (fun i r q h1 h2 => HALL.out i r q (by have := (List.getElem?_eq_some_iff.1 h1).1; have := HN.out.1; omega) h1 h2)
          have HY := Lib.hid hyes
          clear hyes ra rb
          go_wp2_with fail
          go_ret
          exact ⟨by rw [HY.out]; rfl, hbr⟩
    · have e2 : ((N : Int) != (M : Int)) = true := by rw [bne_iff_ne]; omega
      have hno : sameB S T = false := by
        unfold sameB
        rw [Bool.and_eq_false_iff]
        right
        rw [decide_eq_false_iff_not]
        intro e
        have := congrArg List.length e
        simp [HN.out.1, HN.out.2] at this
        exact hl this
      rw [hno]
      go_enter Tryz.func64, Tryz.ntmps64
      go_wp2_with fail
      go_quiet (fail)
      go_wp2_with fail
      go_ret
      exact ⟨rfl, below_drewN (Below.refl _ _)⟩
  · have e1 : ((S.first : Int) != (T.first : Int)) = true := by rw [bne_iff_ne]; omega
    have hno : sameB S T = false := by
      unfold sameB
      rw [Bool.and_eq_false_iff]
      left
      exact decide_eq_false hf
    rw [hno]
    go_enter Tryz.func64, Tryz.ntmps64
    go_wp2_with fail
    go_quiet (fail)
    go_wp2_with fail
    go_ret
    exact ⟨rfl, below_drewN (Below.refl _ _)⟩
/-- what was found is what was committed before, or behind -/
theorem survived_any {w : World} {a b f : Nat} {S T U : JS} (ha : Bz w a S) (hb : Bz w b T) (hf : Bz w f U) (hs : S.comm ≤ S.recs.length ∧ S.recs.length ≤ 1048576 ∧ S.first ≤ 1048576) (ht : T.comm ≤ T.recs.length ∧ T.recs.length ≤ 1048576 ∧ T.first ≤ 1048576) (hu : U.recs.length ≤ 1048576)
    (h : sameB S.reopen U = true ∨ sameB T.reopen U = true) :
    Calls Tryz.prog 21 #[.pointer (some ⟨a, 0, none⟩), .pointer (some ⟨b, 0, none⟩), .pointer (some ⟨f, 0, none⟩)] w fun e w' => e = .returned (.bool true) ∧ Below w.heap.size w w' := by
  have hrl : ∀ {S : JS}, S.recs.length ≤ 1048576 → S.reopen.recs.length ≤ 1048576 := fun {S} h => by
    show (S.recs.take S.comm).length ≤ _
    rw [List.length_take]; omega
  have HA := Lib.hid (committed_any ha hs.1 hs.2.1 hs.2.2)
  have HB := Lib.hid (fun (w' : World) (hb' : Below w.heap.size w w') => committed_any (hb.below hb') ht.1 ht.2.1 ht.2.2)
  have HF := Lib.hid hf
  have HS1 := Lib.hid (fun (w' : World) (c : Nat) (hc : Bz w' c S.reopen) (hb' : Below w.heap.size w w') => same_any hc (HF.out.below hb') (hrl hs.2.1) hu)
  have HT1 := Lib.hid (fun (w' : World) (c : Nat) (hc : Bz w' c T.reopen) (hb' : Below w.heap.size w w') => same_any hc (HF.out.below hb') (hrl ht.2.1) hu)
  obtain ⟨x, hx⟩ : ∃ x, sameB S.reopen U = x := ⟨_, rfl⟩
  obtain ⟨y, hy⟩ : ∃ y, sameB T.reopen U = y := ⟨_, rfl⟩
  rw [hx] at HS1 h
  rw [hy] at HT1 h
  clear ha hb hf hx hy
  cases x with
  | true =>
    go_enter Tryz.func21, Tryz.ntmps21
    go_wp2_with (first
      | (go_at_call 65; refine HA.out.mono ?_; rintro e w1 ⟨c1, rfl, hz1, hb1⟩)
      | (go_at_call 64; refine (HS1.out _ _ hz1 hb1).mono ?_; rintro e w2 ⟨rfl, hb2⟩))
    go_ret
    exact ⟨rfl, hb1.trans (hb2.mono hb1.size)⟩
  | false =>
    obtain rfl : y = true := by simpa using h
    go_enter Tryz.func21, Tryz.ntmps21
    go_wp2_with (first
      | (go_at_call 65; refine (HB.out _ hbc).mono ?_; rintro e w3 ⟨c3, rfl, hz3, hb3⟩; have hbd := hbc.trans (hb3.mono hbc.size))
      | (go_at_call 65; refine HA.out.mono ?_; rintro e w1 ⟨c1, rfl, hz1, hb1⟩)
      | (go_at_call 64; refine (HT1.out _ _ hz3 hbd).mono ?_; rintro e w4 ⟨rfl, hb4⟩)
      | (go_at_call 64; refine (HS1.out _ _ hz1 hb1).mono ?_; rintro e w2 ⟨rfl, hb2⟩; have hbc := hb1.trans (hb2.mono hb1.size)))
    go_ret
    exact ⟨rfl, hbd.trans (hb4.mono hbd.size)⟩
end
end Go.Proofs.YtfdnpchbbngpjaaGreat
namespace Go.Proofs.YtfdnpchbbngpjaaGreat
open Go.RowKit Go.Maps Go.WideShapes Go.ChangeShapes Go.ChangeAt Go.Deep

section
variable {w0 w w' : World} {vb jb bb tb b : Nat} {S T : JS} {br : Bool} {st : VS} {B C : BS} {X Y : List (Nat × Obj)} {m c : Nat}
/-- the blocks that a book's records lie in -/
def Bz.in_ (w : World) (b : Nat) (S : JS) (Y : List (Nat × Obj)) : Prop := (∀ x, x ∈ Y → w.heap[x.1]? = some x.2) ∧ ∀ w' : World, (∀ x, x ∈ Y → w'.heap[x.1]? = some x.2) → Bz w' b S
theorem Bz.kept (h : Bz w b S) {n : Nat} (hn : ∀ a0 a1 a2 a3 a4 a5 vr, Blk w b 36 #[a0, a1, a2, a3, a4, a5, vr] → ∀ g, vr.ownBlock = some g → n ≤ g) (hb : n ≤ b) : ∃ Y, Bz.in_ w b S Y ∧ ∀ x, x ∈ Y → n ≤ x.1 := by
  obtain ⟨a0, a1, a2, a3, a5, vr, h1, h2, h3⟩ := h
  have hg := hn _ _ _ _ _ _ _ h1
  rcases h2 with ⟨hl, h2 | ⟨g, cap, cur, rfl, hgb, hc, r⟩⟩
  · refine ⟨[(b, _)], ⟨fun x hx => ?_, fun w' hw => ⟨a0, a1, a2, a3, a5, vr, hw _ (List.mem_cons_self ..), ⟨hl, .inl h2⟩, h3⟩⟩, fun x hx => ?_⟩
    · obtain rfl := List.mem_singleton.1 hx
      exact h1
    · obtain rfl := List.mem_singleton.1 hx
      exact hb
  · refine ⟨[(b, _), (g, _)], ⟨fun x hx => ?_, fun w' hw => ⟨a0, a1, a2, a3, a5, _, hw _ (List.mem_cons_self ..), ⟨hl, .inr ⟨g, cap, cur, rfl, hgb, hw (g, _) (List.mem_cons_of_mem _ (List.mem_cons_self ..)), r⟩⟩, h3⟩⟩, fun x hx => ?_⟩
    · rcases List.mem_cons.1 hx with rfl | hx
      · exact h1
      · obtain rfl := List.mem_singleton.1 hx
        exact hc
    · rcases List.mem_cons.1 hx with rfl | hx
      · exact hb
      · obtain rfl := List.mem_singleton.1 hx
        exact hg g rfl
theorem Wk.keep (h : Wk w0 w vb jb bb tb S br st B []) (hb : Below w.heap.size w w') (hY : ∀ x, x ∈ Y → w'.heap[x.1]? = some x.2 ∧ w.heap.size ≤ x.1) : Wk w0 w' vb jb bb tb S br st B Y := by
  obtain ⟨rv, hen, F, G, h1, h2, h3, h4, h5, h6⟩ := h
  refine ⟨rv, hen, F, G, h1.below hb, h2.below hb, h3, h4, h5.trans (hb.mono h5.size), fun x hx => ⟨(hY x hx).1, fun hi => ?_, fun hi => ?_⟩⟩
  · have := h1.lt _ hi; have := (hY x hx).2; omega
  · have := h2.lt _ hi; have := (hY x hx).2; omega
theorem Wk.kept (h : Wk w0 w vb jb bb tb S br st B Y) (hY : Bz.in_ w' b T Y) : Bz w b T := by
  obtain ⟨_, _, _, _, _, _, _, _, _, h6⟩ := h
  exact hY.2 w (fun x hx => (h6 x hx).1)
theorem Wk.bz (h : Wk w0 w vb jb bb tb S br st B X) : Bz w bb B.s := by
  obtain ⟨_, _, _, _, _, h2, _⟩ := h
  obtain ⟨_, _, _, _, _, _, _, k, _⟩ := h2
  exact k.bz
theorem Wv.bz (h : Wv w0 w vb bb st B) : Bz w bb B.s := by
  obtain ⟨_, _, _, h2, _⟩ := h
  obtain ⟨_, _, _, _, _, _, _, k, _⟩ := h2
  exact k.bz
theorem Wk.toVv (h : Wk w0 w vb jb bb tb S br st B X) : Vv w0 w vb st := by
  obtain ⟨rv, hen, F, G, h1, h2, h3, h4, h5, _⟩ := h
  exact ⟨F, h1.v, fun i hi => (h3 i (by simp [jvfoot, hi])).2, h5⟩
theorem Inv.limit (h : Inv st B m c) {n : Int} (hn : n ≤ 9223372036854775807) : Inv (st.limit n) B m c :=
  ⟨h.wf.limit hn, h.up, h.pend, h.len, h.m1, h.m2, h.h0, h.h1, h.area, h.s, h.lies, h.cur, h.find, h.small⟩
theorem klimit (n : Int) (hn : n ≤ 9223372036854775807) (h : Wk w0 w vb jb bb tb S br st B X) :
    Calls Tryz.prog 12 #[.pointer (some ⟨vb, 0, none⟩), .int .i64 n] w fun e w' => e = .returned (.tuple #[]) ∧ Wk w0 w' vb jb bb tb S br (st.limit n) B X :=
  kdev _ h (fun _ k' => limit_own n k' hn)
theorem kdown (h : Wk w0 w vb jb bb tb S br st B X) :
    Calls Tryz.prog 14 #[.pointer (some ⟨vb, 0, none⟩)] w fun e w' => e = .returned (.bool st.down) ∧ Wk w0 w' vb jb bb tb S br st B X :=
  h.callL _ (fun _ _ _ _ j _ => (down_own j.v).mono (by rintro e w' ⟨rfl, rfl⟩; exact ⟨rfl, Below.refl _ _⟩))
/-- v is the slice of the slices of bytes ll -/
def Bytss (w : World) (v : Value) (ll : List (List UInt8)) : Prop :=
  ∃ (ao : Option Addr) (cap : Nat), v = .slice ao ll.length cap ∧ ll.length ≤ maxLen ∧ (0 < ll.length → ∃ b off, ao = some ⟨b, off, none⟩ ∧ b < w.heap.size ∧ ∀ i, i < ll.length → ∃ sv, w.cell? ⟨b, off + i, none⟩ = some sv ∧ Byts w sv (ll.getD i []))
theorem Byts.lt {v : Value} {l : List UInt8} (h : Byts w v l) {i : Nat} (hi : 0 < l.length) (hv : v.ownBlock = some i) : i < w.heap.size := by
  obtain ⟨ao, cap, rfl, h2, h3⟩ := h
  obtain ⟨b, off, rfl, hb, _⟩ := h3 hi
  have : b = i := by simpa [Value.ownBlock] using hv
  omega
theorem kstart {sv : Value} {cs : List UInt8} (h : Wk w0 w vb jb bb tb S br st B X) (hb : Byts w0 sv cs) :
    Calls Tryz.prog 18 #[.pointer (some ⟨vb, 0, none⟩), sv] w fun e w' => e = .returned (.tuple #[]) ∧ Wk w0 w' vb jb bb tb S br (st.start cs) B X := by
  have h' := h
  obtain ⟨rv, hen, F, G, k1, k2, k3, k4, k5, k6⟩ := h
  have hby : Byts w sv cs := Byts.turn hb (Turn.ofBelow (F := []) k5 (Nat.le_refl _)) (fun _ _ => by simp)
  refine (start_opt k1.v sv cs hby (fun hl i hi hf => ?_)).mono ?_
  · have := hb.lt hl hi
    have := (k3 i (by simp [jvfoot, hf])).2
    omega
  · rintro e w' ⟨rfl, hs⟩
    exact ⟨rfl, Wk.toV k1 k2 k3 k4 k5 k6 (k1.stepOf hs)⟩
theorem vopen_b (h : Wv w0 w vb bb st B) (hI : Inv st C m c) :
    Calls Tryz.prog 20 #[.pointer (some ⟨vb, 0, none⟩)] w fun e w' => ∃ jb tb, e = .returned (.tuple #[.pointer (some ⟨jb, 0, none⟩), .int .i64 0]) ∧ Wk w0 w' vb jb bb tb C.s.reopen false st B [] ∧ Below w.heap.size w w' := by
  obtain ⟨F, G, k1, k2, k3, k4, k5⟩ := h
  refine (open_yes k1 hI.up hI.len hI.m1 hI.m2 hI.found).mono ?_
  rintro e w' ⟨jb', tb', rv', hen', rfl, hj, ht, hb, htb, hjf⟩
  have hs := hb.size
  refine ⟨jb', tb', rfl, ⟨rv', hen', F, G, ⟨hj, k1.below hb, ht, fun i hi hi2 => ?_, fun hi => (hjf tb' hi).2 rfl, fun hi => ?_⟩, k2.below hb, fun i hi => ?_, k4, k5.trans (hb.mono k5.size), fun x hx => by cases hx⟩, hb⟩
  · have h3 := (hjf i hi).1
    have h4 := k1.lt i hi2
    omega
  · have h4 := k1.lt tb' hi
    omega
  · unfold jvfoot at hi
    rcases List.mem_cons.1 hi with rfl | hi
    · exact ⟨fun hg => by have := k2.lt _ hg; omega, Nat.le_trans k5.size htb⟩
    rcases List.mem_append.1 hi with hi | hi
    · have := (hjf i hi).1
      exact ⟨fun hg => by have := k2.lt _ hg; omega, Nat.le_trans k5.size this⟩
    · exact k3 i hi
theorem kscan {S1 : JS} (h : Wk w0 w vb jb bb tb S br st B X) (hI : Inv st ⟨st.sct 0, st.sct 1, st.area, S1⟩ m c) :
    Calls Tryz.prog 19 #[.pointer (some ⟨vb, 0, none⟩)] w fun e w' => ∃ f, e = .returned (.tuple #[.pointer (some ⟨f, 0, none⟩), .bool true]) ∧ Wv w0 w' vb f st ⟨st.sct 0, st.sct 1, st.area, S1.reopen⟩ ∧ Below w.heap.size w w' := by
  obtain ⟨F, k1, k2, k3⟩ := h.toVv
  have hf : st.found = some S1.reopen := hI.found
  refine (scan_any k1 hI.up hI.len hI.m1 hI.m2).mono ?_
  rintro e w' ⟨f, G, rfl, hb, hG, hB⟩
  rw [hf]
  exact ⟨f, rfl, Vv.book ⟨F, k1, k2, k3⟩ hb (hB _ hf) hG, hb⟩
theorem Bz.fresh_in {w1 w2 : World} (h : Bz w b S) (hb : Below w.heap.size w w1) {o : Obj} (hg : (w1.alloc o).grownBy w2 (some w1.heap.size)) {n c g cap n0 : Nat} {l : List Rc} (hn : l.length = n)
    (hown : w2.ownsRow w1.heap.size 82 3 (.slice (some ⟨g, 0, none⟩) n cap) n (bcells c l)) (hnb : n0 ≤ b) (hnw : n0 ≤ w.heap.size) :
    ∃ Y, Bz.in_ (w2.setCell ⟨b, 6, none⟩ (.slice (some ⟨g, 0, none⟩) n cap)) b { S with recs := l, comm := c } Y ∧ ∀ x, x ∈ Y → n0 ≤ x.1 := by
  obtain ⟨P1, P2⟩ := h.fresh hb hg hn hown
  have hs := hb.size
  have hgw := (hown.lt g rfl).1
  refine P1.kept (fun a0 a1 a2 a3 a4 a5 vr hB g' hg' => ?_) hnb
  obtain ⟨a0, a1, a2, a3, a5, vr', h1, h2, h5⟩ := h
  have t1 : Turn [] w w2 := ((Turn.ofBelow hb (Nat.le_refl _)).alloc o).grown hg (fun x e => by injection e with e; subst e; exact .inr hs)
  have h7 := ((h1.turn t1 (by simp)).set_ 6 (.slice (some ⟨g, 0, none⟩) n cap)).cell 6
  have h8 := hB.cell 6
  have h9 := h8.symm.trans h7
  have : vr = .slice (some ⟨g, 0, none⟩) n cap := by simpa using h9
  subst this
  have : g = g' := by simpa [Value.ownBlock] using hg'
  omega
theorem sameB_self (S : JS) : sameB S S = true := sameB_yes rfl rfl (fun i r q h1 h2 => by rw [h1] at h2; injection h2 with h2; rw [h2])
theorem reopen_twice (S : JS) : S.reopen.reopen = S.reopen := by
  unfold JS.reopen
  simp [List.take_take]
end
set_option maxRecDepth 100000 in
theorem read_byts {H : Type} {enc : TypeId × Value → H} {W : World} {base : Nat} {sp : Nat → Bool} {held : Bool} {n : Nat} {cs : List Value} {x : DataW H × List MemPlace}
    (h : DataW.trod enc Tryz.prog W base sp held n 31 cs = some x) : ∃ v l, cs = [v] ∧ Byts W v l := by
  rcases open_ints Tryz.underlying31 Tryz.underlying5 (by kernel_rfl) h with ⟨hcs, _⟩ | ⟨x, len, cap, zs, hcs, _, hl, hm, hz, _, hcell, hwz⟩
  · exact ⟨_, [], hcs, none, 0, rfl, Nat.zero_le _, fun h => absurd h (by simp)⟩
  · have hlz : len ≤ zs.length := by rw [hz]; split <;> omega
    unfold maxLen at hm
    refine ⟨_, (List.range len).map fun i => UInt8.ofNat (zs.getD i 0).toNat, hcs, some x, cap, by simp, by simp; omega, fun hp => ?_⟩
    simp at hp
    obtain ⟨b, off, rfl, hc⟩ := ints_at hcell (by omega)
    refine ⟨b, off, rfl, vcell_lt (hc 0 (by omega)), fun j hj => ?_⟩
    simp at hj
    rw [hc j (by omega)]
    have hb := hwz (zs.getD j 0) (by simp [List.getD, List.getElem?_eq_getElem (show j < zs.length by omega)])
    obtain ⟨m, e, hm2⟩ := u8of hb
    simp only [List.getD_eq_getElem?_getD] at e
    simp [List.getD, List.getElem?_map, List.getElem?_range hj, e]
    omega
set_option maxRecDepth 100000 in
theorem open_bytss {H : Type} {enc : TypeId × Value → H} {W : World} {base b0 : Nat} {sp : Nat → Bool} {held : Bool} {r : Reach} {v : Value} {d : DataW H} {ps : List MemPlace}
    (hv : Value.okWide Tryz.prog W r b0 23 v) (hd : DataW.Trod enc Tryz.prog W base sp held 23 v d ps) : ∃ l, Bytss W v l := by
  obtain ⟨a, len, cap, rfl⟩ := okWide_slice Tryz.underlying23 hv
  obtain ⟨fuel, hf⟩ := hd
  rcases open_slice Tryz.underlying23 hf with ⟨hcs, _⟩ | ⟨a', len', cap', m, n, D, Pl, hcs, hb, hl, hm, hmm, _, hi⟩
  · simp [Value.cells] at hcs
    obtain ⟨rfl, rfl, rfl⟩ := hcs
    exact ⟨[], none, 0, rfl, Nat.zero_le _, fun h => absurd h (by simp)⟩
  · simp [Value.cells] at hcs
    obtain ⟨rfl, rfl, rfl⟩ := hcs
    rw [show Tryz.prog.cellsOf 31 = 1 from by kernel_rfl] at hi
    have hlm : len ≤ m := by
      rw [hmm]; split <;> omega
    have hex : ∀ i, ∃ o : List UInt8, i < len → ∃ sv, W.cell? (a'.add (i * 1 + 0)) = some sv ∧ Byts W sv o := by
      intro i
      by_cases hlt : i < len
      · obtain ⟨cs, hc, ht⟩ := hi i (by omega)
        obtain ⟨_, _, hat⟩ := World.cells?_some hc
        obtain ⟨sv, o, rfl, ho⟩ := read_byts ht
        refine ⟨o, fun _ => ⟨sv, ?_, ho⟩⟩
        rw [← Go.Deep.add_add]
        exact hat 0 (by omega)
      · exact ⟨[], fun h => absurd h hlt⟩
    obtain ⟨f, hf⟩ := Classical.skolem.1 hex
    refine ⟨(List.range len).map f, some a', cap, by simp, by simp; omega, fun hp => ?_⟩
    simp at hp
    obtain ⟨b, off, spot⟩ := a'
    have hspot : spot = none := by
      obtain ⟨sv, h0, _⟩ := hf 0 hp
      exact World.cell?_spot h0
    subst hspot
    have hcell : ∀ i, i < len → ∃ sv, W.cell? ⟨b, off + i, none⟩ = some sv ∧ Byts W sv (f i) := by
      intro i h
      obtain ⟨sv, h1, h2⟩ := hf i h
      refine ⟨sv, ?_, h2⟩
      rw [Go.WideShapes.add_plain] at h1
      simpa using h1
    obtain ⟨sv, h1, _⟩ := hcell 0 hp
    refine ⟨b, off, rfl, vcell_lt h1, fun i h => ?_⟩
    simp at h
    have e : ((List.range len).map f).getD i [] = f i := by
      rw [List.getD_eq_getElem?_getD, List.getElem?_map, List.getElem?_range h]; rfl
    rw [e]
    exact hcell i h
end Go.Proofs.YtfdnpchbbngpjaaGreat
namespace Go.Proofs.YtfdnpchbbngpjaaGreat
attribute [local go_sem ↓] Go.wp_at_zero Go.wp_at_succ
open Go.RowKit Go.Maps

/-- one of the slices -/
theorem bytss_el {w w' : World} {v : Value} {ll : List (List UInt8)} {i : Nat} (h : Bytss w v ll) (hb : Below w.heap.size w w') (hi : i < ll.length) :
    ∃ b off cap eo ec e, v = .slice (some ⟨b, off, none⟩) ll.length cap ∧ w'.cell? ⟨b, off + i, none⟩ = some (.slice eo e ec) ∧ Byts w (.slice eo e ec) (ll.getD i []) ∧ e ≤ 9223372036854775807 ∧
      (0 < e → ∃ (b' off' u : Nat), eo = some ⟨b', off', none⟩ ∧ u < 256 ∧ w'.cell? ⟨b', off', none⟩ = some (.int .u8 (u : Int))) := by
  obtain ⟨ao, cap, rfl, h2, h3⟩ := h
  obtain ⟨b, off, rfl, hlt, hc⟩ := h3 (by omega)
  obtain ⟨sv, h4, h5⟩ := hc i hi
  have h6 := h5
  obtain ⟨eo, ec, rfl, h7, h8⟩ := h5
  refine ⟨b, off, cap, eo, ec, _, rfl, (hb.cell (p := ⟨b, _, none⟩) hlt).trans h4, h6, h7, fun hp => ?_⟩
  obtain ⟨b', off', rfl, hlt', hc'⟩ := h8 hp
  exact ⟨b', off', ((ll.getD i []).getD 0 0).toNat, rfl, UInt8.toNat_lt _, (hb.cell (p := ⟨b', _, none⟩) hlt').trans (hc' 0 hp)⟩
theorem byts_nil (w : World) : Byts w (.slice none 0 0) [] := ⟨none, 0, rfl, Nat.zero_le _, fun h => absurd h (by simp)⟩
/-- what the loop holds -/
structure SvR (w : World) (l : List JO) (vb m : Nat) (wr : World) (k rd jb bb : Nat) : Prop where
  kl : k ≤ l.length
  k30 : k ≤ 30
  rk : rd ≤ k
  st : ∃ tb S st B, Wk w wr vb jb bb tb S false st B [] ∧ Inv st B m (1 + k) ∧ B.s = S
set_option maxRecDepth 100000 in
set_option maxHeartbeats 8000000 in
theorem survives_law (a : Int) (ha : (Lit.int .u8 a).wf = true) {l : List JO} {v : Value} {w : World} (hL : JOps w v l) {ll : List (List UInt8)} {v2 : Value} (hLL : Bytss w v2 ll) :
    Calls Tryz.prog 3 #[.int .u8 a, v, v2] w (LawPost w) := by
  obtain ⟨i0, hi0, hz0, hz1, hz2⟩ := info_parts brec_info
  obtain ⟨n, rfl, hn⟩ := u8of ha
  have hL2 := hL
  obtain ⟨ao, cap, rfl, hmx, _⟩ := hL2
  have HL := Lib.hid hL
  have hLL2 := hLL
  obtain ⟨ao2, cap2, rfl, hmx2, hll2⟩ := hLL2
  obtain ⟨L2, hL2e⟩ : ∃ L2, ll.length = L2 := ⟨_, rfl⟩
  rw [hL2e] at hmx2 hLL ⊢
  have HLL := Lib.hid (And.intro hLL hL2e)
  unfold maxLen at hmx hmx2
  have HM := Lib.hid (made_any (1 + n % 10) (by omega) (by omega) w)
  unfold LawPost
  clear ha hL hLL hll2 hL2e
  go_enter Tryz.func3, Tryz.ntmps3
  go_upto_region 4 with (first
    | (go_at_call 10; refine (sectors_any n hn _).mono ?_; rintro e w1 ⟨rfl, rfl⟩)
    | (go_at_call 9; refine HM.out.mono ?_; rintro e w2 ⟨vb, jb0, bb, tb0, st0, rfl, hW0, hI0, hC0⟩)
    | (go_at_call 11; refine (known_any _).mono ?_; rintro e w3 ⟨rfl, hb3⟩))
  have hW0 := (Wk.of hW0).below hb3
  obtain ⟨m, hm⟩ : ∃ m, 1 + n % 10 = m := ⟨_, rfl⟩
  rw [hm] at hW0 hI0
  obtain ⟨B0, hB0⟩ : ∃ B0, BS.header (BS.blank m) (JS.blank 0) = B0 := ⟨_, rfl⟩
  have hs0 : B0.s = JS.blank 0 := by rw [← hB0]; exact header_s _ _
  rw [hB0] at hW0 hI0
  obtain ⟨S0, hS0⟩ : ∃ S0, JS.blank 0 = S0 := ⟨_, rfl⟩
  rw [hS0] at hW0 hs0
  have H0 := Lib.hid (And.intro hW0 (And.intro hI0 hs0))
  clear hW0 hI0 hs0 hC0 hB0 hS0 hb3 HM
  go_cut [42] (fun v w' => (∃ x : Bool, v = .bool x ∧ (x = true → 0 < L2 ∧ ∃ (b off cap : Nat) (eo : Option Addr) (ec e b' off' u : Nat), (Value.slice ao2 L2 cap2 = .slice (some ⟨b, off, none⟩) L2 cap) ∧ w'.cell? ⟨b, off, none⟩ = some (.slice eo e ec) ∧ 0 < e ∧ eo = some ⟨b', off', none⟩ ∧ u < 256 ∧ w'.cell? ⟨b', off', none⟩ = some (.int .u8 (u : Int)))) ∧ w' = w3)
  case first =>
    by_cases h0 : 0 < L2
    · obtain ⟨b2, off2, c2, eo, ec, e, hv, hx, hby, he, hz⟩ := bytss_el (i := 0) HLL.out.1 H0.out.1.size (by rw [HLL.out.2]; exact h0)
      rw [HLL.out.2] at hv
      injection hv with hv1 hv2 hv3
      subst hv1 hv3
      rw [Nat.add_zero] at hx
      have HX := Lib.hid hx
      clear hv2 hby
      by_cases h1 : 0 < e
      · obtain ⟨b3, off3, u, rfl, hu, hc⟩ := hz h1
        have HC := Lib.hid (And.intro hu hc)
        clear hu hc hz
        go_wp2_with fail
        go_meet
        case rel => exact ⟨⟨true, by simp, fun _ => ⟨h0, _, _, _, _, _, _, _, _, _, rfl, HX.out, h1, rfl, HC.out.1, HC.out.2⟩⟩, rfl⟩
      · obtain rfl : e = 0 := by omega
        clear hz
        go_wp2_with fail
        go_meet
        case rel => exact ⟨⟨false, by simp, fun h => by cases h⟩, rfl⟩
    · obtain rfl : L2 = 0 := by omega
      go_wp2_with fail
      go_meet
      case rel => exact ⟨⟨false, by simp, fun h => by cases h⟩, rfl⟩
  case rest =>
    obtain ⟨⟨x, rfl, hx⟩, rfl⟩ := hcut
    have HX := Lib.hid hx
    clear hx
    go_upto_if 42 with fail
    go_cut [] (fun w' => ∃ st0, Wk w w' vb jb0 bb tb0 S0 false st0 B0 [] ∧ Inv st0 B0 m 1)
    case first =>
      cases x with
      | false =>
        go_wp2_with fail
        go_meet
        case rel => exact ⟨_, H0.out.1, H0.out.2.1⟩
      | true =>
        obtain ⟨h0, b2, off2, c2, eo, ec, e, b3, off3, u, hv, hx, h1, rfl, hu, hc⟩ := HX.out rfl
        injection hv with hv1 hv2 hv3
        subst hv1 hv3
        clear hv2
        obtain ⟨q, hq⟩ : ∃ q, u % 24 = q := ⟨_, rfl⟩
        have eq : (u : Int) % 24 = (q : Int) := by omega
        have eq2 : (u : Int).tmod 24 = (q : Int) := by rw [Int.tmod_eq_emod_of_nonneg (by omega)]; exact eq
        have hq24 : q ≤ 23 := by omega
        clear hq
        have HLM := Lib.hid (klimit (q : Int) (by omega) H0.out.1)
        go_wp2_with ((go_at_call 12; refine HLM.out.mono ?_; rintro e w5 ⟨rfl, hW5⟩; have HW5 := Lib.hid hW5; clear hW5))
        go_meet
        case rel => exact ⟨_, HW5.out, H0.out.2.1.limit (by omega)⟩
    case rest =>
      obtain ⟨st1, hW1, hI1⟩ := hcut
      have H1 := Lib.hid (And.intro hW1 (And.intro hI1 H0.out.2.2))
      clear hW1 hI1 H0 HX
      go_wp2_with fail
      go_loopw [8, 9, 10, 11] (fun j b rd i wr => ∃ k r jb bb : Nat, j = .pointer (some ⟨jb, 0, none⟩) ∧ b = .pointer (some ⟨bb, 0, none⟩) ∧ rd = .int .i64 (r : Int) ∧ i = .int .i64 (k : Int) ∧ SvR w l vb m wr k r jb bb) (fun _ _ _ i _ => 30 - (intOf i).toNat)
      case atStart => exact ⟨0, 0, jb0, bb, rfl, rfl, rfl, rfl, Nat.zero_le _, by omega, Nat.le_refl _, tb0, S0, st1, B0, H1.out.1, H1.out.2.1, H1.out.2.2⟩
      case round =>
        obtain ⟨k, r, jb, bb', rfl, rfl, rfl, rfl, hR⟩ := hrel
        obtain ⟨hk, hk30, hrk, tb, S, st, B, hW, hI, hs⟩ := hR
        clear H1
        by_cases hlt : k < l.length ∧ k < 30
        · obtain ⟨hlt, hlt3⟩ := hlt
          obtain ⟨b, off, cap', hv, hok, x0, x1, x2⟩ := op_cells HL.out hW.size hlt
          injection hv with hv1 hv2 hv3
          subst hv1 hv3
          clear hv2
          obtain ⟨o, ho⟩ : ∃ o, l[k] = o := ⟨_, rfl⟩
          rw [ho] at hok x0 x1 x2
          have X0 := Lib.hid (And.intro x0 (And.intro x1 x2))
          clear x0 x1 x2 ho
          have hBz := hW.bz
          have HBZ := Lib.hid hBz
          obtain ⟨a0, a1, a2, a3, a5, vr, hblk, hrs, hsh⟩ := hBz
          have hz : Bz (wr.alloc (.cells #[a0, a1, a2, a3, .int .i64 (B.s.first : Int), a5, vr] 36)) wr.heap.size B.s := ⟨a0, a1, a2, a3, a5, vr, Blk.new _ _ _, row_turn hrs (Turn.ofBelow (F := []) ((Below.refl _ wr).alloc (Nat.le_refl _) _) (Nat.le_refl _)) (fun _ _ => by simp), hsh⟩
          obtain ⟨o0, o1, o2, n0, c0, n1, c1, n2, c2, hh, bg, rfl, rfl, rfl, rfl, rfl⟩ := hsh
          obtain ⟨aor, capr, rfl⟩ := brow_shape hrs
          have k0 := hblk.cell 0
          have k1 := hblk.cell 1
          have k2 := hblk.cell 2
          have k3 := hblk.cell 3
          have k4 := hblk.cell 4
          have k5 := hblk.cell 5
          have k6 := hblk.cell 6
          simp at k0 k1 k2 k3 k4 k5 k6
          obtain ⟨N, hN⟩ : ∃ N, B.s.recs.length = N := ⟨_, rfl⟩
          have hlen1 : B.s.recs.length ≤ 1048576 := by have := hI.s.nums; omega
          rw [hN] at k6 hz hrs hlen1
          have HZ := Lib.hid (And.intro hz (And.intro hrs hN))
          have HW := Lib.hid (And.intro hW (And.intro hI hs))
          have HOK := Lib.hid hok
          clear hz hrs hblk hN hW hI hs hok
          go_upto_region 11 with fail
          obtain ⟨W0, hW0⟩ : ∃ W0, wr.alloc (.cells #[.slice o0 n0 c0, .slice o1 n1 c1, .slice o2 n2 c2, .int .i64 hh, .int .i64 (B.s.first : Int), .int .i64 bg, .slice aor N capr] 36) = W0 := ⟨_, rfl⟩
          have hb0 : Below wr.heap.size wr W0 := by rw [← hW0]; exact (Below.refl _ wr).alloc (Nat.le_refl _) _
          have hbs : W0.heap.size = wr.heap.size + 1 := by rw [← hW0]; exact World.size_alloc _ _
          obtain ⟨bf, hbf⟩ : ∃ bf, wr.heap.size = bf := ⟨_, rfl⟩
          obtain ⟨hz, hrs, hN⟩ := HZ.out
          have hzb : Bz W0 bf B.s := by rw [← hW0, ← hbf]; exact hz
          rw [hW0]
          rw [hbf] at hb0 hbs ⊢
          have hrow := row_turn hrs (Turn.ofBelow (F := []) hb0 (Nat.le_of_eq hbf)) (fun _ _ => by simp)
          have hcm := (HW.out.2.1).s.comm
          obtain ⟨cm, hcme⟩ : ∃ cm, B.s.comm = cm := ⟨_, rfl⟩
          rw [hcme] at hrow
          have k6' : W0.cell? ⟨bb', 6, none⟩ = some (.slice aor N capr) := (hb0.cell (p := ⟨bb', 6, none⟩) (show bb' < bf by have := vcell_lt k6; omega)).trans k6
          have hbA : Below W0.heap.size W0 (W0.alloc (.cells #[] 82)) := (Below.refl _ W0).alloc (Nat.le_refl _) _
          have c6 : (W0.alloc (.cells #[] 82)).cell? ⟨bb', 6, none⟩ = some (.slice aor N capr) := (hbA.cell (p := ⟨bb', 6, none⟩) (vcell_lt k6')).trans k6'
          obtain ⟨x0, x1, x2, x3, x5, xr, hzk, _, _⟩ := hzb
          have f6 := (hzk.below hbA hzk.lt).frozen 6
          have z6 : (W0.alloc (.cells #[] 82)).cell? ⟨bf, 6, none⟩ = some xr := (hzk.below hbA hzk.lt).cell 6
          have hln : (bcells cm B.s.recs).length = N * 3 := by rw [bcells_len, hN]
          have hnews : N = 0 ∨ ∃ ad, aor = some ad ∧ ∀ j u, (bcells cm B.s.recs)[j]? = some u → (W0.alloc (.cells #[] 82)).cell? (ad.add j) = some u := by
            by_cases h : N = 0
            · exact .inl h
            · right
              rcases hrow.2 with ⟨h1, h2⟩ | ⟨g, c, cur, h1, _⟩
              · omega
              · injection h1 with h1
                subst h1
                exact ⟨_, rfl, fun j u hu => (hrow.alloc _).cells rfl _ _ hu⟩
          have hone := bcells_one cm B.s.recs
          have hmade := World.ownsRow_made (e := 82) (size := 3) W0 #[] 0 (Nat.le_refl _) (Nat.zero_le _) rfl
          have HN := Lib.hid (And.intro hnews (And.intro hmade (And.intro hone hln)))
          have hk63 : N ≤ maxLen := by unfold maxLen; omega
          have hkb : N * 32 ≤ 140737488355328 := by omega
          have HH := Lib.hid (And.intro hb0 (And.intro hbs (And.intro hbf (And.intro hcme (And.intro hN (And.intro f6 (And.intro z6 (And.intro (show Bz W0 bf B.s by rw [← hW0, ← hbf]; exact hz) hlen1))))))))
          clear hnews hone hmade hrow hln hb0 hbs hW0 f6 z6 hz hrs hN hcme hcm hbA hbf hzk k6'
          go_wp2_with ((at_builtin; refine wpList_append_shown _ rfl _ _ 34 rfl W0.heap.size 82 i0 _ 3 32 Tryz.underlying34 hi0 hz0 hz1 hz2 rfl (by decide) W0.heap.size rfl HN.out.2.1 aor N _ (bcells cm B.s.recs) rfl HN.out.2.2.2 HN.out.1 HN.out.2.2.1 hk63 hkb (by simp) ?_))
          intro g7 cap7 w7 hown hg
          obtain ⟨hb0, hbs, hbf, hcme, hN, f6, z6, hzb, _⟩ := HH.out
          have eb := hg.block bf (by rw [World.size_alloc]; omega) (by intro h; injection h with h; omega)
          have k6 := (World.cell?_of_block (a := ⟨bf, 6, none⟩) eb).trans z6
          have f7 := (World.frozen?_of_block (a := ⟨bf, 6, none⟩) eb).trans f6
          obtain ⟨_, P2⟩ := hzb.fresh (Below.refl _ W0) hg hN hown
          obtain ⟨Y, hY1, hY2⟩ := hzb.fresh_in (n0 := bf) (Below.refl _ W0) hg hN hown (Nat.le_refl _) (by omega)
          subst hcme
          have HY := Lib.hid (And.intro (show Bz.in_ _ bf B.s Y from hY1) (And.intro hY2 (And.intro P2 (And.intro hb0 (And.intro hbf hbs)))))
          clear hown hg eb hb0 hbs hbf f6 z6 hzb hY1 hY2 P2 hN HZ HN HH
          go_upto_region 12 with fail
          obtain ⟨W, hWe⟩ : ∃ W, w7.setCell ⟨bf, 6, none⟩ (.slice (some ⟨g7, 0, none⟩) N cap7) = W := ⟨_, rfl⟩
          rw [hWe] at HY ⊢
          obtain ⟨hY1, hY2, P2, hb0, hbf, hbs⟩ := HY.out
          have hbW : Below wr.heap.size wr W := by
            rw [hbf]
            exact hb0.trans (P2.toBelow (fun i hi => by simp at hi; omega) (by omega))
          have hWk : Wk w W vb jb bb' tb S false st B Y := HW.out.1.keep hbW (fun x hx => ⟨hY1.1 x hx, by rw [hbf]; exact hY2 x hx⟩)
          obtain ⟨x0, x1, x2⟩ := X0.out
          have x0 := (hbW.cell (p := ⟨b, _, none⟩) (vcell_lt x0)).trans x0
          have x1 := (hbW.cell (p := ⟨b, _, none⟩) (vcell_lt x1)).trans x1
          have x2 := (hbW.cell (p := ⟨b, _, none⟩) (vcell_lt x2)).trans x2
          have hpf := perform_any o HOK.out hWk HW.out.2.1 HW.out.2.2 (by omega)
          unfold JO.val at hpf
          have HPF := Lib.hid hpf
          have HIN := Lib.hid (show Bz.in_ W bf B.s Y from hY1)
          have HIS := Lib.hid HW.out.2.1.s
          clear hpf hWk hY1 hY2 P2 hb0 hbf hbs hbW HY hWe k6 f7 X0 HBZ HW
          go_upto_region 13 with ((go_at_call 13; refine HPF.out.mono ?_; rintro e w8 ⟨jb', tb', S', br, st', B', rfl, hW8, hor⟩; have H8 := Lib.hid (And.intro hW8 hor); clear hW8 hor))
          cases br with
          | false =>
            obtain ⟨hW8, hor⟩ := H8.out
            have hor' : Inv st' B' m (1 + k + 1) ∧ B'.s = S' := by
              rcases hor with ⟨_, h1, h2, _⟩ | ⟨h, _⟩
              · exact ⟨h1, h2⟩
              · cases h
            obtain ⟨hI8, hs8⟩ := hor'
            have hk := kdown hW8
            rw [hI8.up] at hk
            have HDN := Lib.hid hk
            have HAG := Lib.hid (fun (w' : World) (h : Wk w w' vb jb' bb' tb' S' false st' B' Y) => kagrees h hs8 hI8.alen hI8.len hI8.m2 (by rw [← hs8]; exact hI8.s) hI8.small)
            have H9 := Lib.hid (And.intro hI8 hs8)
            clear hk hW8 hI8 hs8 H8 hor
            go_wp2_with (first
              | (go_at_call 14; refine HDN.out.mono ?_; rintro e w9 ⟨rfl, hW9⟩; have HA9 := Lib.hid (HAG.out _ hW9); clear hW9)
              | (go_at_call 15; refine HA9.out.mono ?_; rintro e w10 ⟨rfl, hW10⟩; have HW10 := Lib.hid hW10; clear hW10))
            go_roundw
            case rel => exact ⟨k + 1, r, jb', bb', rfl, rfl, rfl, by go_num, by omega, by omega, by omega, tb', S', st', B', HW10.out.sub (fun x hx => by cases hx), by rw [show 1 + (k + 1) = 1 + k + 1 by omega]; exact H9.out.1, H9.out.2⟩
            case measure => simp [intOf]; omega
          | true =>
            obtain ⟨hW8, hor⟩ := H8.out
            have hF : Fell st st' B B' m (1 + k + 1) := by
              rcases hor with ⟨h, _⟩ | ⟨_, h⟩
              · cases h
              · exact h
            have hk := kdown hW8
            rw [hF.down] at hk
            have HDN := Lib.hid hk
            have HF := Lib.hid hF
            clear hk hW8 hF H8 hor
            go_upto_if 110 with (first
              | (go_at_call 14; refine HDN.out.mono ?_; rintro e w9 ⟨rfl, hW9⟩; have HA9 := Lib.hid (kbroken hW9); clear hW9)
              | (go_at_call 16; refine HA9.out.mono ?_; rintro e w10 ⟨rfl, hW10⟩; have HA10 := Lib.hid (kbroken_t 0 hW10); clear hW10)
              | (go_at_call 17; refine HA10.out.mono ?_; rintro e w11 ⟨rfl, hW11⟩; have HW11 := Lib.hid hW11; clear hW11))
            go_cut [15] (fun v w' => ∃ cs, Byts w v cs ∧ (∃ eo e ec, v = .slice eo e ec) ∧ w' = w11)
            case first =>
              by_cases h0 : r < L2
              · obtain ⟨b2, off2, c2, eo, ec, e, hv, hx, hby, he, _⟩ := bytss_el (i := r) HLL.out.1 HW11.out.size (by rw [HLL.out.2]; exact h0)
                rw [HLL.out.2] at hv
                have HBY := Lib.hid hby
                injection hv with hv1 hv2 hv3
                subst hv1 hv3
                have hrI : (r : Int) < (L2 : Int) := by omega
                clear hv2 hby
                go_wp2_with fail
                go_meet
                case rel => exact ⟨_, HBY.out, ⟨_, _, _, rfl⟩, rfl⟩
              · have hrI : ¬ ((r : Int) < (L2 : Int)) := by omega
                go_wp2_with fail
                go_meet
                case rel => exact ⟨[], byts_nil w, ⟨_, _, _, rfl⟩, rfl⟩
            case rest =>
              obtain ⟨cs, hby, ⟨eo, e, ec, rfl⟩, rfl⟩ := hcut
              obtain ⟨S1, hS1, hI2⟩ := HF.out.again cs
              obtain ⟨st2, hst2⟩ : ∃ st2, st'.start cs = st2 := ⟨_, rfl⟩
              have hks := kstart HW11.out hby
              rw [hst2] at hks hI2
              have HKS := Lib.hid hks
              have hI3 : Inv st2 ⟨st2.sct 0, st2.sct 1, st2.area, S1.reopen⟩ m (1 + k + 1) := hI2.reopen
              have HI3 := Lib.hid hI3
              have HSC := Lib.hid (fun (w' : World) (h : Wk w w' vb jb' bb' tb' S' true st2 B' Y) => kscan h hI2)
              have HVO := Lib.hid (fun (w' : World) (f : Nat) (h : Wv w w' vb f st2 ⟨st2.sct 0, st2.sct 1, st2.area, S1.reopen⟩) => vopen_b h hI2)
              have hsame : sameB B.s.reopen S1.reopen = true ∨ sameB B'.s.reopen S1.reopen = true := by
                rcases hS1 with rfl | rfl
                · left; rw [reopen_twice]; exact sameB_self _
                · right; rw [reopen_twice]; exact sameB_self _
              have HSU := Lib.hid (fun (w' : World) (f : Nat) (h1 : Bz w' bf B.s) (h2 : Bz w' bb' B'.s) (h3 : Bz w' f S1.reopen) => survived_any h1 h2 h3 ⟨HIS.out.comm, by have := HIS.out.nums; omega, by have := HIS.out.nums; omega⟩ ⟨HF.out.s.comm, by have := HF.out.s.nums; omega, by have := HF.out.s.nums; omega⟩ (by have := (show S1.reopen.first + S1.reopen.recs.length ≤ 1 + k + 1 from hI3.s.nums); omega) hsame)
              have HKA := Lib.hid (fun (w' : World) (jb tb f : Nat) (h : Wk w w' vb jb f tb S1.reopen false st2 ⟨st2.sct 0, st2.sct 1, st2.area, S1.reopen⟩ []) => kagrees h rfl hI3.alen hI3.len hI3.m2 hI3.s hI3.small)
              have HKI := Lib.hid (fun (w' : World) (jb tb f : Nat) (h : Wk w w' vb jb f tb S1.reopen false st2 ⟨st2.sct 0, st2.sct 1, st2.area, S1.reopen⟩ []) => kimage h hI3)
              clear hks hI2 hI3 hS1 hst2 hby hsame
              go_upto_region 31 with (first
                | (go_at_call 18; refine HKS.out.mono ?_; rintro e w12 ⟨rfl, hW12⟩; have HZ1 := Lib.hid (hW12.kept HIN.out); have HZ2 := Lib.hid hW12.bz; have HSC2 := Lib.hid (HSC.out _ hW12); clear hW12)
                | (go_at_call 19; refine HSC2.out.mono ?_; rintro e w13 ⟨f, rfl, hV13, hb13⟩; have HZ3 := Lib.hid (HZ1.out.below hb13); have HZ4 := Lib.hid (HZ2.out.below hb13); have HVO2 := Lib.hid (HVO.out _ _ hV13); clear hV13 hb13)
                | (go_at_call 20; refine HVO2.out.mono ?_; rintro e w14 ⟨jb3, tb3, rfl, hW14, hb14⟩; have HSU2 := Lib.hid (HSU.out _ _ (HZ3.out.below hb14) (HZ4.out.below hb14) hW14.bz); have HW14 := Lib.hid hW14; clear hW14 hb14)
                | (go_at_call 21; refine HSU2.out.mono ?_; rintro e w15 ⟨rfl, hb15⟩; have HKA2 := Lib.hid (HKA.out _ _ _ _ (HW14.out.below hb15)); clear hb15)
                | (go_at_call 15; refine HKA2.out.mono ?_; rintro e w16 ⟨rfl, hW16⟩; have HKI2 := Lib.hid (HKI.out _ _ _ _ hW16); clear hW16)
                | (go_at_call 22; refine HKI2.out.mono ?_; rintro e w17 ⟨rfl, hW17⟩; have HW17 := Lib.hid hW17; clear hW17))
              obtain ⟨q, hq⟩ : ∃ q, r + 1 = q := ⟨_, rfl⟩
              rw [show (r : Int) + 1 = (q : Int) by omega]
              have hq30 : q ≤ 30 := by omega
              have HQ := Lib.hid (And.intro hq hrk)
              clear hq hrk
              by_cases h0 : q < L2
              · have hqI : (q : Int) < (L2 : Int) := by omega
                by_cases h8 : q < 8
                · have h8I : (q : Int) < 8 := by omega
                  obtain ⟨b2, off2, c2, eo9, ec9, e9, hv, hx, hby, he, hz⟩ := bytss_el (i := q) HLL.out.1 HW17.out.size (by rw [HLL.out.2]; exact h0)
                  rw [HLL.out.2] at hv
                  injection hv with hv1 hv2 hv3
                  subst hv1 hv3
                  clear hv2 hby
                  by_cases h1 : 0 < e9
                  · obtain ⟨b3, off3, u, rfl, hu, hc⟩ := hz h1
                    clear hz
                    obtain ⟨z, hz⟩ : ∃ z, u % 24 = z := ⟨_, rfl⟩
                    have eq : (u : Int) % 24 = (z : Int) := by omega
                    have eq2 : (u : Int).tmod 24 = (z : Int) := by rw [Int.tmod_eq_emod_of_nonneg (by omega)]; exact eq
                    have hq24 : z ≤ 23 := by omega
                    clear hz
                    have HLM := Lib.hid (klimit (z : Int) (by omega) HW17.out)
                    go_wp2_with ((go_at_call 12; refine HLM.out.mono ?_; rintro e w18 ⟨rfl, hW18⟩; have HW18 := Lib.hid hW18; clear hW18))
                    go_roundw
                    case rel => exact ⟨k + 1, q, jb3, f, rfl, rfl, rfl, by go_num, by omega, by omega, by have := HQ.out; omega, tb3, _, _, _, HW18.out, by rw [show 1 + (k + 1) = 1 + k + 1 by omega]; exact HI3.out.limit (by omega), rfl⟩
                    case measure => simp [intOf]; omega
                  · obtain rfl : e9 = 0 := by omega
                    clear hz h1
                    go_wp2_with fail
                    go_roundw
                    case rel => exact ⟨k + 1, q, jb3, f, rfl, rfl, rfl, by go_num, by omega, by omega, by have := HQ.out; omega, tb3, _, _, _, HW17.out, by rw [show 1 + (k + 1) = 1 + k + 1 by omega]; exact HI3.out, rfl⟩
                    case measure => simp [intOf]; omega
                · have h8I : ¬ ((q : Int) < 8) := by omega
                  go_wp2_with fail
                  go_roundw
                  case rel => exact ⟨k + 1, q, jb3, f, rfl, rfl, rfl, by go_num, by omega, by omega, by have := HQ.out; omega, tb3, _, _, _, HW17.out, by rw [show 1 + (k + 1) = 1 + k + 1 by omega]; exact HI3.out, rfl⟩
                  case measure => simp [intOf]; omega
              · have hqI : ¬ ((q : Int) < (L2 : Int)) := by omega
                go_wp2_with fail
                go_roundw
                case rel => exact ⟨k + 1, q, jb3, f, rfl, rfl, rfl, by go_num, by omega, by omega, by have := HQ.out; omega, tb3, _, _, _, HW17.out, by rw [show 1 + (k + 1) = 1 + k + 1 by omega]; exact HI3.out, rfl⟩
                case measure => simp [intOf]; omega
        · have HSZ := Lib.hid hW.size
          clear hW hI hs
          by_cases hlt2 : k < l.length
          case' pos =>
            have hk4 : ¬ (k < 30) := fun h => hlt ⟨hlt2, h⟩
          all_goals
            go_wp2_with fail
            go_ret
            exact ⟨rfl, HSZ.out⟩
end Go.Proofs.YtfdnpchbbngpjaaGreat
