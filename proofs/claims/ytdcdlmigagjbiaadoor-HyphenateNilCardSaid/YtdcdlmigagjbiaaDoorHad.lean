/- The trie's add walked. -/
import Derived.Test.YtdcdlmigagjbiaaDoorHct
import Derived.Test.YtdcdlmigagjbiaaDoorHlt
import Derived.Deep.RegionHeld3
import Derived.Carry
import Derived.Deep.AppendLies
namespace Go.Proofs.YtdcdlmigagjbiaaDoor
open Go.RowKit Go.Maps

theorem ckey : Keyed Tryd.prog 3 := int_keyed Tryd.underlying3
def kidP (f : TF) (q : List Int) : Value := match f q with | some n => .pointer (some ⟨n.blk, 0, none⟩) | none => .pointer none
theorem kidP_some {f : TF} {q : List Int} {n : TN} (h : f q = some n) : kidP f q = .pointer (some ⟨n.blk, 0, none⟩) := by unfold kidP; rw [h]
theorem kidP_none {f : TF} {q : List Int} (h : f q = none) : kidP f q = .pointer none := by unfold kidP; rw [h]
theorem kkey {c : Int} (hc : -9223372036854775808 ≤ c ∧ c ≤ 9223372036854775807) : keyOf Tryd.prog 3 (.int .i64 c) = some (kI c) := keyOf_int_mk Tryd.underlying3 (WalkArith.wf_i64 (by omega))
def unheld : DataW Value → Value | .held v => v | _ => .pointer none
theorem held_inj {a b : Value} (h : (DataW.held a : DataW Value) = .held b) : a = b := congrArg unheld h
section
variable {w w' : World} {B hb eb K : Nat} {eo : Option Obj} {f : TF}
/-- a child is looked up -/
theorem Kids.look {q : List Int} {m : Nat} (h : Kids w f q m K) {c : Int} (hc : -9223372036854775808 ≤ c ∧ c ≤ 9223372036854775807) :
    (Instr.lookup 65 (.map (some m)) (.int .i64 c) false).run Tryd.prog w = .ok (kidP f (q ++ [c])) w := by
  obtain ⟨k, D, ho, hk, hD⟩ := h
  obtain ⟨v, ps, hrun, hv⟩ := ho.lookup ckey Tryd.underlying65 (z := .pointer none) (by kernel_rfl) (zd := .held (.pointer none)) (zp := []) rfl (kkey hc)
  have he : DataW.held v = D.atKey (kI c) (.held (.pointer none)) := by
    have := congrArg Prod.fst (Option.some.inj hv)
    exact this
  have hv2 : v = kidP f (q ++ [c]) := by
    cases hf : f (q ++ [c]) with
    | some n' =>
      rw [(hD c).2 n' hf] at he
      exact (held_inj he).trans (kidP_some hf).symm
    | none =>
      have hh := (hD c).1
      rw [hf] at hh
      rw [Maps.atKey_of_not_has hh] at he
      exact (held_inj he).trans (kidP_none hf).symm
  rw [← hv2]
  exact hrun
end
section
variable {w w' : World} {B hb eb K : Nat} {eo : Option Obj} {f : TF}
/-- what is known where a child is to be made -/
theorem Trie.kidstep (h : Trie w B hb eb eo f K) {q : List Int} {n : TN} {m : Nat} {c : Int} {nb : Nat} (hq : f q = some n) (hnb : n.blk = nb) (hm : n.mb = some m) (hc : f (q ++ [c]) = none) (hB : B ≤ w.heap.size) (hcr : -9223372036854775808 ≤ c ∧ c ≤ 9223372036854775807) :
    ∃ (kk : Nat) (D : DataW Value), kk ≤ K ∧ (w.alloc (.cells #[.map none, .slice none 0 0] 68)).ownsMap (H := Value) Tryd.prog 3 rawE m kk D ∧ w.cell? ⟨nb, 0, none⟩ = some (.map (some m)) ∧ (w.alloc (.cells #[.map none, .slice none 0 0] 68)).cell? ⟨nb, 0, none⟩ = some (.map (some m)) ∧
      (Instr.lookup 65 (.map (some m)) (.int .i64 c) false).run Tryd.prog w = .ok (.pointer none) w ∧
      ∀ w2, w2.ownsMap (H := Value) Tryd.prog 3 rawE m (kk + 1) (D.put (kI c) (.held (.pointer (some ⟨w.heap.size, 0, none⟩)))) → (w.alloc (.cells #[.map none, .slice none 0 0] 68)).mapTurned w2 m →
        Hid (Trie w2 B hb eb eo (updT f (q ++ [c]) (newTN w.heap.size)) (K + 1)) ∧ w2.cell? ⟨nb, 0, none⟩ = some (.map (some m)) ∧
        (Instr.lookup 65 (.map (some m)) (.int .i64 c) false).run Tryd.prog w2 = .ok (.pointer (some ⟨w.heap.size, 0, none⟩)) w2 ∧ Hid (Turn [m] w w2) := by
  subst hnb
  obtain ⟨hk, hBm, hne⟩ := h.map q n m hq hm
  have hnode := (h.node q n hq).1
  have e0 : n.blk ≠ m := by
    intro e
    exact h.blk_map hq (by rw [e]; exact hk.mapOf)
  have hl := hk.look hcr
  rw [kidP_none hc] at hl
  obtain ⟨kk, D, ho, hkK, hD⟩ := hk
  have c0 := hnode.cell 0
  simp [hm] at c0
  have c1 := (hnode.alloc (.cells #[.map none, .slice none 0 0] 68)).cell 0
  simp [hm] at c1
  refine ⟨kk, D, hkK, ho.alloc _, c0, c1, hl, fun w2 h2 ht => ?_⟩
  have T := h.newkid hq hm hc hB hkK hD ho.isMap h2 ht
  have hq2 : updT f (q ++ [c]) (newTN w.heap.size) q = some n := (updT_other _ _ (by simp)).trans hq
  have c2 := (T.node q n hq2).1.cell 0
  simp [hm] at c2
  have l2 := (T.map q n m hq2 hm).1.look hcr
  rw [kidP_some (updT_same _ _ _)] at l2
  exact ⟨Lib.hid T, c2, l2, Lib.hid (((Turn.refl [m] w).alloc (.cells #[.map none, .slice none 0 0] 68)).trans (mapTurned_turn ht) (fun i hi => .inl hi))⟩
/-- .. where the node has no map yet -/
theorem Trie.mapstep (h : Trie w B hb eb eo f K) {q : List Int} {n : TN} {c : Int} (hq : f q = some n) (hm : n.mb = none) (hB : B ≤ w.heap.size) (W : World) (hW : (w.alloc (.map #[] 0)).setCell ⟨n.blk, 0, none⟩ (.map (some w.heap.size)) = W) :
    Trie W B hb eb eo (updT f q { n with mb := some w.heap.size }) K ∧ (w.alloc (.map #[] 0)).frozen? ⟨n.blk, 0, none⟩ = false ∧ (w.alloc (.map #[] 0)).cell? ⟨n.blk, 0, none⟩ = some (.map none) ∧ updT f q { n with mb := some w.heap.size } q = some { n with mb := some w.heap.size } ∧ updT f q { n with mb := some w.heap.size } (q ++ [c]) = none ∧
      W.heap.size = w.heap.size + 1 ∧ Turn [n.blk] w W := by
  subst hW
  have cz := ((h.node q n hq).1.alloc (.map #[] 0)).cell 0
  simp [hm] at cz
  exact ⟨h.setmap hq hm hB, ((h.node q n hq).1.alloc _).frozen 0, cz, updT_same _ _ _, (updT_other _ _ (by intro e; have := congrArg List.length e; simp at this)).trans (h.nomap q n hq hm c), by simp, ((Turn.refl _ _).alloc _).setCell (.inl (by simp)) _⟩
end
theorem cells_far (w : World) (t : TypeId) : ¬ CellsOf w w.heap.size t := fun ⟨_, _, hh⟩ => by
  rw [Array.getElem?_eq_none (Nat.le_refl _)] at hh
  cases hh
theorem row_base {w : World} {base : Nat} {e : TypeId} {size n : Nat} {v : Value} {xs : List Value} (h : w.ownsRow base e size v n xs) : ∀ g, v.ownBlock = some g → base ≤ g := by
  intro g hg
  rcases h.2 with ⟨rfl, _⟩ | ⟨g', cap, cur, rfl, hb, _⟩
  · simp [Value.ownBlock] at hg
  · simp [Value.ownBlock] at hg
    subst hg
    exact hb
/-- what add leaves -/
def AddPost (B hb eb K : Nat) (eo : Option Obj) (f : TF) (rest : List Value) (typ : TypeId) (L : List Int) (P : Pat) (w : World) (e : Ending) (w' : World) : Prop :=
  e = .returned (.tuple #[]) ∧ Below B w w' ∧ ∃ f', Trie w' B hb eb eo f' (K + L.length) ∧ RootOf f' hb rest typ ∧ ∀ q, contT f' q = contT f q ++ (if q = L then [P] else [])
theorem addPost_mk {B hb eb K : Nat} {eo : Option Obj} {f f' : TF} {rest : List Value} {typ : TypeId} {L : List Int} {P : Pat} {w w' : World} (h1 : Below B w w') (h2 : Trie w' B hb eb eo f' (K + L.length)) (h3 : RootOf f' hb rest typ)
    (h4 : ∀ q, contT f' q = contT f q ++ (if q = L then [P] else [])) : AddPost B hb eb K eo f rest typ L P w (.returned (.tuple #[])) w' := ⟨rfl, h1, f', h2, h3, h4⟩
def patV (P : Pat) (pv : Value) : Value := .agg #[.string ⟨P.letters.toArray⟩, pv, .bool P.beg, .bool P.fin]
theorem pat_info : (Tryd.prog.info? 33).map (fun i => (i.zero, i.size, i.bytes)) = some (some (.agg #[.string ⟨#[]⟩, .slice none 0 0, .bool false, .bool false]), 4, 48) := by kernel_rfl
set_option maxRecDepth 100000 in
set_option maxHeartbeats 1600000 in
theorem add_any {w : World} {B hb eb K : Nat} {eo : Option Obj} {f : TF} {rest : List Value} {typ : TypeId} (h : Trie w B hb eb eo f K) (hr : RootOf f hb rest typ) (L : List Int) (P : Pat) (lv pv : Value) (hL : IntRow w B lv L) (hP : IntRow w B pv P.levels)
    (hLp : ∀ c, c ∈ L → -9223372036854775808 ≤ c ∧ c ≤ 9223372036854775807) (hK : K + L.length ≤ 1000000) (hc : (contT f L).length ≤ 1000000) (hB : B ≤ w.heap.size) :
    Calls Tryd.prog 46 #[.pointer (some ⟨hb, 0, none⟩), lv, patV P pv] w (AddPost B hb eb K eo f rest typ L P w) := by
  obtain ⟨i0, hi0, hz0, hz1, hz2⟩ := info_parts pat_info
  obtain ⟨ao, cap, rfl⟩ := row_slice hL
  obtain ⟨pao, pcap, rfl⟩ := row_slice hP
  have hmm := @run_makeMap Tryd.prog
  have hen := fun (w : World) (r : Option Nat) => run_eql_map_nil w 65 _ _ r Tryd.underlying65
  unfold patV
  have H0 := Lib.hid (h.alloc (.cells #[.string ⟨P.letters.toArray⟩, (.slice pao P.levels.length pcap), .bool P.beg, .bool P.fin] 33))
  have hal : Turn [] w (w.alloc (.cells #[.string ⟨P.letters.toArray⟩, (.slice pao P.levels.length pcap), .bool P.beg, .bool P.fin] 33)) := (Turn.refl _ _).alloc _
  have HL0 := Lib.hid (hL.turn hal (fun _ hi => by cases hi))
  have HP0 := Lib.hid (hP.turn hal (fun _ hi => by cases hi))
  have HB0 := Lib.hid (Blk.new w 33 #[.string ⟨P.letters.toArray⟩, (.slice pao P.levels.length pcap), .bool P.beg, .bool P.fin])
  have HR := Lib.hid hr
  have HC := Lib.hid hc
  have HLP := Lib.hid hLp
  clear hL hP hal h hr hc hLp
  go_enter Tryd.func46, Tryd.ntmps46
  go_wp2_with fail
  go_loopw [0, 10] (fun nv i wr => ∃ (k : Nat) (f' : TF) (n : TN), k ≤ L.length ∧ i = .int .i64 (k : Int) ∧ nv = .pointer (some ⟨n.blk, 0, none⟩) ∧ Hid (Trie wr B hb eb eo f' (K + k)) ∧ Hid (f' (L.take k) = some n) ∧ Hid (RootOf f' hb rest typ) ∧ Hid (contT f' = contT f) ∧ Hid (Below B w wr) ∧ Hid (IntRow wr B (.slice ao L.length cap) L) ∧ Hid (IntRow wr B (.slice pao P.levels.length pcap) P.levels) ∧
      Hid (Blk wr w.heap.size 33 #[.string ⟨P.letters.toArray⟩, (.slice pao P.levels.length pcap), .bool P.beg, .bool P.fin])) (fun _ i _ => L.length - (intOf i).toNat)
  case atStart =>
    obtain ⟨r, hr1, hr2, _⟩ := HR.out
    exact ⟨0, f, r, Nat.zero_le _, rfl, by rw [hr2], H0, Lib.hid hr1, HR, Lib.hid rfl, Lib.hid ((Below.refl B w).alloc hB _), HL0, HP0, HB0⟩
  case round =>
    obtain ⟨k, f', n, hk, rfl, rfl, HT, HQ, HRo, HCo, HBe, HLr, HPr, HBl⟩ := hrel
    by_cases hlt : k < L.length
    · obtain ⟨g, off, cap', hcr, hsl, hcc⟩ : ∃ g off cap', cap' = cap ∧ ao = some ⟨g, off, none⟩ ∧ wr.cell? ⟨g, off + k, none⟩ = some (.int .i64 (L.getD k 0)) := by
        rcases (HLr.out.ints).open with ⟨h0, _⟩ | ⟨_, b, off, cap', hv, _, _, _, hc⟩
        · rw [h0] at hlt; cases hlt
        · injection hv with e1 _ e3
          exact ⟨b, off, cap', e3.symm, e1, hc k hlt⟩
      subst hcr hsl
      have hcz := HLP.out (L.getD k 0) (by rw [List.getD_eq_getElem?_getD, List.getElem?_eq_getElem hlt]; exact List.getElem_mem hlt)
      have HTK := Lib.hid (show L.take (k + 1) = L.take k ++ [L.getD k 0] by rw [List.getD_eq_getElem?_getD, List.getElem?_eq_getElem hlt, List.take_add_one, List.getElem?_eq_getElem hlt]; rfl)
      obtain ⟨q, hq⟩ : ∃ q, L.take k = q := ⟨_, rfl⟩
      rw [hq] at HQ HTK
      obtain ⟨c, hcd⟩ : ∃ c, L.getD k 0 = c := ⟨_, rfl⟩
      rw [hcd] at hcc hcz HTK
      have HCZ := Lib.hid hcz
      clear hq hcd hcz
      have c0 := (HT.out.node q n HQ.out).1.cell 0
      simp at c0
      have HB' := Lib.hid (show B ≤ wr.heap.size from Nat.le_trans hB HBe.out.size)
      have step : ∀ (F : List Nat) (w2 : World) (f2 : TF) (n2 : TN), Trie w2 B hb eb eo f2 (K + (k + 1)) → Turn F wr w2 → (∀ i, i ∈ F → B ≤ i ∧ ¬ CellsOf wr i 3 ∧ ¬ CellsOf wr i 33) → RootOf f2 hb rest typ → contT f2 = contT f' → f2 (q ++ [c]) = some n2 →
          ∃ (k1 : Nat) (f' : TF) (n : TN), k1 ≤ L.length ∧ Value.int .i64 ((k : Int) + 1) = .int .i64 (k1 : Int) ∧ Value.pointer (some ⟨n2.blk, 0, none⟩) = .pointer (some ⟨n.blk, 0, none⟩) ∧ Hid (Trie w2 B hb eb eo f' (K + k1)) ∧ Hid (f' (L.take k1) = some n) ∧ Hid (RootOf f' hb rest typ) ∧ Hid (contT f' = contT f) ∧ Hid (Below B w w2) ∧ Hid (IntRow w2 B (.slice (some ⟨g, off, none⟩) L.length cap') L) ∧ Hid (IntRow w2 B (.slice pao P.levels.length pcap) P.levels) ∧
            Hid (Blk w2 w.heap.size 33 #[.string ⟨P.letters.toArray⟩, (.slice pao P.levels.length pcap), .bool P.beg, .bool P.fin]) := by
        intro F w2 f2 n2 h1 h2 h3 h4 h5 h6
        refine ⟨k + 1, f2, n2, hlt, rfl, rfl, Lib.hid h1, Lib.hid (by rw [HTK.out]; exact h6), Lib.hid h4, Lib.hid (h5.trans HCo.out), Lib.hid (HBe.out.trans (h2.toBelow (fun i hi => (h3 i hi).1) HB'.out)), Lib.hid (HLr.out.turn h2 (fun i hi => (h3 i hi).2.1)), Lib.hid (HPr.out.turn h2 (fun i hi => (h3 i hi).2.1)), Lib.hid (HBl.out.turn h2 (fun hi => (h3 _ hi).2.2 HBl.out.cellsOf))⟩
      have STEP := Lib.hid step
      clear step
      cases hmb : n.mb with
      | none =>
        obtain ⟨W, hW⟩ : ∃ W, (wr.alloc (.map #[] 0)).setCell ⟨n.blk, 0, none⟩ (.map (some wr.heap.size)) = W := ⟨_, rfl⟩
        obtain ⟨t1, fz, cz, t3, t4, t5, t6⟩ := HT.out.mapstep (c := c) HQ.out hmb HB'.out W hW
        obtain ⟨kk, D, k1, k2, k3, k4, k5, k6⟩ := t1.kidstep t3 (nb := n.blk) rfl rfl t4 (by have := HB'.out; omega) HCZ.out
        have K1 := Lib.hid k1
        have K2 := Lib.hid k2
        have K6 := Lib.hid k6
        have T1 := Lib.hid t1
        have T3 := Lib.hid t3
        have T4 := Lib.hid t4
        have T5 := Lib.hid t5
        have T6 := Lib.hid t6
        have HMB := Lib.hid hmb
        rw [hmb] at c0
        clear t1 t3 t4 t5 t6 k1 k2 k6 hmb
        go_wp2_with (first
          | (at_mapUpdate; refine wpList_mapUpdate_in _ rfl _ _ _ 65 rfl 3 64 ckey Tryd.underlying65 _ wr.heap.size _ _ rfl K2.out (by have := K1.out; unfold maxLen; omega) _ _ _ rfl rfl (kkey HCZ.out) _ [] rfl ?_; intro w2 ho ht; obtain ⟨s1, s2, s3, s4⟩ := K6.out w2 ho ht; clear ho ht))
        go_roundw
        case rel =>
          have R1 : RootOf (updT f' q { n with mb := some wr.heap.size }) hb rest typ := HRo.out.upd HQ.out rfl rfl rfl
          exact STEP.out [n.blk, wr.heap.size] w2 _ (newTN W.heap.size) s1.out ((T6.out.mono (fun i hi => by rcases List.mem_cons.1 hi with rfl | hi; exact List.mem_cons_self; cases hi)).trans s4.out (fun i hi => .inr (by have e : i = wr.heap.size := (by simpa using hi); omega)))
            (fun i hi => by
              rcases List.mem_cons.1 hi with rfl | hi
              · exact ⟨(HT.out.node q n HQ.out).2.2, HT.out.blk_int HQ.out, HT.out.blk_row HQ.out⟩
              · obtain rfl : i = wr.heap.size := by simpa using hi
                exact ⟨HB'.out, cells_far wr _, cells_far wr _⟩)
            (RootOf.new R1 T4.out) ((contT_new T4.out _).trans (contT_set HQ.out _)) (updT_same _ _ _)
        case measure => simp [intOf]; omega
      | some m =>
        rw [hmb] at c0
        have HMB := Lib.hid hmb
        obtain ⟨kd, hmO, hmB⟩ : Hid (Kids wr f' q m (K + k)) ∧ Hid (MapOf wr m) ∧ Hid (B ≤ m) := ⟨Lib.hid (HT.out.map q n m HQ.out hmb).1, Lib.hid (HT.out.mb_kind HQ.out hmb), Lib.hid (HT.out.map q n m HQ.out hmb).2.1⟩
        have hl := kd.out.look HCZ.out
        cases hch : f' (q ++ [c]) with
        | some nc =>
          rw [kidP_some hch] at hl
          have HCH := Lib.hid hch
          clear hch hmb
          go_wp2_with fail
          go_roundw
          case rel => exact STEP.out [] wr _ nc (HT.out.mono (by omega)) (Turn.refl _ _) (fun i hi => by cases hi) HRo.out rfl HCH.out
          case measure => simp [intOf]; omega
        | none =>
          rw [kidP_none hch] at hl
          have HCH := Lib.hid hch
          obtain ⟨kk, D, k1, k2, k3, k4, k5, k6⟩ := HT.out.kidstep HQ.out (nb := n.blk) rfl hmb hch HB'.out HCZ.out
          have K1 := Lib.hid k1
          have K2 := Lib.hid k2
          have K6 := Lib.hid k6
          clear k1 k2 k6 hch hmb k3 k5
          go_wp2_with (first
            | (at_mapUpdate; refine wpList_mapUpdate_in _ rfl _ _ _ 65 rfl 3 64 ckey Tryd.underlying65 _ m _ _ rfl K2.out (by have := K1.out; unfold maxLen; omega) _ _ _ rfl rfl (kkey HCZ.out) _ [] rfl ?_; intro w2 ho ht; obtain ⟨s1, s2, s3, s4⟩ := K6.out w2 ho ht; clear ho ht))
          go_roundw
          case rel =>
            exact STEP.out [m] w2 _ (newTN wr.heap.size) s1.out s4.out (fun i hi => by have e : i = m := (by simpa using hi); subst e; exact ⟨hmB.out, fun hh => cells_map hh hmO.out, fun hh => cells_map hh hmO.out⟩)
              (HRo.out.new HCH.out) (contT_new HCH.out _) (updT_same _ _ _)
          case measure => simp [intOf]; omega
    · have hke : k = L.length := by omega
      subst hke
      have HQ := Lib.hid (show f' L = some n by have := HQ.out; rwa [List.take_length] at this)
      obtain ⟨xs, hrow, hpc⟩ := HT.out.row L n HQ.out
      have hn := (HT.out.node L n HQ.out).1
      have c1 := hn.cell 1
      simp at c1
      have f1 := hn.frozen 1
      have p0 := HBl.out.cell 0
      have p1 := HBl.out.cell 1
      have p2 := HBl.out.cell 2
      have p3 := HBl.out.cell 3
      simp at p0 p1 p2 p3
      have hlp : n.ps.length ≤ 1000000 := by
        have := HC.out
        rw [← HCo.out, contT_at HQ.out] at this
        exact this
      have hBw := Nat.le_trans hB HBe.out.size
      have HPC := Lib.hid hpc
      have HN := Lib.hid hn
      have hne : n.pv.ownBlock ≠ some n.blk := own_blk_ne hrow hn (by rcases (HT.out.node L n HQ.out).2.1 with e | e <;> rw [e] <;> decide)
      have hnl := hn.lt
      have ca := (hn.alloc (.cells #[.string ⟨P.letters.toArray⟩, (.slice pao P.levels.length pcap), .bool P.beg, .bool P.fin] 33)).cell 1
      have fa := (hn.alloc (.cells #[.string ⟨P.letters.toArray⟩, (.slice pao P.levels.length pcap), .bool P.beg, .bool P.fin] 33)).frozen 1
      simp at ca
      clear hpc hn
      go_wp2_with fail
      go_region_law (first
        | (refine step_append_lies _ (by rfl) _ _ _ (by rfl) B 33 i0 _ 4 48 Tryd.underlying66 hi0 hz0 hz1 hz2 rfl (by omega) n.pv n.ps.length xs (by rfl) (hrow.alloc _)
            ⟨wr.heap.size, 0, none⟩ 1 1 [.string ⟨P.letters.toArray⟩, (.slice pao P.levels.length pcap), .bool P.beg, .bool P.fin] (by rfl) (by rfl) (World.news_of_block (cs := #[.string ⟨P.letters.toArray⟩, (.slice pao P.levels.length pcap), .bool P.beg, .bool P.fin]) (t := 33) (fr := (0, 0)) (heap_alloc_new wr _)) (by simp [Value.oneCell'])
            (by omega) (by unfold maxLen; omega) (by omega) (by simp; omega) (wr.heap.size + 1) (by simp) ?_; intro g2 cap2 w2 hown hg hat hlt2; have c22 := (hg.cell_far ⟨n.blk, 1, none⟩ (by simp; omega) (Ne.symm hne)).trans ca; have f22 := (hg.frozen_far ⟨n.blk, 1, none⟩ (by simp; omega) (Ne.symm hne)).trans fa))
      all_goals
        have hcs : patCells wr B [.string ⟨P.letters.toArray⟩, (.slice pao P.levels.length pcap), .bool P.beg, .bool P.fin] [P] := ⟨rfl, HPr.out, rfl, rfl, trivial⟩
        have hg' : (wr.alloc (.cells #[.string ⟨P.letters.toArray⟩, (.slice pao P.levels.length pcap), .bool P.beg, .bool P.fin] 33)).grownBy w2 n.pv.ownBlock := ⟨hg.os, hg.tape, hg.output, hg.size, hg.block⟩
        have T := Lib.hid (HT.out.addpat HQ.out hcs HPC.out hown hg' (hat.elim (fun e => .inl e.symm) (fun e => .inr (by rw [e]; simp [Value.ownBlock]))))
        have R := Lib.hid (RootOf.upd (n' := { n with pv := .slice (some ⟨g2, 0, none⟩) (n.ps.length + 1) cap2, ps := n.ps ++ [P] }) HRo.out HQ.out rfl rfl rfl)
        have hbase : ∀ g, n.pv.ownBlock = some g → B ≤ g := row_base hrow
        have t1 : Turn (n.blk :: n.pv.ownBlock.toList) wr (w2.setCell ⟨n.blk, 1, none⟩ (.slice (some ⟨g2, 0, none⟩) (n.ps.length + 1) cap2)) :=
          (((Turn.refl _ _).alloc _).trans ((Turn.refl (n.blk :: n.pv.ownBlock.toList) _).grown hg' (fun g hg' => .inl (by rw [hg']; simp))) (fun i hi => .inl hi)).setCell (p := ⟨n.blk, 1, none⟩) (.inl List.mem_cons_self) _
        have hBe2 := Lib.hid (HBe.out.trans (t1.toBelow (fun i hi => by
          rcases List.mem_cons.1 hi with e | hi
          · rw [e]; exact (HT.out.node L n HQ.out).2.2
          · exact hbase i (by simpa using hi)) hBw))
        go_end0
        exact addPost_mk hBe2.out T.out R.out (fun q => by rw [contT_add HQ.out, HCo.out])

end Go.Proofs.YtdcdlmigagjbiaaDoor
