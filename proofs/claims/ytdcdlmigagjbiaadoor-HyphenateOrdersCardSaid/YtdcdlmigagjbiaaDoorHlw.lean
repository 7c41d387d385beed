/- Levels walked. -/
import Derived.Test.YtdcdlmigagjbiaaDoorKh
import Derived.Deep.QuietTactic
import Derived.BigQuiet
import Derived.IntWalk
namespace Go.Proofs.YtdcdlmigagjbiaaDoor
open Go.RowKit Go.Maps
def OC (out : List Int) : Array Value := (out.map (Value.int .i64)).toArray
theorem made_OC (n : Nat) : madeCells #[Value.int .i64 0] n = OC (List.replicate n 0) := by
  apply Array.ext
  · simp [OC, madeCells]
  · intro i h1 h2
    simp [OC, madeCells, Nat.mod_one]
theorem OC_get {out : List Int} {j : Nat} {x : Int} (h : out[j]? = some x) : (OC out)[j]? = some (.int .i64 x) := by
  unfold OC
  rw [List.getElem?_toArray, List.getElem?_map, h]
  rfl
theorem OC_set (out : List Int) (j : Nat) (x : Int) : (OC out).setIfInBounds j (.int .i64 x) = OC (out.set j x) := by
  unfold OC
  rw [List.setIfInBounds_toArray, List.map_set]
theorem make_ints (n : Nat) (hn : n ≤ 1000000) (w : World) : (Instr.makeSlice 26 (.int .i64 ((n : Int) + 1)) (.int .i64 ((n : Int) + 1))).run Tryd.prog w = .ok (.slice (some ⟨w.heap.size, 0, none⟩) (n + 1) (n + 1)) (w.alloc (.cells (OC (List.replicate (n + 1) 0)) 3)) := by
  have := run_make_row' (P := Tryd.prog) 26 3 (.int .i64 0) 8 Tryd.underlying26 int_info rfl .i64 .i64 (n + 1) (by omega) (by omega) w
  rw [made_OC] at this
  exact this
theorem row_slice_n {W : World} {base : Nat} {e : TypeId} {size : Nat} {v : Value} {k : Nat} {xs : List Value} (h : W.ownsRow base e size v k xs) : ∃ ao cap, v = .slice ao k cap := by
  rcases h.2 with ⟨h1, h2⟩ | ⟨g, cap, cur, h1, _⟩
  · exact ⟨none, 0, by rw [h1, h2]⟩
  · exact ⟨_, _, h1⟩
theorem blk_row {w : World} {B g : Nat} {out : List Int} (h : Blk w g 3 (OC out)) (hB : B ≤ g) (hl : out.length ≤ 1000000) : IntRow w B (.slice (some ⟨g, 0, none⟩) out.length out.length) out := by
  refine ⟨by simp, .inr ⟨g, out.length, OC out, rfl, hB, h, Nat.le_refl _, by unfold maxLen; omega, by simp [OC], ?_⟩⟩
  show ((OC out).toList).take (out.length * 1) = _
  unfold OC
  rw [List.take_of_length_le (by simp)]
theorem Kids.drewN {w : World} {f : TF} {q : List Int} {m K : Nat} (h : Kids w f q m K) {n : Nat} : Kids (w.drewN n) f q m K := h
theorem pat_cells {w : World} {B hb eb K : Nat} {eo : Option Obj} {f : TF} (HT : Trie w B hb eb eo f K) {q : List Int} {nc : TN} (hq : f q = some nc) :
    ∃ ao cap, nc.pv = .slice ao nc.ps.length cap ∧ ∀ k, k < nc.ps.length → ∃ g v, ao = some ⟨g, 0, none⟩ ∧ g < w.heap.size ∧ nc.ps.length ≤ cap ∧ cap ≤ maxLen ∧ IntRow w B v (nc.ps.getD k .zero).levels
      ∧ w.cell? ⟨g, 4 * k, none⟩ = some (.string ⟨(nc.ps.getD k .zero).letters.toArray⟩) ∧ w.cell? ⟨g, 4 * k + 1, none⟩ = some v ∧ w.cell? ⟨g, 4 * k + 2, none⟩ = some (.bool (nc.ps.getD k .zero).beg) ∧ w.cell? ⟨g, 4 * k + 3, none⟩ = some (.bool (nc.ps.getD k .zero).fin) := by
  obtain ⟨xs, hr, hc⟩ := HT.row q nc hq
  obtain ⟨ao, cap, hv⟩ := row_slice_n hr
  refine ⟨ao, cap, hv, fun k hk => ?_⟩
  obtain ⟨g, cap', hv', h1, h2, h3, h4⟩ := row_cell hr (by omega)
  rw [hv] at hv'
  injection hv' with e1 _ e3
  subst e3
  obtain ⟨v, k1, k2, k3, k4, k5⟩ := patCells_get k hc hk
  exact ⟨g, v, e1, h3, h1, h2, k3, (h4 _ (by omega)).trans k1, (h4 _ (by omega)).trans k2, (h4 _ (by omega)).trans k4, (h4 _ (by omega)).trans k5⟩
theorem trip (b f : Bool) (fr to n : Nat) (h : to < n) : ((b = false ∧ f = false) ∨ (b = false ∧ f = true ∧ to + 1 = n) ∨ (b = true ∧ fr = 0 ∧ f = false) ∨ (b = true ∧ fr = 0 ∧ f = true ∧ to + 1 = n)) ∨ ((b = true ∧ 0 < fr) ∨ (b = false ∧ f = true ∧ to + 1 < n) ∨ (b = true ∧ fr = 0 ∧ f = true ∧ to + 1 < n)) := by
  cases b <;> cases f <;> by_cases h1 : fr = 0 <;> by_cases h2 : to + 1 = n <;> simp [h1, h2] <;> omega
theorem memP_of {f : TF} {pats : List Pat} {l : List Int} {fr to : Nat} {nc : TN} (H : Holds f pats) (hC : f (path l fr (to + 1)) = some nc) (hok : ∀ P, P ∈ pats → PatOk P) {k : Nat} {P : Pat} (hk : k < nc.ps.length) (hP : nc.ps.getD k .zero = P) :
    0 < (qL P).length ∧ P.levels.length = (qL P).length + 1 ∧ qL P = path l fr (to + 1) := by
  have h1 : nc.ps = pats.filter fun P => decide (ptsI P.letters = path l fr (to + 1)) := by
    have := H (path l fr (to + 1))
    unfold contT at this
    rw [hC] at this
    exact this
  have h2 : P ∈ nc.ps := by
    rw [← hP, List.getD_eq_getElem?_getD, List.getElem?_eq_getElem hk]
    exact List.getElem_mem hk
  rw [h1, List.mem_filter, decide_eq_true_eq] at h2
  exact ⟨(hok P h2.1).1, (hok P h2.1).2, h2.2⟩
theorem psC {f : TF} {q : List Int} {nc : TN} (h : f q = some nc) : nc.ps = contT f q := by unfold contT; rw [h]
def LevPost (out : List Int) (w : World) (e : Ending) (w' : World) : Prop := ∃ v, e = .returned v ∧ Below w.heap.size w w' ∧ IntRow w' w.heap.size v out
set_option maxRecDepth 100000 in
set_option maxHeartbeats 16000000 in
theorem levels_yes {w : World} {B hb : Nat} {st : HS} (H : Hyph w B hb st) {t : List UInt8} {L : List Int} (hw : wordP (foldP t) = some L) (ht : t.length ≤ 100000000) (hok : ∀ P, P ∈ st.pats → PatOk P) :
    Calls Tryd.prog 14 #[.pointer (some ⟨hb, 0, none⟩), .string ⟨t.toArray⟩] w (LevPost (levelsP st.pats L) w) := by
  obtain ⟨_, _, hLp, hL64⟩ := wordP_some hw
  have HW := Lib.hid (fun w => word_yes hw ht ⟨hb, 0, none⟩ w)
  have hmk := make_ints L.length (by omega)
  have HOKP := Lib.hid hok
  obtain ⟨eb, eo, f, K, hT, hR, hH, hX⟩ := H
  have HT0 := Lib.hid hT
  have HR := Lib.hid hR
  have HH := Lib.hid (show Holds f st.pats from hH)
  have HLR := Lib.hid (show ∀ j, j < L.length → -9223372036854775808 ≤ L.getD j 0 ∧ L.getD j 0 ≤ 9223372036854775807 from fun j hj => by
    have h1 := okI_pts (foldP t)
    rw [(wordP_some hw).2.1] at h1
    unfold okI at h1
    rw [List.getD_eq_getElem?_getD, List.getElem?_eq_getElem hj]
    have h2 := (isPtI_iff _).1 (List.all_eq_true.1 h1 _ (List.getElem_mem hj))
    show -9223372036854775808 ≤ L[j] ∧ L[j] ≤ 9223372036854775807
    omega)
  clear hT hR hH hX hok hw
  go_enter Tryd.func14, Tryd.ntmps14
  go_wp2_with (go_at_call 35; refine (HW.out _).mono ?_; unfold WordYes; rintro e w1 ⟨ao, cap, rfl, hb1, hr1⟩)
  have HT := Lib.hid (HT0.out.below hb1)
  obtain ⟨ib, ioff, rfl, hibl, hic, hlc, hcm⟩ := ints_pos (Ints.of_owns hr1.out) hLp
  have HIC := Lib.hid hic
  have HB1 := Lib.hid hb1
  have hws1 := hb1.size
  have HO1 := Lib.hid (Blk.new w1 3 (OC (List.replicate (L.length + 1) 0)))
  have HBa := Lib.hid ((Below.refl w1.heap.size w1).alloc (Nat.le_refl _) (.cells (OC (List.replicate (L.length + 1) 0)) 3))
  clear hb1 hr1 hic HT0
  obtain ⟨r0, hr01, hr02, _, _⟩ := id HR.out
  have HR0 := Lib.hid (And.intro hr01 hr02)
  clear hr01 hr02
  go_loopw [29] (fun i wr => ∃ (fr : Nat) (out : List Int), fr ≤ L.length ∧ i = .int .i64 (fr : Int) ∧ out.length = L.length + 1 ∧ Hid (Blk wr w1.heap.size 3 (OC out)) ∧ Hid (Below w1.heap.size w1 wr) ∧ Hid (LvS (C0 st.pats L fr) out)) (fun i _ => L.length - (intOf i).toNat)
  case atStart => exact ⟨0, List.replicate (L.length + 1) 0, Nat.zero_le _, rfl, by simp, HO1, HBa, Lib.hid (LvS.zero _ (fun j y h => by obtain ⟨P, _, a, ha, _⟩ := h; omega))⟩
  case round =>
    obtain ⟨fr, out, hfr, rfl, hol, HO, HB, HS⟩ := hrel
    by_cases hlt : fr < L.length
    · go_wp2_with fail
      go_loopw [9, 10] (fun nv tv wr => ∃ (to : Nat) (out : List Int) (nd : TN), fr ≤ to ∧ to ≤ L.length ∧ tv = .int .i64 (to : Int) ∧ nv = .pointer (some ⟨nd.blk, 0, none⟩) ∧ Hid (f (path L fr to) = some nd) ∧ out.length = L.length + 1 ∧ Hid (Blk wr w1.heap.size 3 (OC out)) ∧ Hid (Below w1.heap.size w1 wr) ∧ Hid (LvS (C1 st.pats L fr to) out)) (fun _ tv _ => L.length - (intOf tv).toNat)
      case atStart => exact ⟨fr, out, r0, Nat.le_refl _, hfr, rfl, by rw [HR0.out.2], Lib.hid (by rw [path_nil]; exact HR0.out.1), hol, HO, HB, Lib.hid (HS.out.congr (fun j y => (C1_start HOKP.out fr j y).symm))⟩
      case round =>
        clear HO HB HS hol
        obtain ⟨to, out, nd, hft, htl, rfl, rfl, HF, hol, HO, HB, HS⟩ := hrel
        by_cases hto : to < L.length
        · have HTr := Lib.hid (HT.out.below HB.out)
          have hcell := (HB.out.cell (p := ⟨ib, ioff + to, none⟩) hibl).trans (HIC.out to hto)
          have hps := path_snoc hft hto
          have hcz := HLR.out to hto
          obtain ⟨c, hc⟩ : ∃ c, L.getD to 0 = c := ⟨_, rfl⟩
          rw [hc] at hcell hps hcz
          have HPS := Lib.hid hps
          have HCZ := Lib.hid hcz
          clear hc hps hcz
          have c0 := (HTr.out.node _ nd HF.out).1.cell 0
          simp at c0
          cases hmb : nd.mb with
          | none =>
            rw [hmb] at c0
            have hl := fun w => Maps.look_nil (w := w) false ckey Tryd.underlying65 (z := .pointer none) (by kernel_rfl) (kkey HCZ.out)
            simp only [Bool.false_eq_true, if_false] at hl
            have HN := Lib.hid (show ∀ r, contT f (path L fr (to + 1) ++ r) = [] from fun r => contT_none (by rw [HPS.out]; exact HTr.out.none_below (HTr.out.nomap _ nd HF.out hmb c) r))
            clear hmb
            go_wp2_with fail
            go_quiet (fail)
            go_wp2_with fail
            exact ⟨⟨fr + 1, out, hlt, by go_num, hol, Lib.hid HO.out, Lib.hid (below_drewN HB.out _), Lib.hid (HS.out.congr (C1_break HH.out fr to hft HN.out))⟩, by simp [intOf]; omega⟩
          | some m =>
            rw [hmb] at c0
            have hl := fun n => ((HTr.out.map _ nd m HF.out hmb).1.drewN (n := n)).look HCZ.out
            cases hch : f (path L fr to ++ [c]) with
            | none =>
              simp only [kidP_none hch] at hl
              have HN := Lib.hid (show ∀ r, contT f (path L fr (to + 1) ++ r) = [] from fun r => contT_none (by rw [HPS.out]; exact HTr.out.none_below hch r))
              clear hmb hch
              go_wp2_with fail
              go_quiet (fail)
              go_wp2_with fail
              exact ⟨⟨fr + 1, out, hlt, by go_num, hol, Lib.hid HO.out, Lib.hid (below_drewN HB.out _), Lib.hid (HS.out.congr (C1_break HH.out fr to hft HN.out))⟩, by simp [intOf]; omega⟩
            | some nc =>
              simp only [kidP_some hch] at hl
              go_wp2_with fail
              go_quiet (fail)
              have HC := Lib.hid (show f (path L fr (to + 1)) = some nc from by rw [HPS.out]; exact hch)
              obtain ⟨pao, pcap, hpv, hpc⟩ := pat_cells HT.out HC.out
              have HPC := Lib.hid hpc
              clear hpc
              have HBq := Lib.hid (below_drewN HB.out nq)
              have HOq := Lib.hid (HO.out.drewN nq)
              have c1 := ((HT.out.below HBq.out).node _ nc HC.out).1.cell 1
              simp at c1
              rw [hpv] at c1
              have HSq := Lib.hid (HS.out.congr (fun j y => (C2_start (pats := st.pats) (l := L) fr to nc.ps j y).symm))
              clear hl hmb hch HO HS HB c0 HTr hcell hpv
              go_wp2_with fail
              go_loopw [62] (fun i wr => ∃ (k : Nat) (out : List Int), k ≤ nc.ps.length ∧ i = .int .i64 (k : Int) ∧ out.length = L.length + 1 ∧ Hid (Blk wr w1.heap.size 3 (OC out)) ∧ Hid (Below w1.heap.size w1 wr) ∧ Hid (LvS (C2 st.pats L fr to nc.ps k) out)) (fun i _ => nc.ps.length - (intOf i).toNat)
              case atStart => exact ⟨0, out, Nat.zero_le _, rfl, hol, HOq, HBq, HSq⟩
              case round =>
                clear HOq HSq HBq hol c1
                obtain ⟨k, out, hk, rfl, hol, HO, HB, HS⟩ := hrel
                by_cases hkl : k < nc.ps.length
                · obtain ⟨pg, pv, rfl, hpg, hpl, hpm, hiv, q0, q1, q2, q3⟩ := HPC.out k hkl
                  obtain ⟨P, hP⟩ : ∃ P, nc.ps.getD k .zero = P := ⟨_, rfl⟩
                  rw [hP] at hiv q0 q2 q3
                  obtain ⟨hok1, hok2, hq⟩ := memP_of HH.out HC.out HOKP.out hkl hP
                  have hPlen : (qL P).length = to + 1 - fr := by rw [hq, path_len (by omega) (by omega)]
                  obtain ⟨vao, vcap, hvs⟩ := row_slice_n hiv
                  obtain rfl := hvs
                  obtain ⟨vb, vo, rfl, hvlt, hvc, hvl, hvm⟩ := ints_pos (Ints.of_owns hiv) (by omega)
                  have HVC := Lib.hid hvc
                  have hkb := Nat.le_trans hpl hpm
                  unfold maxLen at hkb
                  have hmt := match_of (l := L) (P := P) (fr := fr) (to := to + 1) (by omega) hto hq
                  have q0 := (HB.out.cell (p := ⟨pg, 4 * k, none⟩) hpg).trans q0
                  have q1 := (HB.out.cell (p := ⟨pg, 4 * k + 1, none⟩) hpg).trans q1
                  have q2 := (HB.out.cell (p := ⟨pg, 4 * k + 2, none⟩) hpg).trans q2
                  have q3 := (HB.out.cell (p := ⟨pg, 4 * k + 3, none⟩) hpg).trans q3
                  have HP := Lib.hid hP
                  have HMT := Lib.hid hmt
                  have HOK2 := Lib.hid hok2
                  have HPl := Lib.hid hPlen
                  clear hok2 hvc hiv hmt hP hq hPlen hok1
                  obtain ⟨b, hbg⟩ : ∃ b, P.beg = b := ⟨_, rfl⟩
                  obtain ⟨fi, hfn⟩ : ∃ b, P.fin = b := ⟨_, rfl⟩
                  rw [Nat.mul_comm 4 k] at q0 q1 q2 q3
                  rw [hbg] at q2
                  rw [hfn] at q3
                  obtain ⟨V, hV⟩ : ∃ V, V = wr.alloc (.cells #[.string ⟨P.letters.toArray⟩, .slice (some ⟨vb, vo, none⟩) P.levels.length vcap, .bool b, .bool fi] 33) := ⟨_, rfl⟩
                  have HBz := Lib.hid (show Below w1.heap.size w1 V from by rw [hV]; exact HB.out.alloc HB.out.size _)
                  have HOz := Lib.hid (show Blk V w1.heap.size 3 (OC out) from by rw [hV]; exact HO.out.alloc _)
                  have HMT2 := Lib.hid (show matchB L P fr = ((!b || decide (fr = 0)) && (!fi || decide (to + 1 = L.length))) from by rw [← hbg, ← hfn]; exact HMT.out)
                  clear HMT HO HB
                  rcases trip b fi fr to L.length hto with (h | h | h | h) | (h | h | h)
                  rotate_left 4
                  · obtain ⟨rfl, hf⟩ := h
                    have hmf := Lib.hid (show matchB L P fr = false from by rw [HMT2.out]; simp; omega)
                    go_wp2_with fail
                    rw [← hV]
                    exact ⟨⟨k + 1, out, hkl, by go_num, hol, HOz, HBz, Lib.hid (HS.out.congr (fun j y => (C2_skip fr to hkl (by rw [HP.out]; exact hmf.out) j y).symm))⟩, by simp [intOf]; omega⟩
                  · obtain ⟨rfl, rfl, hf⟩ := h
                    have hmf := Lib.hid (show matchB L P fr = false from by rw [HMT2.out]; simp; omega)
                    go_wp2_with fail
                    rw [← hV]
                    exact ⟨⟨k + 1, out, hkl, by go_num, hol, HOz, HBz, Lib.hid (HS.out.congr (fun j y => (C2_skip fr to hkl (by rw [HP.out]; exact hmf.out) j y).symm))⟩, by simp [intOf]; omega⟩
                  · obtain ⟨rfl, hz, rfl, hf⟩ := h
                    have hmf := Lib.hid (show matchB L P fr = false from by rw [HMT2.out]; simp; omega)
                    go_wp2_with fail
                    rw [← hV]
                    exact ⟨⟨k + 1, out, hkl, by go_num, hol, HOz, HBz, Lib.hid (HS.out.congr (fun j y => (C2_skip fr to hkl (by rw [HP.out]; exact hmf.out) j y).symm))⟩, by simp [intOf]; omega⟩
                  · obtain ⟨rfl, rfl⟩ := h
                    have hmf := Lib.hid (show matchB L P fr = true from by rw [HMT2.out]; simp; try omega)
                    go_wp2_with fail
                    rw [← hV]
                    go_loopw [86] (fun i wr => ∃ (j : Nat) (out : List Int), j ≤ P.levels.length ∧ i = .int .i64 (j : Int) ∧ out.length = L.length + 1 ∧ Hid (Blk wr w1.heap.size 3 (OC out)) ∧ Hid (Below w1.heap.size w1 wr) ∧ Hid (LvS (C3 st.pats L fr to nc.ps k P j) out)) (fun i _ => P.levels.length - (intOf i).toNat)
                    case atStart => exact ⟨0, out, Nat.zero_le _, rfl, hol, HOz, HBz, Lib.hid (HS.out.congr (fun j y => (C3_start fr to nc.ps k P j y).symm))⟩
                    case round =>
                      clear HOz HBz HS hol hV
                      obtain ⟨j, out, hj, rfl, hol, HO, HB, HS⟩ := hrel
                      by_cases hjl : j < P.levels.length
                      · have hfj : fr + j < L.length + 1 := by have h1 := HOK2.out; have h2 := HPl.out; omega
                        have hl1 := (HB.out.cell (p := ⟨vb, vo + j, none⟩) hvlt).trans (HVC.out j hjl)
                        obtain ⟨x, hx⟩ : ∃ x, P.levels.getD j 0 = x := ⟨_, rfl⟩
                        have hx2 : P.levels[j]? = some x := by rw [← hx, List.getD_eq_getElem?_getD, List.getElem?_eq_getElem hjl]; rfl
                        rw [hx] at hl1
                        obtain ⟨y, hy⟩ : ∃ y, out[fr + j]? = some y := ⟨_, List.getElem?_eq_getElem (by omega)⟩
                        have ho1 := (HO.out.cell (fr + j)).trans (OC_get hy)
                        have ho2 := HO.out.frozen (fr + j)
                        have HX2 := Lib.hid hx2
                        have HY := Lib.hid hy
                        have HOs := HO.out.set_ (fr + j) (.int .i64 (max y x))
                        rw [OC_set] at HOs
                        have HOs := Lib.hid HOs
                        have HBs := Lib.hid (HB.out.setCell (p := ⟨w1.heap.size, fr + j, none⟩) (Nat.le_refl _) (.int .i64 (max y x)))
                        clear hx hx2 hy
                        go_wp2_with fail
                        exact ⟨⟨j + 1, out.set (fr + j) (max y x), hjl, by go_num, by simp [hol], HOs, HBs, Lib.hid (HS.out.step HY.out x (C3_step fr to nc.ps k P j x HX2.out))⟩, by simp [intOf]; omega⟩
                      · have hje : j = P.levels.length := by omega
                        subst hje
                        go_wp2_with fail
                        exact ⟨⟨k + 1, out, hkl, by go_num, hol, HO, HB, Lib.hid (HS.out.congr (C3_end fr to hkl HP.out hmf.out))⟩, by simp [intOf]; omega⟩
                  · obtain ⟨rfl, rfl, hf⟩ := h
                    have hmf := Lib.hid (show matchB L P fr = true from by rw [HMT2.out]; simp; try omega)
                    go_wp2_with fail
                    rw [← hV]
                    go_loopw [86] (fun i wr => ∃ (j : Nat) (out : List Int), j ≤ P.levels.length ∧ i = .int .i64 (j : Int) ∧ out.length = L.length + 1 ∧ Hid (Blk wr w1.heap.size 3 (OC out)) ∧ Hid (Below w1.heap.size w1 wr) ∧ Hid (LvS (C3 st.pats L fr to nc.ps k P j) out)) (fun i _ => P.levels.length - (intOf i).toNat)
                    case atStart => exact ⟨0, out, Nat.zero_le _, rfl, hol, HOz, HBz, Lib.hid (HS.out.congr (fun j y => (C3_start fr to nc.ps k P j y).symm))⟩
                    case round =>
                      clear HOz HBz HS hol hV
                      obtain ⟨j, out, hj, rfl, hol, HO, HB, HS⟩ := hrel
                      by_cases hjl : j < P.levels.length
                      · have hfj : fr + j < L.length + 1 := by have h1 := HOK2.out; have h2 := HPl.out; omega
                        have hl1 := (HB.out.cell (p := ⟨vb, vo + j, none⟩) hvlt).trans (HVC.out j hjl)
                        obtain ⟨x, hx⟩ : ∃ x, P.levels.getD j 0 = x := ⟨_, rfl⟩
                        have hx2 : P.levels[j]? = some x := by rw [← hx, List.getD_eq_getElem?_getD, List.getElem?_eq_getElem hjl]; rfl
                        rw [hx] at hl1
                        obtain ⟨y, hy⟩ : ∃ y, out[fr + j]? = some y := ⟨_, List.getElem?_eq_getElem (by omega)⟩
                        have ho1 := (HO.out.cell (fr + j)).trans (OC_get hy)
                        have ho2 := HO.out.frozen (fr + j)
                        have HX2 := Lib.hid hx2
                        have HY := Lib.hid hy
                        have HOs := HO.out.set_ (fr + j) (.int .i64 (max y x))
                        rw [OC_set] at HOs
                        have HOs := Lib.hid HOs
                        have HBs := Lib.hid (HB.out.setCell (p := ⟨w1.heap.size, fr + j, none⟩) (Nat.le_refl _) (.int .i64 (max y x)))
                        clear hx hx2 hy
                        go_wp2_with fail
                        exact ⟨⟨j + 1, out.set (fr + j) (max y x), hjl, by go_num, by simp [hol], HOs, HBs, Lib.hid (HS.out.step HY.out x (C3_step fr to nc.ps k P j x HX2.out))⟩, by simp [intOf]; omega⟩
                      · have hje : j = P.levels.length := by omega
                        subst hje
                        go_wp2_with fail
                        exact ⟨⟨k + 1, out, hkl, by go_num, hol, HO, HB, Lib.hid (HS.out.congr (C3_end fr to hkl HP.out hmf.out))⟩, by simp [intOf]; omega⟩
                  · obtain ⟨rfl, hz, rfl⟩ := h
                    have hmf := Lib.hid (show matchB L P fr = true from by rw [HMT2.out]; simp; try omega)
                    go_wp2_with fail
                    have HZ := Lib.hid hz; clear hz
                    rw [← hV]
                    go_loopw [86] (fun i wr => ∃ (j : Nat) (out : List Int), j ≤ P.levels.length ∧ i = .int .i64 (j : Int) ∧ out.length = L.length + 1 ∧ Hid (Blk wr w1.heap.size 3 (OC out)) ∧ Hid (Below w1.heap.size w1 wr) ∧ Hid (LvS (C3 st.pats L fr to nc.ps k P j) out)) (fun i _ => P.levels.length - (intOf i).toNat)
                    case atStart => exact ⟨0, out, Nat.zero_le _, rfl, hol, HOz, HBz, Lib.hid (HS.out.congr (fun j y => (C3_start fr to nc.ps k P j y).symm))⟩
                    case round =>
                      clear HOz HBz HS hol hV
                      obtain ⟨j, out, hj, rfl, hol, HO, HB, HS⟩ := hrel
                      by_cases hjl : j < P.levels.length
                      · have hfj : fr + j < L.length + 1 := by have h1 := HOK2.out; have h2 := HPl.out; omega
                        have hl1 := (HB.out.cell (p := ⟨vb, vo + j, none⟩) hvlt).trans (HVC.out j hjl)
                        obtain ⟨x, hx⟩ : ∃ x, P.levels.getD j 0 = x := ⟨_, rfl⟩
                        have hx2 : P.levels[j]? = some x := by rw [← hx, List.getD_eq_getElem?_getD, List.getElem?_eq_getElem hjl]; rfl
                        rw [hx] at hl1
                        obtain ⟨y, hy⟩ : ∃ y, out[fr + j]? = some y := ⟨_, List.getElem?_eq_getElem (by omega)⟩
                        have ho1 := (HO.out.cell (fr + j)).trans (OC_get hy)
                        have ho2 := HO.out.frozen (fr + j)
                        have HX2 := Lib.hid hx2
                        have HY := Lib.hid hy
                        have HOs := HO.out.set_ (fr + j) (.int .i64 (max y x))
                        rw [OC_set] at HOs
                        have HOs := Lib.hid HOs
                        have HBs := Lib.hid (HB.out.setCell (p := ⟨w1.heap.size, fr + j, none⟩) (Nat.le_refl _) (.int .i64 (max y x)))
                        clear hx hx2 hy
                        go_wp2_with fail
                        exact ⟨⟨j + 1, out.set (fr + j) (max y x), hjl, by go_num, by simp [hol], HOs, HBs, Lib.hid (HS.out.step HY.out x (C3_step fr to nc.ps k P j x HX2.out))⟩, by simp [intOf]; omega⟩
                      · have hje : j = P.levels.length := by omega
                        subst hje
                        go_wp2_with fail
                        exact ⟨⟨k + 1, out, hkl, by go_num, hol, HO, HB, Lib.hid (HS.out.congr (C3_end fr to hkl HP.out hmf.out))⟩, by simp [intOf]; omega⟩
                  · obtain ⟨rfl, hz, rfl, hf⟩ := h
                    have hmf := Lib.hid (show matchB L P fr = true from by rw [HMT2.out]; simp; try omega)
                    go_wp2_with fail
                    have HZ := Lib.hid hz; clear hz
                    rw [← hV]
                    go_loopw [86] (fun i wr => ∃ (j : Nat) (out : List Int), j ≤ P.levels.length ∧ i = .int .i64 (j : Int) ∧ out.length = L.length + 1 ∧ Hid (Blk wr w1.heap.size 3 (OC out)) ∧ Hid (Below w1.heap.size w1 wr) ∧ Hid (LvS (C3 st.pats L fr to nc.ps k P j) out)) (fun i _ => P.levels.length - (intOf i).toNat)
                    case atStart => exact ⟨0, out, Nat.zero_le _, rfl, hol, HOz, HBz, Lib.hid (HS.out.congr (fun j y => (C3_start fr to nc.ps k P j y).symm))⟩
                    case round =>
                      clear HOz HBz HS hol hV
                      obtain ⟨j, out, hj, rfl, hol, HO, HB, HS⟩ := hrel
                      by_cases hjl : j < P.levels.length
                      · have hfj : fr + j < L.length + 1 := by have h1 := HOK2.out; have h2 := HPl.out; omega
                        have hl1 := (HB.out.cell (p := ⟨vb, vo + j, none⟩) hvlt).trans (HVC.out j hjl)
                        obtain ⟨x, hx⟩ : ∃ x, P.levels.getD j 0 = x := ⟨_, rfl⟩
                        have hx2 : P.levels[j]? = some x := by rw [← hx, List.getD_eq_getElem?_getD, List.getElem?_eq_getElem hjl]; rfl
                        rw [hx] at hl1
                        obtain ⟨y, hy⟩ : ∃ y, out[fr + j]? = some y := ⟨_, List.getElem?_eq_getElem (by omega)⟩
                        have ho1 := (HO.out.cell (fr + j)).trans (OC_get hy)
                        have ho2 := HO.out.frozen (fr + j)
                        have HX2 := Lib.hid hx2
                        have HY := Lib.hid hy
                        have HOs := HO.out.set_ (fr + j) (.int .i64 (max y x))
                        rw [OC_set] at HOs
                        have HOs := Lib.hid HOs
                        have HBs := Lib.hid (HB.out.setCell (p := ⟨w1.heap.size, fr + j, none⟩) (Nat.le_refl _) (.int .i64 (max y x)))
                        clear hx hx2 hy
                        go_wp2_with fail
                        exact ⟨⟨j + 1, out.set (fr + j) (max y x), hjl, by go_num, by simp [hol], HOs, HBs, Lib.hid (HS.out.step HY.out x (C3_step fr to nc.ps k P j x HX2.out))⟩, by simp [intOf]; omega⟩
                      · have hje : j = P.levels.length := by omega
                        subst hje
                        go_wp2_with fail
                        exact ⟨⟨k + 1, out, hkl, by go_num, hol, HO, HB, Lib.hid (HS.out.congr (C3_end fr to hkl HP.out hmf.out))⟩, by simp [intOf]; omega⟩
                · have hke : k = nc.ps.length := by omega
                  subst hke
                  go_wp2_with fail
                  exact ⟨⟨to + 1, out, nc, by omega, hto, by go_num, rfl, HC, hol, HO, HB, Lib.hid (HS.out.congr (C2_end HH.out fr to hft hto (psC HC.out)))⟩, by simp [intOf]; omega⟩
        · have hte : to = L.length := by omega
          subst hte
          go_wp2_with fail
          exact ⟨⟨fr + 1, out, hlt, by go_num, hol, HO, HB, Lib.hid (HS.out.congr (C1_full fr))⟩, by simp [intOf]; omega⟩
    · have hfe : fr = L.length := by omega
      subst hfe
      go_wp2_with fail
      have he := levelsP_uniq (HS.out.congr (C0_all HOKP.out)) hol
      have hrow := blk_row HO.out hws1 (by omega)
      rw [hol] at hrow
      refine bodyPost_ret (v := .slice (some ⟨w1.heap.size, 0, none⟩) (L.length + 1) (L.length + 1)) (by simp [results, Tryd.f14, go_sem]) rfl ⟨_, rfl, HB1.out.trans (HB.out.mono hws1), by rw [← he]; exact hrow⟩
end Go.Proofs.YtdcdlmigagjbiaaDoor
