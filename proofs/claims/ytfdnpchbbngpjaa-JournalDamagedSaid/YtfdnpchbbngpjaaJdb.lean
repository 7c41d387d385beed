/- The law Damaged. -/
import Derived.Test.YtfdnpchbbngpjaaJda
import Derived.Test.YtfdnpchbbngpjaaJdv
namespace Go.Proofs.Ytfdnpchbbngpjaa
attribute [local go_sem ↓] Go.wp_at_zero Go.wp_at_succ
open Go.RowKit Go.Maps

section
variable {w0 w w' : World} {vb jb bb tb : Nat} {S S' : JS} {br br' : Bool} {st st' : VS} {B B' C : BS} {X Y : List (Nat × Obj)} {m c : Nat}
/-- Commit on a calm device, whether there is something to commit or not -/
theorem kcommit_all (h : Wk w0 w vb jb bb tb S false st B X) (hI : Inv st C m c) (hs : C.s = S) (hc : c + 1 ≤ 1048576) (hC : Calm st) :
    Calls Try.prog 10 #[.pointer (some ⟨jb, 0, none⟩)] w fun e w' => e = .returned (.int .i64 0) ∧ ∃ st', Wk w0 w' vb jb bb tb C.commit.s false st' B X ∧ Inv st' C.commit m (c + 1) ∧ Calm st' := by
  have hcm := hI.s.comm
  subst hs
  by_cases he : C.s.comm = C.s.recs.length
  · refine (kcommit_none h he).mono ?_
    rintro e w' ⟨rfl, hW⟩
    have e : C.commit = C := by unfold BS.commit; rw [if_pos he]
    rw [e]
    exact ⟨rfl, st, hW, hI.mono (Nat.le_succ c) hc, hC⟩
  · refine (kcommit h hI.up hI.len hI.m1 hI.m2 hI.s hc (by omega)).mono ?_
    rintro e w' ⟨L, hL, rfl, hW⟩
    have hL' : RingOK C.area C.put m L := by
      rw [hI.area] at hL
      exact hL
    have hok := hI.commit_ok hc (by omega) hL'
    have hcalm := hC.commitV L C.s.commit.hd
    have e : C.commit.s = C.s.commit := by unfold BS.commit; rw [if_neg he, header_s]
    rcases hok with ⟨a, b⟩ | ⟨a, _⟩
    · rw [a] at hW
      exact ⟨by rw [a]; rfl, _, by rw [e]; exact hW, b, hcalm.1⟩
    · exact absurd a hcalm.2
theorem kbcommit_all (h : Wk w0 w vb jb bb tb S br st B X) (hA : B.area.length = 256 * m) (hm : 1 ≤ m) (hm2 : m ≤ 64) (hS : B.s.wf (256 * m) c) (hc : c ≤ 1048576) :
    Calls Try.prog 11 #[.pointer (some ⟨bb, 0, none⟩)] w fun e w' => e = .returned (.tuple #[]) ∧ Wk w0 w' vb jb bb tb S br st B.commit X := by
  have hcm := hS.comm
  by_cases he : B.s.comm = B.s.recs.length
  · have e : B.commit = B := by unfold BS.commit; rw [if_pos he]
    rw [e]
    exact kbcommit_none h hS hc he
  · exact kbcommit h hA hm hm2 hS hc (by omega)
theorem commit_full (_hI : Inv st C m c) : C.commit.s.comm = C.commit.s.recs.length := by
  by_cases he : C.s.comm = C.s.recs.length
  · have e : C.commit = C := by unfold BS.commit; rw [if_pos he]
    rw [e]; exact he
  · have e : C.commit.s = C.s.commit := by unfold BS.commit; rw [if_neg he, header_s]
    rw [e]; rfl
theorem klast (h : Wk w0 w vb jb bb tb S br st B X) (hS : S.wf (256 * m) c) (hc : c ≤ 1048576) :
    Calls Try.prog 15 #[.pointer (some ⟨jb, 0, none⟩)] w fun e w' => e = .returned (.int .i64 S.last) ∧ Wk w0 w' vb jb bb tb S br st B X :=
  h.callL _ (fun _ _ _ _ j _ => (last_any j.j (by have := hS.nums; omega) (by have := hS.nums; omega)).mono (by rintro e w' ⟨rfl, n, rfl⟩; exact ⟨rfl, below_drewN (Below.refl _ _)⟩))
theorem Wk.barea (h : Wk w0 w vb jb bb tb S br st B X) : ∃ ao cap, w.cell? ⟨bb, 2, none⟩ = some (.slice ao B.area.length cap) := by
  obtain ⟨rv, hen, F, G, k1, k2, k3, k4, k5, k6⟩ := h
  obtain ⟨_, _, _, _, _, _, _, k, _⟩ := k2
  exact ⟨_, _, k.blk.cell 2⟩
theorem u16_cell {v : Value} {l : List Nat} (h : U16s w0 v l) {k : Nat} (hk : k < l.length) : ∃ b off cap, v = .slice (some ⟨b, off, none⟩) l.length cap ∧ l.getD k 0 < 65536 ∧ ∀ w', Below w0.heap.size w0 w' → w'.cell? ⟨b, off + k, none⟩ = some (.int .u16 (l.getD k 0 : Int)) := by
  obtain ⟨h0, ao, cap, h1, h2, h3⟩ := h
  obtain ⟨b, off, e, hlt, hc⟩ := h3 (by omega)
  subst e
  refine ⟨b, off, cap, h1, ?_, fun w' hb => (hb.cell (p := ⟨b, _, none⟩) hlt).trans (hc k hk)⟩
  rw [List.getD_eq_getElem?_getD, List.getElem?_eq_getElem hk]
  exact h0 _ (List.getElem_mem hk)
end
theorem addr_plusD (g j : Nat) : ((⟨g, 0, none⟩ : Addr).add j) = ⟨g, j, none⟩ := by
  unfold Addr.add
  split
  · rename_i h0; subst h0; rfl
  · simp
theorem B256.back {w : World} {g c : Nat} {l : List UInt8} (h : B256 w g l) : (convert 37 9 (.slice (some ⟨g, 0, none⟩) 256 c)).run Try.prog w = .ok (.string ⟨l.toArray⟩) w := by
  have hl : l.length = 256 := by obtain ⟨_, _, _, _, _, h⟩ := h; exact h
  have := run_convert_bytes_back (P := Try.prog) w 37 9 5 ⟨g, 0, none⟩ c l Try.underlying37 Try.underlying5 Try.underlying9 (fun j hj2 => by
    rw [addr_plusD g j, h.cell (by omega), List.getD_eq_getElem?_getD, List.getElem?_eq_getElem hj2]
    rfl)
  rw [hl] at this
  exact this
theorem B256.put {w : World} {g o : Nat} {l : List UInt8} (h : B256 w g l) (ho : o < 256) (y : UInt8) : B256 (w.setCell ⟨g, o, none⟩ (.int .u8 (y.toNat : Int))).drew g (l.set o y) := by
  obtain ⟨c, fr, h1, h2, h3, h4⟩ := h
  refine ⟨c.setIfInBounds o (.int .u8 (y.toNat : Int)), fr, by show (w.setCell ⟨g, o, none⟩ _).heap[g]? = _; simp [World.setCell, Array.getElem?_modify, h1], fun j hj => ?_, h3, by rw [List.length_set, h4]⟩
  by_cases e : o = j
  · subst e
    have hs := (Array.getElem?_eq_some_iff.1 (h2 o hj)).1
    rw [Array.getElem?_setIfInBounds_self_of_lt hs, getD_set_self (by omega)]
  · rw [Array.getElem?_setIfInBounds_ne e, getD_set_ne e, h2 j hj]
theorem sec_set {A : List UInt8} {m : Nat} (hA : A.length = 256 * m) {p : Nat} (hp : p < 256 * m) (y : UInt8) {k : Nat} (hk : k < m) : sec (A.set p y) k = if k = p / 256 then (sec A k).set (p % 256) y else sec A k := by
  have hW : (A.set p y).length = 256 * m := by rw [List.length_set, hA]
  apply getD_ext
  · rw [sec_length hW hk]
    split
    · rw [List.length_set, sec_length hA hk]
    · rw [sec_length hA hk]
  · intro i hi
    rw [sec_length hW hk] at hi
    rw [sec_at _ _ _ hi]
    by_cases e : k = p / 256
    · rw [if_pos e]
      by_cases e2 : i = p % 256
      · subst e2
        rw [show 256 * k + p % 256 = p by omega, getD_set_self (by omega), getD_set_self (by rw [sec_length hA hk]; omega)]
      · rw [getD_set_ne (by omega), getD_set_ne (fun h => e2 h.symm), sec_at _ _ _ hi]
    · rw [if_neg e, getD_set_ne (by omega), sec_at _ _ _ hi]
set_option maxRecDepth 100000 in
set_option maxHeartbeats 4000000 in
theorem damaged_law (a : Int) (ha : (Lit.int .u8 a).wf = true) {l : List Nat} {v : Value} {w : World} (hL : U16s w v l) (d0 d1 d2 : Nat) (hd0 : d0 < 65536) (hd1 : d1 < 65536) (hd2 : d2 < 65536) :
    Calls Try.prog 3 #[.int .u8 a, v, .agg #[.int .u16 (d0 : Int), .int .u16 (d1 : Int), .int .u16 (d2 : Int)]] w (LawPost w) := by
  obtain ⟨n, rfl, hn⟩ := u8of ha
  have hL2 := hL
  obtain ⟨_, ao, cap, rfl, hmx, _⟩ := hL2
  unfold maxLen at hmx
  have bx0 : Blk (w.alloc (.cells #[.int .u16 (d0 : Int), .int .u16 (d1 : Int), .int .u16 (d2 : Int)] 24)) w.heap.size 24 #[.int .u16 (d0 : Int), .int .u16 (d1 : Int), .int .u16 (d2 : Int)] := Blk.new _ _ _
  have hbx : Below w.heap.size w (w.alloc (.cells #[.int .u16 (d0 : Int), .int .u16 (d1 : Int), .int .u16 (d2 : Int)] 24)) := (Below.refl _ w).alloc (Nat.le_refl _) _
  obtain ⟨W0, hW0⟩ : ∃ W0, w.alloc (.cells #[.int .u16 (d0 : Int), .int .u16 (d1 : Int), .int .u16 (d2 : Int)] 24) = W0 := ⟨_, rfl⟩
  rw [hW0] at bx0 hbx
  have HL := Lib.hid (hL.below hbx)
  have HM := Lib.hid (made_any (1 + n % 10) (by omega) (by omega) W0)
  have HBX := Lib.hid (And.intro hbx bx0)
  unfold LawPost
  clear ha hbx bx0
  go_enter Try.func3, Try.ntmps3
  go_wp2_with (first
    | (go_at_call 5; refine (sectors_any n hn _).mono ?_; rintro e w1 ⟨rfl, rfl⟩)
    | (go_at_call 4; refine HM.out.mono ?_; rintro e w2 ⟨vb, jb, bb, tb, st, rfl, hW0', hI0, hC0⟩)
    | (go_at_call 6; refine (known_any _).mono ?_; rintro e w3 ⟨rfl, hb3⟩))
  have hW1 := (Wk.of hW0').below hb3
  obtain ⟨m, hm⟩ : ∃ m, 1 + n % 10 = m := ⟨_, rfl⟩
  have hm12 : 1 ≤ m ∧ m ≤ 10 := by omega
  rw [hm] at hW1 hI0
  obtain ⟨B0, hB0⟩ : ∃ B0, BS.header (BS.blank m) (JS.blank 0) = B0 := ⟨_, rfl⟩
  have hs0 : B0.s = JS.blank 0 := by rw [← hB0]; exact header_s _ _
  rw [hB0] at hW1 hI0
  obtain ⟨S0, hS0⟩ : ∃ S0, JS.blank 0 = S0 := ⟨_, rfl⟩
  have hc0 : S0.comm = 0 := by rw [← hS0]; rfl
  rw [hS0] at hW1 hs0
  have H0 := Lib.hid (And.intro hW1 (And.intro hI0 (And.intro hs0 (And.intro hC0 hc0))))
  clear hW1 hW0' hI0 hs0 hC0 hB0 hS0 hb3 HM hc0 hm hn hW0
  go_loopw [10] (fun i wr => ∃ (k : Nat) (S : JS) (B : BS), k ≤ l.length ∧ k ≤ 20 ∧ i = .int .i64 (k : Int) ∧ Wk W0 wr vb jb bb tb S false st B [] ∧ Inv st B m (1 + k) ∧ B.s = S ∧ Calm st ∧ S.comm = 0) (fun i _ => 20 - (intOf i).toNat)
  case atStart => exact ⟨0, S0, B0, Nat.zero_le _, by omega, rfl, H0.out.1, H0.out.2.1, H0.out.2.2.1, H0.out.2.2.2.1, H0.out.2.2.2.2⟩
  case round =>
    obtain ⟨k, S, B, hk, hk20, rfl, hW, hI, hs, hC, hcm⟩ := hrel
    clear H0
    have hS := hI.s
    have hA := hI.alen
    by_cases hlt : k < l.length ∧ k < 20
    · obtain ⟨hlt, hlt4⟩ := hlt
      obtain ⟨b, off, cap', hv, hd, hcell⟩ := u16_cell HL.out hlt
      injection hv with hv1 hv2 hv3
      subst hv1 hv3
      clear hv2
      obtain ⟨d, hdd⟩ : ∃ d, l.getD k 0 = d := ⟨_, rfl⟩
      rw [hdd] at hd hcell
      obtain ⟨e1, e2, e3, e4⟩ := hI.append_err (dataP d)
      rw [hs] at e1 e2 e3
      have hcm' : (S.append (256 * m) (dataP d)).2.2.comm = 0 := by
        unfold JS.append
        split
        · exact hcm
        · split
          · exact hcm
          · exact hcm
      have hfin := hI.append (by omega) (dataP d)
      obtain ⟨u, hu⟩ : ∃ u, B.append (dataP d) = u := ⟨_, rfl⟩
      rw [hu] at e1 e2 e3 e4 hfin
      have hCA := fun (w' : World) (h : Wk W0 w' vb jb bb tb S false st B []) => kappend (dataP d) h hI.len (by rw [← hs]; exact hS) (by omega)
      rw [← e1, ← e2, ← e3] at hCA
      rw [← e3] at hcm'
      have hCB := fun (w' : World) (h : Wk W0 w' vb jb bb tb u.2.2.s false st B []) => kbappend (dataP d) h hA hI.m2 hS (by omega)
      rw [hu] at hCB
      obtain ⟨n1, q, B'⟩ := u
      simp only at hCA hCB hfin hcm'
      have HF := Lib.hid (And.intro hfin (And.intro hC hcm'))
      have HCA := Lib.hid hCA
      have HCB := Lib.hid hCB
      have HK := Lib.hid hcell
      have kb := HK.out _ hW.size
      clear hI hS hA e1 e2 e3 e4 hu hCA hCB hfin hs hdd hcell hC hcm hcm'
      go_wp2_with (first
        | (go_at_call 8; refine (dataOf_any d hd _).mono ?_; rintro e w4 ⟨rfl, hb⟩; have hW := hW.below hb; clear hb; have kb := HK.out _ hW.size)
        | (go_at_call 7; refine (HCA.out _ hW).mono ?_; rintro e w5 ⟨rfl, hW⟩; have kb := HK.out _ hW.size)
        | (go_at_call 9; refine (HCB.out _ hW).mono ?_; rintro e w6 ⟨rfl, hW⟩))
      go_roundw
      case rel => exact ⟨k + 1, B'.s, B', by omega, by omega, by go_num, hW, by rw [show 1 + (k + 1) = 1 + k + 1 by omega]; exact HF.out.1, rfl, HF.out.2.1, HF.out.2.2⟩
      case measure => simp [intOf]; omega
    · have hcB : 1 + k ≤ 21 := by omega
      obtain ⟨cc, hcc⟩ : ∃ cc, 1 + k = cc := ⟨_, rfl⟩
      rw [hcc] at hI hS hcB
      have HCM := Lib.hid (fun (w' : World) (h : Wk W0 w' vb jb bb tb S false st B []) => kcommit_all h hI hs (by omega) hC)
      have HBM := Lib.hid (fun (w' : World) (st' : VS) (h : Wk W0 w' vb jb bb tb B.commit.s false st' B []) => kbcommit_all h hA hI.m1 hI.m2 hS hI.small)
      have hcf := commit_full hI
      have hrl : B.commit.s.recs = B.s.recs := by unfold BS.commit; split; rfl; rw [header_s]; rfl
      obtain ⟨N, hN⟩ : ∃ N, B.s.recs.length = N := ⟨_, rfl⟩
      have hNb : N ≤ 1048576 := by have := hS.nums; omega
      have HX := Lib.hid (And.intro hcf (And.intro hrl hN))
      clear hI hS hA hs hC hcm hcc hcf hrl hN
      by_cases hN0 : N = 0
      case' pos =>
        have dN : ((N : Int) == 0) = true := by rw [beq_iff_eq]; omega
        have dN2 : (N == 0) = true := by rw [beq_iff_eq]; omega
      case' neg =>
        have dN : ((N : Int) == 0) = false := by rw [beq_eq_false_iff_ne]; omega
        have dN2 : (N == 0) = false := by rw [beq_eq_false_iff_ne]; omega
      case pos =>
        by_cases hlt2 : k < l.length
        case' pos =>
          have hk4 : ¬ (k < 20) := fun h => hlt ⟨hlt2, h⟩
        all_goals
          go_wp2_with ((go_at_call 10; refine (HCM.out _ hW).mono ?_; rintro e w4 ⟨rfl, st1, hW1, hI1, hC1⟩; obtain ⟨ar, cr, k4, k6, _, _⟩ := hW1.book; rw [HX.out.2.2] at k6; have H1 := Lib.hid (And.intro hI1 hC1); clear hW hI1 hC1))
          go_ret
          exact ⟨rfl, HBX.out.1.trans (hW1.size.mono HBX.out.1.size)⟩
      case neg =>
        by_cases hlt2 : k < l.length
        case' pos =>
          have hk4 : ¬ (k < 20) := fun h => hlt ⟨hlt2, h⟩
        all_goals
          go_wp2_with (first
            | (go_at_call 10; refine (HCM.out _ hW).mono ?_; rintro e w4 ⟨rfl, st1, hW1, hI1, hC1⟩; obtain ⟨ar, cr, k4, k6, _, _⟩ := hW1.book; rw [HX.out.2.2] at k6; have H1 := Lib.hid (And.intro hI1 hC1); clear hW hI1 hC1)
            | (go_at_call 11; refine (HBM.out _ _ hW1).mono ?_; rintro e w5 ⟨rfl, hW2⟩; clear hW1 k4 k6))
          obtain ⟨ar, cr, k4, k6, hrow, hlb⟩ := hW2.book
          obtain ⟨aa, ca, k2⟩ := hW2.barea
          rw [H1.out.1.alen] at k2
          rw [HX.out.2.1, HX.out.2.2] at k6 hrow
          obtain ⟨q, hq⟩ : ∃ q, d0 % N = q := ⟨_, rfl⟩
          have hqN : q < N := by rw [← hq]; exact Nat.mod_lt _ (by omega)
          obtain ⟨r, hr⟩ : ∃ r, B.s.recs[q]? = some r := ⟨_, List.getElem?_eq_getElem (by rw [HX.out.2.2]; exact hqN)⟩
          obtain ⟨g, rfl, r0, r1, r2⟩ := rec_cells hrow hr hqN
          have bx5 := HBX.out.2.below hW2.size HBX.out.2.lt
          have x0 := bx5.cell 0
          simp at x0
          have t0 : (d0 : Int).tmod (N : Int) = (q : Int) := by rw [Int.tmod_eq_emod_of_nonneg (by omega), ← hq]; rfl
          have t0b : (d0 : Int) % (N : Int) = (q : Int) := by rw [← hq]; rfl
          have HQ := Lib.hid (And.intro hq hr)
          have hlg : g < w5.heap.size := (hrow.lt g rfl).2
          have lbx : w.heap.size < w5.heap.size := bx5.lt
          have FX := Lib.hid (fun (w' : World) (hb : Below w5.heap.size w5 w') => And.intro ((hb.cell (p := ⟨g, q * 3, none⟩) hlg).trans r0) (And.intro ((hb.cell (p := ⟨g, q * 3 + 1, none⟩) hlg).trans r1) (And.intro ((hb.cell (p := ⟨g, q * 3 + 2, none⟩) hlg).trans r2) (And.intro ((hb.cell (p := ⟨bb, 2, none⟩) hlb).trans k2) (And.intro ((hb.cell (p := ⟨bb, 4, none⟩) hlb).trans k4) (And.intro ((hb.cell (p := ⟨bb, 6, none⟩) hlb).trans k6) (And.intro ((hb.cell (p := ⟨w.heap.size, 1, none⟩) lbx).trans (bx5.cell 1)) ((hb.cell (p := ⟨w.heap.size, 2, none⟩) lbx).trans (bx5.cell 2)))))))))
          have HW2 := Lib.hid hW2
          clear hrow hW2 bx5 hq hr
          go_quiet (fail)
          have hb6 : Below w5.heap.size w5 (w5.drewN nq) := below_drewN (Below.refl _ _)
          obtain ⟨w6, hw6⟩ : ∃ w6, w5.drewN nq = w6 := ⟨_, rfl⟩
          rw [hw6] at hb6 ⊢
          clear hw6 r0 r1 r2 k2 k4 k6 x0
          obtain ⟨r0, r1, r2, k2, k4, k6, x1, x2⟩ := FX.out _ hb6
          have qlt : (q : Int) < (N : Int) := by omega
          obtain ⟨sz, hsz⟩ : ∃ sz, r.2.size = sz := ⟨_, rfl⟩
          have hrb := H1.out.1.s.recs_bound H1.out.1.small r (by rw [HX.out.2.1]; exact List.mem_of_getElem? HQ.out.2)
          rw [hsz] at hrb
          obtain ⟨at0, hat0⟩ : ∃ a, r.1 = a := ⟨_, rfl⟩
          rw [hat0] at r1 hrb
          have HR := Lib.hid (And.intro hsz hat0)
          obtain ⟨cmv, hcmv⟩ : ∃ b, decide (q < B.commit.s.comm) = b := ⟨_, rfl⟩
          rw [hcmv] at r2
          clear hcmv
          obtain ⟨NN, hNN⟩ : ∃ NN, 256 * m = NN := ⟨_, rfl⟩
          have hNNb : 256 ≤ NN ∧ NN ≤ 2560 := by omega
          rw [hNN] at k2
          have HNN := Lib.hid hNN
          obtain ⟨j, hj⟩ : ∃ j, d1 % (12 + sz) = j := ⟨_, rfl⟩
          have hjl : j < 12 + sz := by rw [← hj]; exact Nat.mod_lt _ (by omega)
          obtain ⟨pos, hpos⟩ : ∃ p, (at0 + (4 + j)) % NN = p := ⟨_, rfl⟩
          have hposl : pos < NN := by rw [← hpos]; exact Nat.mod_lt _ (by omega)
          have hcr : IntKind.i64.wrap ((at0 : Int) + 4) = (at0 : Int) + 4 := by rw [IntKind.wrap_i64] <;> omega
          have hcs : IntKind.i64.wrap (12 + (sz : Int)) = 12 + (sz : Int) := by rw [IntKind.wrap_i64] <;> omega
          have t1b : (d1 : Int) % (12 + (sz : Int)) = (j : Int) := by rw [← hj, show 12 + (sz : Int) = ((12 + sz : Nat) : Int) by omega]; rfl
          have t1 : (d1 : Int).tmod (12 + (sz : Int)) = (j : Int) := by rw [Int.tmod_eq_emod_of_nonneg (by omega)]; exact t1b
          have hct : IntKind.i64.wrap ((at0 : Int) + 4 + (j : Int)) = (at0 : Int) + 4 + (j : Int) := by rw [IntKind.wrap_i64] <;> omega
          have t2b : ((at0 : Int) + 4 + (j : Int)) % (NN : Int) = (pos : Int) := by rw [← hpos, show (at0 : Int) + 4 + (j : Int) = ((at0 + (4 + j) : Nat) : Int) by omega]; rfl
          have t2 : ((at0 : Int) + 4 + (j : Int)).tmod (NN : Int) = (pos : Int) := by rw [Int.tmod_eq_emod_of_nonneg (by omega), t2b]
          have z1 : ¬ (12 + (sz : Int) = 0) := by omega
          have z2 : ¬ (NN = 0) := by omega
          have z3 : ¬ ((NN : Int) = 0) := by omega
          have HJ := Lib.hid (And.intro hj hpos)
          have bxr : Blk (w6.alloc (.cells #[.string r.2, .int .i64 (at0 : Int), .bool cmv] 43)) w6.heap.size 43 #[.string r.2, .int .i64 (at0 : Int), .bool cmv] := Blk.new _ _ _
          have hb7 := hb6.trans (((Below.refl _ w6).alloc (Nat.le_refl _) (.cells #[.string r.2, .int .i64 (at0 : Int), .bool cmv] 43)).mono hb6.size)
          clear hj hpos hNN
          go_wp2_with fail
          obtain ⟨w7, hw7⟩ : ∃ w7, w6.alloc (.cells #[.string r.2, .int .i64 (at0 : Int), .bool cmv] 43) = w7 := ⟨_, rfl⟩
          rw [hw7] at bxr hb7 ⊢
          have y0 : w7.cell? ⟨w6.heap.size, 0, none⟩ = some (.string r.2) := bxr.cell 0
          have y1 : w7.cell? ⟨w6.heap.size, 1, none⟩ = some (.int .i64 (at0 : Int)) := bxr.cell 1
          clear r0 r1 r2 k2 k4 k6 x1 x2 bxr hw7
          obtain ⟨r0, r1, r2, k2, k4, k6, x1, x2⟩ := FX.out _ hb7
          rw [HNN.out] at k2
          simp at x1 x2
          go_quiet (fail)
          have hb8 : Below w5.heap.size w5 (w7.drewN nq) := below_drewN hb7
          obtain ⟨w8, hw8⟩ : ∃ w8, w7.drewN nq = w8 := ⟨_, rfl⟩
          rw [hw8] at hb8 ⊢
          have hqs : ∃ s o, pos / 256 = s ∧ pos % 256 = o ∧ s < m ∧ o < 256 := ⟨_, _, rfl, rfl, by have := HNN.out; omega, by omega⟩
          obtain ⟨s, o, hs, ho, hsm, ho256⟩ := hqs
          have u1 : (pos : Int) / 256 = (s : Int) := by omega
          have u1b : (pos : Int).tdiv 256 = (s : Int) := by rw [Int.tdiv_eq_ediv_of_nonneg (by omega)]; exact u1
          have u2 : (pos : Int) % 256 = (o : Int) := by omega
          have u2b : (pos : Int).tmod 256 = (o : Int) := by rw [Int.tmod_eq_emod_of_nonneg (by omega)]; exact u2
          have hW8 := HW2.out.below hb8
          have hsec := H1.out.1.wf.content (2 + s)
          have hsl : 2 + s < st1.dur.length := by rw [H1.out.1.len]; omega
          have HSC := Lib.hid (show st1.sct (2 + s) = (st1.content (2 + s)).data.toList from rfl)
          have hrd := fun (w' : World) (h : Wk W0 w' vb jb bb tb B.commit.s false st1 B.commit []) => kvread h H1.out.1.up hsl
          obtain ⟨sv, hsv⟩ : ∃ sv, st1.content (2 + s) = sv := ⟨_, rfl⟩
          rw [hsv] at hsec hrd HSC
          rw [show ((2 + s : Nat) : Int) = 2 + (s : Int) by omega] at hrd
          have HRD := Lib.hid hrd
          have HSO := Lib.hid (And.intro hs ho)
          clear hrd hsv hw8 r0 r1 r2 k2 k4 k6 x1 x2 y0 y1 hcr hcs hct t1 t1b t2 t2b hs ho
          go_wp2_with (first
            | (go_at_call 12; refine (HRD.out _ hW8).mono ?_; rintro e w9 ⟨rfl, hW9⟩; obtain ⟨cap1, w10, hcap1, hconv, hb256, hbW⟩ := conv_bytes w9 sv hsec; clear hW8))
          have hW10 := hW9.below hbW
          have bx10 := HBX.out.2.below hW10.size HBX.out.2.lt
          have x2 := bx10.cell 2
          simp at x2
          obtain ⟨x, hx⟩ : ∃ x, sv.data.toList.getD o 0 = x := ⟨_, rfl⟩
          have y0 := hb256.cell ho256
          rw [hx] at y0
          have f0 := hb256.frozen ho256
          obtain ⟨dd, hdd⟩ : ∃ dd, d2 % 255 = dd := ⟨_, rfl⟩
          have hdl : dd < 255 := by omega
          have v1b : (d2 : Int) % 255 = (dd : Int) := by omega
          have v1 : (d2 : Int).tmod 255 = (dd : Int) := by rw [Int.tmod_eq_emod_of_nonneg (by omega)]; exact v1b
          have hxb : x.toNat < 256 := UInt8.toNat_lt x
          obtain ⟨y, hy⟩ : ∃ y, UInt8.ofNat (x.toNat + (1 + dd)) = y := ⟨_, rfl⟩
          have hyv : y.toNat = (x.toNat + (1 + dd)) % 256 := by rw [← hy]; exact UInt8.toNat_ofNat'
          have hyx : y ≠ x := by
            intro e
            have := congrArg UInt8.toNat e
            omega
          have HY := Lib.hid (And.intro hyx (And.intro hyv hx))
          have oI : (o : Int) < 256 := by omega
          have HW10 := Lib.hid hW10
          have HB10 := Lib.hid hb256
          have HW9 := Lib.hid hW9
          have HBW := Lib.hid hbW
          clear hdd hy hyv hyx bx10 hb256 hW10 hW9 hbW hx
          go_region
          have ev : ((x.toNat : Int) + (1 + (dd : Int))) % 256 = (y.toNat : Int) := by rw [HY.out.2.1]; omega
          rw [ev]
          have hW11 : Wk W0 (w10.setCell ⟨w9.heap.size, o, none⟩ (.int .u8 (y.toNat : Int))).drew vb jb bb tb B.commit.s false st1 B.commit [] := by
            refine HW9.out.below ?_
            exact ((HBW.out.setCell (p := ⟨w9.heap.size, o, none⟩) (Nat.le_refl _) _).drew)
          have hb11 := HB10.out.put ho256 y
          obtain ⟨w11, hw11⟩ : ∃ w11, (w10.setCell ⟨w9.heap.size, o, none⟩ (.int .u8 (y.toNat : Int))).drew = w11 := ⟨_, rfl⟩
          rw [hw11] at hW11 hb11 ⊢
          have hcv := hb11.back (c := cap1)
          have hds : (⟨(sv.data.toList.set o y).toArray⟩ : ByteArray).size = 256 := by
            show (sv.data.toList.set o y).toArray.size = 256
            rw [List.size_toArray, List.length_set, Array.length_toList]
            exact hsec
          obtain ⟨nd, hnd⟩ : ∃ nd : ByteArray, ⟨(sv.data.toList.set o y).toArray⟩ = nd := ⟨_, rfl⟩
          rw [hnd] at hcv hds
          have hwc := VS.write_calm (st := st1) (k := 2 + s) (d := nd) H1.out.2 (by rw [H1.out.1.len]; omega) hds (by rw [H1.out.1.pend]; show 0 < 4096; omega)
          have hww := H1.out.1.wf.write ((2 + s : Nat) : Int) nd
          have hwr := fun (w' : World) (h : Wk W0 w' vb jb bb tb B.commit.s false st1 B.commit []) => kvwrite h (2 + s) nd
          obtain ⟨rw2, hrw⟩ : ∃ r, st1.write ((2 + s : Nat) : Int) nd = r := ⟨_, rfl⟩
          rw [hrw] at hwc hww hwr
          rw [show ((2 + s : Nat) : Int) = 2 + (s : Int) by omega] at hwr
          obtain ⟨hz, hcalm, hdur, hpend⟩ := hwc
          have hlen2 : rw2.2.dur.length = m + 2 := by rw [hdur, H1.out.1.len]
          have hsct := sct_write hdur hpend
          have hndl : nd.data.toList = (st1.sct (2 + s)).set o y := by rw [← hnd, HSC.out]
          have hal := H1.out.1.alen
          have harea : rw2.2.area = B.commit.area.set pos y := by
            refine area_of hww hlen2 (by rw [List.length_set, hal]) (fun k' hk' => ?_)
            rw [hsct, sec_set hal (by have := HNN.out; omega) y hk', HSO.out.1, HSO.out.2]
            by_cases e : k' = s
            · subst e
              rw [if_pos rfl, if_pos rfl, hndl, H1.out.1.sct hk']
            · rw [if_neg (by omega), if_neg e, H1.out.1.sct hk']
          have hold : y ≠ B.commit.area.getD ((r.1 + (4 + j)) % (256 * m)) 0 := by
            rw [HR.out.2, HNN.out, HJ.out.2]
            have e := sec_at B.commit.area s o ho256
            have e2 : 256 * s + o = pos := by have := HSO.out; omega
            rw [e2, ← H1.out.1.sct hsm, HSC.out, HY.out.2.2] at e
            rw [← e]
            exact HY.out.1
          obtain ⟨S', hf1, hf2, hf3⟩ := found_broken H1.out.1 HX.out.1 (by rw [HX.out.2.1]; exact HQ.out.2) (j := j) (by rw [HR.out.1]; exact hjl) hold (st' := rw2.2) (by rw [hsct, if_neg (by omega), H1.out.1.h0]) (by rw [hsct, if_neg (by omega), H1.out.1.h1]) (by rw [HR.out.2, HNN.out, HJ.out.2]; exact harea)
          have hop := fun (w' : World) (h : Wk W0 w' vb jb bb tb B.commit.s false rw2.2 B.commit []) => kopen h hcalm.2 hlen2 H1.out.1.m1 H1.out.1.m2 hf1
          have HOP := Lib.hid hop
          have HWR := Lib.hid hwr
          have hfs := H1.out.1.s.nums
          have hfm := H1.out.1.small
          obtain ⟨ff, hff⟩ : ∃ ff, B.commit.s.first = ff := ⟨_, rfl⟩
          have HS' := Lib.hid (And.intro (hf2.trans hff) hf3)
          have HFF := Lib.hid hff
          have hffb : ff ≤ 1048576 := by omega
          clear hop hwr hf1 hf2 hf3 hsct harea hold hndl hal hww hrw hz hcalm hdur hpend hnd hds hw11 hfs hff
          go_wp2_with (first
            | (go_at_call 13; refine (HWR.out _ hW11).mono ?_; rintro e w12 ⟨rfl, hW12⟩; clear hW11)
            | (go_at_call 14; refine (HOP.out _ hW12).mono ?_; rintro e w13 ⟨jb', tb', rfl, hW13⟩; clear hW12))
          obtain ⟨ar', cr', k4, _, _, hlb'⟩ := hW13.book
          rw [HFF.out] at k4
          have hlast : ∀ w', Below w13.heap.size w13 w' → Calls Try.prog 15 #[.pointer (some ⟨jb', 0, none⟩)] w' fun e w'' => e = .returned (.int .i64 ((ff : Int) + (q : Int) - 1)) ∧ ∃ n, w'' = w'.drewN n := fun w' hb => by
            obtain ⟨rv, hen, F, G, k1, _⟩ := hW13
            have := last_any (k1.below hb).j (by rw [HS'.out.1]; omega) (by rw [HS'.out.2]; omega)
            rw [show S'.last = (ff : Int) + (q : Int) - 1 by unfold JS.last; rw [HS'.out.1, HS'.out.2]] at this
            exact this
          have HLA := Lib.hid hlast
          have hb : Below w13.heap.size w13 w13.drew := (Below.refl _ _).drew
          have k4d : w13.drew.cell? ⟨bb, 4, none⟩ = some (.int .i64 (ff : Int)) := k4
          have s1 : IntKind.i64.wrap ((ff : Int) + (q : Int)) = (ff : Int) + (q : Int) := by rw [IntKind.wrap_i64] <;> omega
          have s2 : IntKind.i64.wrap ((ff : Int) + (q : Int) - 1) = (ff : Int) + (q : Int) - 1 := by rw [IntKind.wrap_i64] <;> omega
          have HWS := Lib.hid hW13.size
          clear hlast hW13 k4
          go_wp2_with fail
          go_region_held3 (fun w' => Below w13.heap.size w13 w' ∧ w'.cell? ⟨bb, 4, none⟩ = some (Value.int .i64 (ff : Int)))
            (with_reducible exact ⟨hb, k4d⟩)
            ((go_at_call 15; refine (HLA.out _ hb).mono ?_; rintro e w14 ⟨rfl, n14, rfl⟩; have k4d : (w13.drewN (1 + n14)).cell? ⟨bb, 4, none⟩ = some (Value.int .i64 (ff : Int)) := k4d; have hb : Below w13.heap.size w13 (w13.drewN (1 + n14)) := below_drewN (Below.refl _ _)))
          go_wp2_with fail
          go_ret
          exact ⟨rfl, HBX.out.1.trans ((HWS.out.trans (hb.mono HWS.out.size)).mono HBX.out.1.size)⟩
end Go.Proofs.Ytfdnpchbbngpjaa
