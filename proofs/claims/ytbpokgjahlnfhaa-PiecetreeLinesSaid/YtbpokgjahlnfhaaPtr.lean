/- run: up to sixty operations on a tree. -/
import Derived.Test.YtbpokgjahlnfhaaPte
namespace Go.Proofs.Ytbpokgjahlnfhaa
open Go.RowKit Go.Shelf

def OpP.ok (o : OpP) : Prop := o.kind < 256 ∧ (-9223372036854775808 ≤ o.src ∧ o.src ≤ 9223372036854775807) ∧ (-9223372036854775808 ≤ o.dst ∧ o.dst ≤ 9223372036854775807) ∧ o.text.size ≤ maxLen
/-- four cells in a row of a block hold one operation -/
def OpAt (w : World) (b j : Nat) (o : OpP) : Prop := o.ok ∧ w.cell? ⟨b, j, none⟩ = some (.int .u8 (o.kind : Int)) ∧ w.cell? ⟨b, j + 1, none⟩ = some (.int .i64 o.src) ∧ w.cell? ⟨b, j + 2, none⟩ = some (.int .i64 o.dst) ∧ w.cell? ⟨b, j + 3, none⟩ = some (.string o.text)
/-- a slice of operations -/
def Ops (w : World) (v : Value) (l : List OpP) : Prop :=
  ∃ (ao : Option Addr) (cap : Nat), v = .slice ao l.length cap ∧ l.length ≤ maxLen ∧ (0 < l.length → ∃ b off, ao = some ⟨b, off, none⟩ ∧ b < w.heap.size ∧ ∀ i (h : i < l.length), OpAt w b (off + i * 4) l[i])
theorem Ops.below {w w' : World} {v : Value} {l : List OpP} (h : Ops w v l) (hb : Below w.heap.size w w') : Ops w' v l := by
  obtain ⟨ao, cap, h1, h2, h3⟩ := h
  refine ⟨ao, cap, h1, h2, fun hp => ?_⟩
  obtain ⟨b, off, e, hlt, hc⟩ := h3 hp
  refine ⟨b, off, e, Nat.lt_of_lt_of_le hlt hb.size, fun i hi => ?_⟩
  obtain ⟨k1, k2, k3, k4, k5⟩ := hc i hi
  exact ⟨k1, (hb.cell (p := ⟨b, _, none⟩) hlt).trans k2, (hb.cell (p := ⟨b, _, none⟩) hlt).trans k3, (hb.cell (p := ⟨b, _, none⟩) hlt).trans k4, (hb.cell (p := ⟨b, _, none⟩) hlt).trans k5⟩
theorem spoilt_ok (t : Tr) (h : t.size ≤ 60000) : (t.replace 0 0 ⟨#[115, 112, 111, 105, 108, 116]⟩).1 = 0 := by
  unfold Tr.replace
  have h0 : wrongNo t.size 0 0 = 0 := if_neg (by omega)
  have z : (⟨#[115, 112, 111, 105, 108, 116]⟩ : ByteArray).size = 6 := rfl
  rw [h0, if_neg (by omega), if_neg (by omega)]
/-- a tree of the call's own -/
def OwnT (w w' : World) (tb : Nat) (t : Tr) : Prop := Tree w' tb t ∧ Below w.heap.size w w' ∧ w.heap.size ≤ tb
def RunPost (s : ByteArray) (l : List OpP) (w : World) (e : Ending) (w' : World) : Prop :=
  ∃ tb, e = .returned (.tuple #[.pointer (some ⟨tb, 0, none⟩), .string (runS s l 60).1.str, .int .i64 ((runS s l 60).2 : Int), .bool true]) ∧ OwnT w w' tb (runS s l 60).1
set_option maxRecDepth 100000 in
set_option maxHeartbeats 4000000 in
theorem run_any (s : ByteArray) {w : World} {v : Value} {l : List OpP} (hs : s.size ≤ 300) (hops : Ops w v l) : Calls Try.prog 19 #[.string s, v] w (RunPost s l w) := by
  obtain ⟨ao, cap, rfl, hmax, hat⟩ := hops
  have HAT := Lib.hid hat
  clear hat
  unfold maxLen at hmax
  go_enter Try.func19, Try.ntmps19
  go_wp2_with (go_at_call 14; refine (tnew_ok s w (by omega)).mono ?_; rintro e w1 ⟨tb, rfl, h1, h2, h3⟩)
  have HP : Hid (OwnT w w1 tb (runS s l 0).1) := Lib.hid ⟨by rw [runS_zero]; exact h2, h3, h1⟩
  have HS0 : Hid (s = (runS s l 0).1.str) := Lib.hid (by rw [runS_zero]; exact (str_fresh s).symm)
  have HS1 : Hid ((runS s l 0).2 = 0) := Lib.hid (by rw [runS_zero])
  clear h1 h2 h3
  go_loopw [4, 5, 6, 9] (fun tv wv ev iv wr => ∃ k tb : Nat, k ≤ l.length ∧ k ≤ 60 ∧ tv = .pointer (some ⟨tb, 0, none⟩) ∧ wv = .string (runS s l k).1.str ∧ ev = .int .i64 ((runS s l k).2 : Int) ∧ iv = .int .i64 (k : Int) ∧ OwnT w wr tb (runS s l k).1) (fun _ _ _ iv _ => 60 - (intOf iv).toNat)
  case atStart => exact ⟨0, tb, Nat.zero_le _, by omega, rfl, by rw [← HS0.out], by rw [HS1.out]; rfl, rfl, HP.out⟩
  case round =>
    clear HP HS0 HS1
    obtain ⟨k, tc, hk, hk60, rfl, rfl, rfl, rfl, hown⟩ := hrel
    obtain ⟨i1, i2, i3, i4, i5⟩ := run_inv s l k hs
    by_cases hlt : k < l.length
    · by_cases hlt4 : k < 60
      · have hkI : (k : Int) < (l.length : Int) := by omega
        have hk4I : (k : Int) < 60 := by omega
        obtain ⟨b, off, rfl, hb, hc⟩ := HAT.out (by omega)
        have hST := runS_step (s := s) hlt
        have hcc := hc k hlt
        obtain ⟨o1, o2, o3, o4, ho⟩ : ∃ a b c d, l[k] = ⟨a, b, c, d⟩ := ⟨_, _, _, _, rfl⟩
        rw [ho] at hST hcc
        obtain ⟨⟨hok1, hok2, hok3, hok4⟩, x0, x1, x2, x3⟩ := hcc
        simp only at x0 x1 x2 x3 hok1 hok2 hok3 hok4
        obtain ⟨ht, hbw, htb⟩ := hown
        have x0 := (hbw.cell (p := ⟨b, _, none⟩) hb).trans x0
        have x1 := (hbw.cell (p := ⟨b, _, none⟩) hb).trans x1
        have x2 := (hbw.cell (p := ⟨b, _, none⟩) hb).trans x2
        have x3 := (hbw.cell (p := ⟨b, _, none⟩) hb).trans x3
        obtain ⟨t, n, hR⟩ : ∃ t n, runS s l k = (t, n) := ⟨_, _, rfl⟩
        rw [hR] at hST ht i1 i2 i3 i4 i5
        simp only [hR] at *
        have HST := Lib.hid hST
        have HT := Lib.hid ht
        have HBW := Lib.hid hbw
        have HOK2 := Lib.hid hok2
        have HOK3 := Lib.hid hok3
        unfold maxLen at hok4
        clear hST hok2 hok3 ho hc ht hbw hR i2 i3
        go_wp2_with fail
        have hsz1 : t.str.size = t.size := Tr.str_size t
        have hsz3 : t.str.size ≤ 300000 := by omega
        have hxs : (min (o4.size : Int) 200).toNat = min o4.size 200 := by omega
        rw [hxs]
        obtain ⟨xs, hxs2⟩ : ∃ xs, o4.extract 0 (min o4.size 200) = xs := ⟨_, rfl⟩
        have hxz : xs.size ≤ 200 := by rw [← hxs2]; exact OpP.cut_size ⟨o1, o2, o3, o4⟩
        have hbk := Blk.new wr 45 #[.int .u8 (o1 : Int), .int .i64 o2, .int .i64 o3, .string xs]
        have hb1 : Below w.heap.size w (wr.alloc (.cells #[.int .u8 (o1 : Int), .int .i64 o2, .int .i64 o3, .string xs] 45)) := HBW.out.alloc HBW.out.size _
        have ht1 := HT.out.below ((Below.refl _ wr).alloc (Nat.le_refl _) (.cells #[.int .u8 (o1 : Int), .int .i64 o2, .int .i64 o3, .string xs] 45))
        rw [hxs2]
        obtain ⟨W1, hW1⟩ : ∃ W1, wr.alloc (.cells #[.int .u8 (o1 : Int), .int .i64 o2, .int .i64 o3, .string xs] 45) = W1 := ⟨_, rfl⟩
        rw [hW1] at hbk hb1 ht1 ⊢
        have lt1 := hbk.lt
        have y0 := hbk.cell 0
        have y1 := hbk.cell 1
        have y2 := hbk.cell 2
        have y3 := hbk.cell 3
        simp at y0 y1 y2 y3
        have hcut : (⟨o1, o2, o3, o4⟩ : OpP).cut = xs := hxs2
        clear hW1 x0 x1 x2 x3 hxs hxs2 hbk hok4
        have HB1 := Lib.hid hb1
        have HT1 := Lib.hid ht1
        have HI := Lib.hid i1
        clear hb1 ht1 i1
        go_quiet ((first
          | (go_at_call_of 16 (Value.int IntKind.i64 o2); exact (near_any o2 t.str.size _ HOK2.out hsz3).mono fun _ _ ⟨he, hw⟩ => ⟨he, _, hw.symm⟩)
          | (go_at_call_of 16 (Value.int IntKind.i64 o3); exact (near_any o3 t.str.size _ HOK3.out hsz3).mono fun _ _ ⟨he, hw⟩ => ⟨he, _, hw.symm⟩)))
        rw [hsz1]
        obtain ⟨f, hf⟩ : ∃ f, nearP o2 t.size = f := ⟨_, rfl⟩
        obtain ⟨g, hg⟩ : ∃ g, nearP o3 t.size = g := ⟨_, rfl⟩
        rw [hf, hg]
        have hfb := nearP_bd o2 t.size
        have hgb := nearP_bd o3 t.size
        rw [hf] at hfb
        rw [hg] at hgb
        have HF := Lib.hid hf
        have HG := Lib.hid hg
        clear hf hg
        have HB2 := Lib.hid (below_drewN HB1.out nq)
        have HT2 := Lib.hid (HT1.out.drewN nq)
        have lt2 : wr.heap.size < (W1.drewN nq).heap.size := lt1
        have z0 : (W1.drewN nq).cell? ⟨wr.heap.size, 0, none⟩ = _ := y0
        have z1 : (W1.drewN nq).cell? ⟨wr.heap.size, 1, none⟩ = _ := y1
        have z2 : (W1.drewN nq).cell? ⟨wr.heap.size, 2, none⟩ = _ := y2
        have z3 : (W1.drewN nq).cell? ⟨wr.heap.size, 3, none⟩ = _ := y3
        obtain ⟨W2, hW2⟩ : ∃ W2, W1.drewN nq = W2 := ⟨_, rfl⟩
        rw [hW2] at HB2 HT2 lt2 z0 z1 z2 z3 ⊢
        have hxm : xs.size ≤ 281474976710656 := by omega
        have hne : tc ≠ wr.heap.size := fun e => by
          have := HT.out.lt
          omega
        have hnb : wr.heap.size ∉ [tc] := by simp; omega
        clear hW2 HT1 HB1 lt1 y0 y1 y2 y3 W1 HOK2 HOK3 hne
        by_cases e0 : o1 % 4 = 0
        · skip
          have hm : ((o1 : Int) % 4) = 0 := by omega
          obtain ⟨c, t2, hcr⟩ : ∃ c t2, t.replace f f xs = (c, t2) := ⟨_, _, rfl⟩
          have hrf := rep_ref t f f xs
          rw [hcr] at hrf
          have hst : stepT t ⟨o1, o2, o3, o4⟩ = (c, t2) := by
            unfold stepT
            simp only [HF.out, HG.out, hcut]
            rw [if_pos (by omega)]
            exact hcr
          have hz2 : t2.str.size = t2.size := Tr.str_size t2
          have hok2 : t2.size ≤ 65536 := by have := rep_okay HI.out f f xs; rw [hcr] at this; exact this.2
          have HCR := Lib.hid hcr
          have HRF := Lib.hid hrf
          have HSTP := Lib.hid hst
          have hedit : editT t ⟨o1, o2, o3, o4⟩ = if c = 0 then 1 else 0 := by
            show (if o1 % 4 = 3 then 0 else if (stepT t ⟨o1, o2, o3, o4⟩).1 = 0 then 1 else 0) = _
            rw [if_neg (by omega), hst]
          have HE := Lib.hid hedit
          clear hcr hrf hst hedit hcut
          by_cases hc0 : c = 0
          · subst hc0
            go_wp2_with (first
              | (go_at_call 17; refine (ins_any f xs HT2.out HI.out hxm).mono ?_; rw [HCR.out]; rintro e w5 ⟨rfl, j1, j2⟩; have z3 := (j2.cell (p := ⟨wr.heap.size, 3, none⟩) lt2 hnb).trans z3; have J1 := Lib.hid j1; have J2 := Lib.hid j2; clear j1 j2)
              | (go_at_call 27; refine (rrep_any t.str f f xs _ (by omega) (by first | omega | decide)).mono ?_; rw [HRF.out]; rintro e w6 ⟨rfl, n6, rfl⟩)
              | (go_at_call 15; refine (tlen_any (J1.out.drewN _)).mono ?_; rintro e w7 ⟨rfl, rfl⟩))
            go_roundw
            case rel =>
              refine ⟨k + 1, tc, by omega, by omega, rfl, ?_, ?_, by go_num, ?_⟩
              · rw [HST.out, HSTP.out]
              · rw [HST.out, HE.out]; simp
              · rw [HST.out, HSTP.out]
                have hb := HB2.out.trans (J2.out.toBelow (by simp; exact htb) HB2.out.size)
                exact ⟨J1.out.drewN _, below_drewN hb _, htb⟩
            case measure => (simp [intOf] <;> omega)
          · have hcn : ((c : Int) == 0) = false := by rw [beq_eq_false_iff_ne]; omega
            go_wp2_with (first
              | (go_at_call 17; refine (ins_any f xs HT2.out HI.out hxm).mono ?_; rw [HCR.out]; rintro e w5 ⟨rfl, j1, j2⟩; have z3 := (j2.cell (p := ⟨wr.heap.size, 3, none⟩) lt2 hnb).trans z3; have J1 := Lib.hid j1; have J2 := Lib.hid j2; clear j1 j2)
              | (go_at_call 27; refine (rrep_any t.str f f xs _ (by omega) (by first | omega | decide)).mono ?_; rw [HRF.out]; rintro e w6 ⟨rfl, n6, rfl⟩)
              | (go_at_call 15; refine (tlen_any (J1.out.drewN _)).mono ?_; rintro e w7 ⟨rfl, rfl⟩))
            go_roundw
            case rel =>
              refine ⟨k + 1, tc, by omega, by omega, rfl, ?_, ?_, by go_num, ?_⟩
              · rw [HST.out, HSTP.out]
              · rw [HST.out, HE.out]; simp [hc0]
              · rw [HST.out, HSTP.out]
                have hb := HB2.out.trans (J2.out.toBelow (by simp; exact htb) HB2.out.size)
                exact ⟨J1.out.drewN _, below_drewN hb _, htb⟩
            case measure => (simp [intOf] <;> omega)
        · by_cases e1 : o1 % 4 = 1
          · skip
            have hm : ((o1 : Int) % 4) = 1 := by omega
            obtain ⟨c, t2, hcr⟩ : ∃ c t2, t.replace f g ⟨#[]⟩ = (c, t2) := ⟨_, _, rfl⟩
            have hrf := rep_ref t f g ⟨#[]⟩
            rw [hcr] at hrf
            have hst : stepT t ⟨o1, o2, o3, o4⟩ = (c, t2) := by
              unfold stepT
              simp only [HF.out, HG.out, hcut]
              rw [if_neg (by omega), if_pos (by omega)]
              exact hcr
            have hz2 : t2.str.size = t2.size := Tr.str_size t2
            have hok2 : t2.size ≤ 65536 := by have := rep_okay HI.out f g ⟨#[]⟩; rw [hcr] at this; exact this.2
            have HCR := Lib.hid hcr
            have HRF := Lib.hid hrf
            have HSTP := Lib.hid hst
            have hedit : editT t ⟨o1, o2, o3, o4⟩ = if c = 0 then 1 else 0 := by
              show (if o1 % 4 = 3 then 0 else if (stepT t ⟨o1, o2, o3, o4⟩).1 = 0 then 1 else 0) = _
              rw [if_neg (by omega), hst]
            have HE := Lib.hid hedit
            clear hcr hrf hst hedit hcut
            by_cases hc0 : c = 0
            · subst hc0
              go_wp2_with (first
                | (go_at_call 34; refine (del_any f g HT2.out HI.out).mono ?_; rw [HCR.out]; rintro e w5 ⟨rfl, j1, j2⟩; have z3 := (j2.cell (p := ⟨wr.heap.size, 3, none⟩) lt2 hnb).trans z3; have J1 := Lib.hid j1; have J2 := Lib.hid j2; clear j1 j2)
                | (go_at_call 27; refine (rrep_any t.str f g ⟨#[]⟩ _ (by omega) (by first | omega | decide)).mono ?_; rw [HRF.out]; rintro e w6 ⟨rfl, n6, rfl⟩)
                | (go_at_call 15; refine (tlen_any (J1.out.drewN _)).mono ?_; rintro e w7 ⟨rfl, rfl⟩))
              go_roundw
              case rel =>
                refine ⟨k + 1, tc, by omega, by omega, rfl, ?_, ?_, by go_num, ?_⟩
                · rw [HST.out, HSTP.out]
                · rw [HST.out, HE.out]; simp
                · rw [HST.out, HSTP.out]
                  have hb := HB2.out.trans (J2.out.toBelow (by simp; exact htb) HB2.out.size)
                  exact ⟨J1.out.drewN _, below_drewN hb _, htb⟩
              case measure => (simp [intOf] <;> omega)
            · have hcn : ((c : Int) == 0) = false := by rw [beq_eq_false_iff_ne]; omega
              go_wp2_with (first
                | (go_at_call 34; refine (del_any f g HT2.out HI.out).mono ?_; rw [HCR.out]; rintro e w5 ⟨rfl, j1, j2⟩; have z3 := (j2.cell (p := ⟨wr.heap.size, 3, none⟩) lt2 hnb).trans z3; have J1 := Lib.hid j1; have J2 := Lib.hid j2; clear j1 j2)
                | (go_at_call 27; refine (rrep_any t.str f g ⟨#[]⟩ _ (by omega) (by first | omega | decide)).mono ?_; rw [HRF.out]; rintro e w6 ⟨rfl, n6, rfl⟩)
                | (go_at_call 15; refine (tlen_any (J1.out.drewN _)).mono ?_; rintro e w7 ⟨rfl, rfl⟩))
              go_roundw
              case rel =>
                refine ⟨k + 1, tc, by omega, by omega, rfl, ?_, ?_, by go_num, ?_⟩
                · rw [HST.out, HSTP.out]
                · rw [HST.out, HE.out]; simp [hc0]
                · rw [HST.out, HSTP.out]
                  have hb := HB2.out.trans (J2.out.toBelow (by simp; exact htb) HB2.out.size)
                  exact ⟨J1.out.drewN _, below_drewN hb _, htb⟩
              case measure => (simp [intOf] <;> omega)
          · by_cases e2 : o1 % 4 = 2
            · skip
              have hm : ((o1 : Int) % 4) = 2 := by omega
              obtain ⟨c, t2, hcr⟩ : ∃ c t2, t.replace f g xs = (c, t2) := ⟨_, _, rfl⟩
              have hrf := rep_ref t f g xs
              rw [hcr] at hrf
              have hst : stepT t ⟨o1, o2, o3, o4⟩ = (c, t2) := by
                unfold stepT
                simp only [HF.out, HG.out, hcut]
                rw [if_neg (by omega), if_neg (by omega), if_pos (by omega)]
                exact hcr
              have hz2 : t2.str.size = t2.size := Tr.str_size t2
              have hok2 : t2.size ≤ 65536 := by have := rep_okay HI.out f g xs; rw [hcr] at this; exact this.2
              have HCR := Lib.hid hcr
              have HRF := Lib.hid hrf
              have HSTP := Lib.hid hst
              have hedit : editT t ⟨o1, o2, o3, o4⟩ = if c = 0 then 1 else 0 := by
                show (if o1 % 4 = 3 then 0 else if (stepT t ⟨o1, o2, o3, o4⟩).1 = 0 then 1 else 0) = _
                rw [if_neg (by omega), hst]
              have HE := Lib.hid hedit
              clear hcr hrf hst hedit hcut
              by_cases hc0 : c = 0
              · subst hc0
                go_wp2_with (first
                  | (go_at_call 18; refine (rep_any f g xs HT2.out HI.out hxm).mono ?_; rw [HCR.out]; rintro e w5 ⟨rfl, j1, j2⟩; have z3 := (j2.cell (p := ⟨wr.heap.size, 3, none⟩) lt2 hnb).trans z3; have J1 := Lib.hid j1; have J2 := Lib.hid j2; clear j1 j2)
                  | (go_at_call 27; refine (rrep_any t.str f g xs _ (by omega) (by first | omega | decide)).mono ?_; rw [HRF.out]; rintro e w6 ⟨rfl, n6, rfl⟩)
                  | (go_at_call 15; refine (tlen_any (J1.out.drewN _)).mono ?_; rintro e w7 ⟨rfl, rfl⟩))
                go_roundw
                case rel =>
                  refine ⟨k + 1, tc, by omega, by omega, rfl, ?_, ?_, by go_num, ?_⟩
                  · rw [HST.out, HSTP.out]
                  · rw [HST.out, HE.out]; simp
                  · rw [HST.out, HSTP.out]
                    have hb := HB2.out.trans (J2.out.toBelow (by simp; exact htb) HB2.out.size)
                    exact ⟨J1.out.drewN _, below_drewN hb _, htb⟩
                case measure => (simp [intOf] <;> omega)
              · have hcn : ((c : Int) == 0) = false := by rw [beq_eq_false_iff_ne]; omega
                go_wp2_with (first
                  | (go_at_call 18; refine (rep_any f g xs HT2.out HI.out hxm).mono ?_; rw [HCR.out]; rintro e w5 ⟨rfl, j1, j2⟩; have z3 := (j2.cell (p := ⟨wr.heap.size, 3, none⟩) lt2 hnb).trans z3; have J1 := Lib.hid j1; have J2 := Lib.hid j2; clear j1 j2)
                  | (go_at_call 27; refine (rrep_any t.str f g xs _ (by omega) (by first | omega | decide)).mono ?_; rw [HRF.out]; rintro e w6 ⟨rfl, n6, rfl⟩)
                  | (go_at_call 15; refine (tlen_any (J1.out.drewN _)).mono ?_; rintro e w7 ⟨rfl, rfl⟩))
                go_roundw
                case rel =>
                  refine ⟨k + 1, tc, by omega, by omega, rfl, ?_, ?_, by go_num, ?_⟩
                  · rw [HST.out, HSTP.out]
                  · rw [HST.out, HE.out]; simp [hc0]
                  · rw [HST.out, HSTP.out]
                    have hb := HB2.out.trans (J2.out.toBelow (by simp; exact htb) HB2.out.size)
                    exact ⟨J1.out.drewN _, below_drewN hb _, htb⟩
                case measure => (simp [intOf] <;> omega)
            · have hm : ((o1 : Int) % 4) = 3 := by omega
              have hst : stepT t ⟨o1, o2, o3, o4⟩ = (0, t) := by
                unfold stepT
                simp only
                rw [if_neg e0, if_neg e1, if_neg e2]
              have hedit : editT t ⟨o1, o2, o3, o4⟩ = 0 := by
                show (if o1 % 4 = 3 then 0 else if (stepT t ⟨o1, o2, o3, o4⟩).1 = 0 then 1 else 0) = _
                rw [if_pos (by omega)]
              have HE := Lib.hid hedit
              have HSTP := Lib.hid hst
              have hsp := spoilt_ok t (by omega)
              have HSP := Lib.hid hsp
              clear hst hedit hcut hsp
              go_wp2_with (first
                | (go_at_call 25; refine (tsnap_any HT2.out).mono ?_; rintro e w5 ⟨nb, rfl, hnb1, j1, j2⟩; have lt5 := Nat.lt_of_lt_of_le lt2 j2.size; have hne : nb ∉ [tc] := (by simp; have := HT2.out.lt; omega); have JT := Lib.hid (HT2.out.below j2); have J1 := Lib.hid j1; have J2 := Lib.hid j2; have z3 := (j2.cell (p := ⟨wr.heap.size, 3, none⟩) lt2).trans z3; clear j1 j2)
                | (go_at_call 17; refine (ins_any 0 ⟨#[115, 112, 111, 105, 108, 116]⟩ JT.out HI.out (by decide)).mono ?_; rw [HSP.out]; rintro e w6 ⟨rfl, j3, j4⟩; have J3 := Lib.hid (J1.out.turn j4 hne (tree_blk (fun i hi => by simp at hi; subst hi; exact ⟨_, JT.out⟩))); have J4 := Lib.hid j4; clear j3 j4)
                | (go_at_call 15; refine (tlen_any J3.out).mono ?_; rintro e w7 ⟨rfl, rfl⟩))
              go_roundw
              case rel =>
                refine ⟨k + 1, nb, by omega, by omega, rfl, ?_, ?_, by go_num, ?_⟩
                · rw [HST.out, HSTP.out]
                · rw [HST.out, HE.out]; simp
                · rw [HST.out, HSTP.out]
                  have hb := HB2.out.trans (J2.out.mono HB2.out.size)
                  have hb2 := hb.trans (J4.out.toBelow (by simp; exact htb) hb.size)
                  exact ⟨J3.out, hb2, by have := HB2.out.size; omega⟩
              case measure => (simp [intOf] <;> omega)
      · obtain rfl : k = 60 := by omega
        have HI := Lib.hid i1
        have HOW := Lib.hid hown
        clear i1 i2 i3 hown
        go_wp2_with (go_at_call 21; refine (tstring_any HOW.out.1 HI.out).mono ?_; rintro e w5 ⟨rfl, hb5⟩)
        exact bodyPost_ret (v := .tuple #[.pointer (some ⟨tc, 0, none⟩), .string (runS s l 60).1.str, .int .i64 ((runS s l 60).2 : Int), .bool true]) (by simp [results, Try.f19, go_sem]) rfl ⟨tc, rfl, HOW.out.1.below hb5, HOW.out.2.1.trans (hb5.mono HOW.out.2.1.size), HOW.out.2.2⟩
    · obtain rfl : k = l.length := by omega
      have HI := Lib.hid i1
      have HOW := Lib.hid hown
      have HALL := Lib.hid (runS_all (s := s) (show l.length ≤ 60 by omega))
      clear i1 i2 i3 hown
      go_wp2_with (go_at_call 21; refine (tstring_any HOW.out.1 HI.out).mono ?_; rintro e w5 ⟨rfl, hb5⟩)
      refine bodyPost_ret (v := .tuple #[.pointer (some ⟨tc, 0, none⟩), .string (runS s l l.length).1.str, .int .i64 ((runS s l l.length).2 : Int), .bool true]) (by simp [results, Try.f19, go_sem]) rfl ?_
      rw [← HALL.out]
      have HOW2 := HOW.out
      rw [← HALL.out] at HOW2
      exact ⟨tc, rfl, HOW2.1.below hb5, HOW2.2.1.trans (hb5.mono HOW2.2.1.size), HOW2.2.2⟩
end Go.Proofs.Ytbpokgjahlnfhaa
