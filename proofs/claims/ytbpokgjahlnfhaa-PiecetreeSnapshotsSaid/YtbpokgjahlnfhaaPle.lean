/- The law Snapshots: walked. -/
import Derived.Test.YtbpokgjahlnfhaaPlc
namespace Go.Proofs.Ytbpokgjahlnfhaa
open Go.RowKit Go.Shelf

/-- the tree behind one insertion of the second list -/
def insT (u : Tr) (o : OpP) : Nat × Tr := u.replace (nearP o.src u.size) (nearP o.src u.size) (o.text.extract 0 (min o.text.size 50))
def insS (t : Tr) (l : List OpP) (k : Nat) : Tr := (l.take k).foldl (fun u o => (insT u o).2) t
theorem insS_zero (t : Tr) (l : List OpP) : insS t l 0 = t := by simp [insS]
theorem insS_step {t : Tr} {l : List OpP} {k : Nat} (h : k < l.length) : insS t l (k + 1) = (insT (insS t l k) l[k]).2 := by
  unfold insS
  rw [List.take_succ_eq_append_getElem h, List.foldl_append]
  rfl
theorem ins_inv {t : Tr} (h : t.okay) (l : List OpP) (k : Nat) (hz : t.size ≤ 13000) : (insS t l k).okay ∧ (insS t l k).size ≤ 13000 + 50 * k := by
  induction k with
  | zero => rw [insS_zero]; exact ⟨h, by omega⟩
  | succ k ih =>
    by_cases hk : k < l.length
    · rw [insS_step hk]
      have z := rep_size (insS t l k) (nearP l[k].src (insS t l k).size) (nearP l[k].src (insS t l k).size) (l[k].text.extract 0 (min l[k].text.size 50))
      have z2 : (l[k].text.extract 0 (min l[k].text.size 50)).size ≤ 50 := by simp; omega
      exact ⟨rep_okay ih.1 _ _ _, by unfold insT; omega⟩
    · have e : insS t l (k + 1) = insS t l k := by unfold insS; rw [List.take_of_length_le (by omega), List.take_of_length_le (by omega)]
      rw [e]
      exact ⟨ih.1, by omega⟩
set_option maxRecDepth 100000 in
set_option maxHeartbeats 4000000 in
theorem snapshots_row {s : ByteArray} {w : World} {v vb : Value} {l lb : List OpP} (hs : s.size ≤ maxLen) (hops : Ops w v l) (hopb : Ops w vb lb) :
    Calls Try.prog 7 #[.string s, v, vb] w (LawPost w) := by
  have hc := cut300_size s
  obtain ⟨ao, cap, rfl⟩ := hops.shape
  have HO := Lib.hid hops
  obtain ⟨i1, i2, i3, i4, i5⟩ := run_inv (cut300 s) l 60 hc
  obtain ⟨t, n, hR⟩ : ∃ t n, runS (cut300 s) l 60 = (t, n) := ⟨_, _, rfl⟩
  have HRun := Lib.hid (fun (w1 : World) (h : Ops w1 (.slice ao l.length cap) l) => run_any (cut300 s) hc h)
  unfold RunPost at HRun
  rw [hR] at i1 i4 HRun
  simp only at i1 i4 HRun
  have HI := Lib.hid i1
  obtain ⟨aob, capb, rfl, hmax, hat⟩ := hopb
  have HAT := Lib.hid hat
  unfold maxLen at hmax
  have hself : (t.str.toList == t.str.toList) = true := by simp
  have HS := Lib.hid hself
  clear hops hR i1 i2 i3 i5 hat hself
  go_enter Try.func7, Try.ntmps7
  go_wp2_with (first
      | (go_at_call 13; refine (known_any _).mono ?_; rintro e w1 ⟨rfl, hb1⟩)
      | (go_at_call 20; refine (cut_any s _ hs).mono ?_; rintro e w2 ⟨rfl, rfl⟩)
      | (go_at_call 19; refine (HRun.out _ (HO.out.below hb1)).mono ?_; rintro e w3 ⟨tb, rfl, hT, hb3, htb⟩)
      | (go_at_call 25; refine (tsnap_any hT).mono ?_; rintro e w4 ⟨ob, rfl, hob, hO4, hb4⟩; have hT4 := hT.below hb4; have hlT := hT.lt)
      | (go_at_call 26; with_reducible refine (tequal_any hO4 hT4 HI.out HI.out).mono ?_; rw [HS.out]; rintro e w5 ⟨rfl, hb5⟩; have hO5 := hO4.below hb5; have hT5 := hT4.below hb5)
      | (go_at_call 26; with_reducible refine (tequal_any hT5 hO5 HI.out HI.out).mono ?_; rw [HS.out]; rintro e w6 ⟨rfl, hb6⟩))
  have hb : Below w.heap.size w w6 := bthen (bthen (bthen (bthen hb1 hb3) hb4) hb5) hb6
  have hw1 : w.heap.size ≤ ob ∧ w.heap.size ≤ tb := by have := hb1.size; have := hb3.size; omega
  have hne : tb ∉ [ob] := by simp; omega
  have hO6 := hO5.below hb6
  have hT6 := hT5.below hb6
  obtain ⟨hw1, hw2⟩ := hw1
  have HP : Hid (Tree w6 ob (insS t lb 0) ∧ Tree w6 tb t ∧ Below w.heap.size w w6) := Lib.hid ⟨by rw [insS_zero]; exact hO6, hT6, hb⟩
  have HS0 : Hid (t.str = (insS t lb 0).str) := Lib.hid (by rw [insS_zero])
  clear hb1 hb3 hb4 hb5 hb6 hT hT4 hT5 hT6 hO4 hO5 hO6 hb hob htb hlT
  go_loopw [12, 13] (fun nv iv wr => ∃ k : Nat, k ≤ lb.length ∧ k ≤ 20 ∧ nv = .string (insS t lb k).str ∧ iv = .int .i64 (k : Int) ∧ Tree wr ob (insS t lb k) ∧ Tree wr tb t ∧ Below w.heap.size w wr) (fun _ iv _ => 20 - (intOf iv).toNat)
  case atStart => exact ⟨0, Nat.zero_le _, by omega, by rw [← HS0.out], rfl, HP.out⟩
  case round =>
    clear HP HS0
    obtain ⟨k, hk, hk20, rfl, rfl, hO, hT, hb⟩ := hrel
    obtain ⟨j1, j2⟩ := ins_inv HI.out lb k (by omega)
    have hsz1 : (insS t lb k).str.size = (insS t lb k).size := Tr.str_size _
    have HOO := Lib.hid hO
    have HTT := Lib.hid hT
    have HBB := Lib.hid hb
    have HJ := Lib.hid j1
    by_cases hlt : k < lb.length
    · by_cases hlt4 : k < 20
      · have hkI : (k : Int) < (lb.length : Int) := by omega
        have hk4I : (k : Int) < 20 := by omega
        obtain ⟨b, off, rfl, hbb, hcc0⟩ := HAT.out (by omega)
        have hST := insS_step (t := t) hlt
        have hcc := hcc0 k hlt
        obtain ⟨o1, o2, o3, o4, ho⟩ : ∃ a b c d, lb[k] = ⟨a, b, c, d⟩ := ⟨_, _, _, _, rfl⟩
        rw [ho] at hST hcc
        obtain ⟨⟨hok1, hok2, hok3, hok4⟩, x0, x1, x2, x3⟩ := hcc
        simp only at x0 x1 x2 x3 hok1 hok2 hok3 hok4
        have x1 := (hb.cell (p := ⟨b, _, none⟩) hbb).trans x1
        have x3 := (hb.cell (p := ⟨b, _, none⟩) hbb).trans x3
        obtain ⟨u, hu⟩ : ∃ u, insS t lb k = u := ⟨_, rfl⟩
        rw [hu] at hST j2 hsz1 HOO HJ
        simp only [hu] at *
        have hsz3 : u.str.size ≤ 300000 := by omega
        unfold maxLen at hok4
        have hxs : (min (o4.size : Int) 50).toNat = min o4.size 50 := by omega
        obtain ⟨xs, hxs2⟩ : ∃ xs, o4.extract 0 (min o4.size 50) = xs := ⟨_, rfl⟩
        have hxz : xs.size ≤ 50 := by rw [← hxs2]; simp; omega
        have HOK2 := Lib.hid hok2
        obtain ⟨f, hf⟩ : ∃ f, nearP o2 u.size = f := ⟨_, rfl⟩
        obtain ⟨c, u2, hcr⟩ : ∃ c u2, u.replace f f xs = (c, u2) := ⟨_, _, rfl⟩
        have hrf := rep_ref u f f xs
        rw [hcr] at hrf
        have hst2 : insT u ⟨o1, o2, o3, o4⟩ = (c, u2) := by
          unfold insT
          simp only [hxs2]
          rw [hf]
          exact hcr
        rw [hst2] at hST
        have HF := Lib.hid hf
        have HCR := Lib.hid hcr
        have HRF := Lib.hid hrf
        have HST := Lib.hid hST
        have hxm : xs.size ≤ 281474976710656 := by omega
        clear hf hcr hrf hST hst2 hO hT hb j1 ho hu hok2 hok3 hcc0
        go_wp2_with (go_at_call 16; refine (near_any o2 u.size _ HOK2.out (by omega)).mono ?_; rw [HF.out]; rintro e w7 ⟨rfl, rfl⟩)
        go_quiet (fail)
        go_wp2_with (first
          | (go_at_call 27; refine (rrep_any u.str f f xs _ hsz3 (by omega)).mono ?_; rw [HRF.out]; rintro e w8 ⟨rfl, n8, rfl⟩)
          | (go_at_call 17; refine (ins_any f xs (HOO.out.drewN _) HJ.out hxm).mono ?_; rw [HCR.out]; rintro e w9 ⟨rfl, q1, q2⟩; have Q1 := Lib.hid q1; have Q2 := Lib.hid q2; clear q1 q2))
        go_roundw
        case rel =>
          have hb := (below_drewN HBB.out _).trans (Q2.out.toBelow (by simp; exact hw1) HBB.out.size)
          refine ⟨k + 1, by omega, by omega, by rw [HST.out], by go_num, by rw [HST.out]; exact Q1.out, (HTT.out.drewN _).turn Q2.out hne (tree_blk (fun i hi => by simp at hi; subst hi; exact ⟨_, HOO.out.drewN _⟩)), hb⟩
        case measure => (simp [intOf] <;> omega)
      · obtain rfl : k = 20 := by omega
        obtain ⟨u, hu⟩ : ∃ u, insS t lb 20 = u := ⟨_, rfl⟩
        rw [hu] at HOO HJ j2
        simp only [hu] at *
        have hts1 : t.str.toList == t.str.toList := by simp
        have hus1 : u.str.toList == u.str.toList := by simp
        obtain ⟨eq, heq⟩ : ∃ eq, (t.str.toList == u.str.toList) = eq := ⟨_, rfl⟩
        have HEQ := Lib.hid heq
        have hself : ∀ b : Bool, (b == b) = true := by intro b; cases b <;> rfl
        clear heq hO hT hb j1 hu
        go_wp2_with (first
          | (go_at_call_of 21 (Value.pointer (some ⟨tb, 0, none⟩)); refine (tstring_any HTT.out HI.out).mono ?_; rintro e w7 ⟨rfl, hb7⟩; have HO7 := Lib.hid (HOO.out.below hb7); have HT7 := Lib.hid (HTT.out.below hb7))
          | (go_at_call_of 21 (Value.pointer (some ⟨ob, 0, none⟩)); refine (tstring_any HO7.out HJ.out).mono ?_; rintro e w8 ⟨rfl, hb8⟩; have HO8 := Lib.hid (HO7.out.below hb8); have HT8 := Lib.hid (HT7.out.below hb8))
          | (go_at_call 26; refine (tequal_any HT8.out HO8.out HI.out HJ.out).mono ?_; rw [HEQ.out]; rintro e w9 ⟨rfl, hb9⟩))
        go_ret
        have e : (eq == (t.str.toList == u.str.toList)) = true := by rw [HEQ.out]; exact hself eq
        exact ⟨by rw [← e]; rfl, HBB.out.trans ((bthen (bthen hb7 hb8) hb9).mono HBB.out.size)⟩
    · obtain rfl : k = lb.length := by omega
      obtain ⟨u, hu⟩ : ∃ u, insS t lb lb.length = u := ⟨_, rfl⟩
      rw [hu] at HOO HJ j2
      simp only [hu] at *
      have hts1 : t.str.toList == t.str.toList := by simp
      have hus1 : u.str.toList == u.str.toList := by simp
      obtain ⟨eq, heq⟩ : ∃ eq, (t.str.toList == u.str.toList) = eq := ⟨_, rfl⟩
      have HEQ := Lib.hid heq
      have hself : ∀ b : Bool, (b == b) = true := by intro b; cases b <;> rfl
      clear heq hO hT hb j1 hu
      go_wp2_with (first
        | (go_at_call_of 21 (Value.pointer (some ⟨tb, 0, none⟩)); refine (tstring_any HTT.out HI.out).mono ?_; rintro e w7 ⟨rfl, hb7⟩; have HO7 := Lib.hid (HOO.out.below hb7); have HT7 := Lib.hid (HTT.out.below hb7))
        | (go_at_call_of 21 (Value.pointer (some ⟨ob, 0, none⟩)); refine (tstring_any HO7.out HJ.out).mono ?_; rintro e w8 ⟨rfl, hb8⟩; have HO8 := Lib.hid (HO7.out.below hb8); have HT8 := Lib.hid (HT7.out.below hb8))
        | (go_at_call 26; refine (tequal_any HT8.out HO8.out HI.out HJ.out).mono ?_; rw [HEQ.out]; rintro e w9 ⟨rfl, hb9⟩))
      go_ret
      have e : (eq == (t.str.toList == u.str.toList)) = true := by rw [HEQ.out]; exact hself eq
      exact ⟨by rw [← e]; rfl, HBB.out.trans ((bthen (bthen hb7 hb8) hb9).mono HBB.out.size)⟩
end Go.Proofs.Ytbpokgjahlnfhaa
