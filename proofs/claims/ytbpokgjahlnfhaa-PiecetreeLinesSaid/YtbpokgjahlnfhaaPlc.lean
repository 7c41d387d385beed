/- Equal; the laws Equals, Restores, Slices, Snapshots: walked. -/
import Derived.Test.YtbpokgjahlnfhaaPlb
import Derived.LaidEqlPtr
namespace Go.Proofs.Ytbpokgjahlnfhaa
open Go.RowKit Go.Shelf

theorem eql_none_some (a : Addr) (w : World) : (binOp .eql 67 (.pointer none) (.pointer (some a))).run Try.prog w = .ok (.bool false) w := by
  have hp : Try.prog.underlying 67 = some (.pointer 82) := Try.underlying67
  have h : ∀ d : Nat, (Op.equalIn (d + 1) 67 (.pointer none) (.pointer (some a))).run Try.prog w = .ok false w := fun d => by
    simp [Op.equalIn, run_underlying hp]
  simp only [binOp]
  simp [Op.equal, Op.maxDepth, h 9999]
theorem node_info : (Try.prog.info? 82).map (fun i => i.size) = some 7 := by kernel_rfl
theorem eql_same (a : Addr) (w : World) : (binOp .eql 67 (.pointer (some a)) (.pointer (some a))).run Try.prog w = .ok (.bool true) w := by
  obtain ⟨i, hi, _⟩ := Option.map_eq_some_iff.1 node_info
  exact run_eql_ptr_same w a Try.underlying67 hi
theorem eql_other {a b : Nat} {ca cb : Array Value} {ta tb : TypeId} {w : World} (hne : ¬ a = b) (ha : Blk w a ta ca) (hb : Blk w b tb cb) :
    (binOp .eql 67 (.pointer (some ⟨a, 0, none⟩)) (.pointer (some ⟨b, 0, none⟩))).run Try.prog w = .ok (.bool false) w := by
  obtain ⟨i, hi, hs⟩ := Option.map_eq_some_iff.1 node_info
  exact run_eql_ptr_other w Try.underlying67 hi (by rw [hs]; decide) (fun e => hne (by cases e; rfl)) ha hb
set_option maxHeartbeats 2000000 in
set_option maxRecDepth 100000 in
theorem tequal_any {w : World} {tb ob : Nat} {t u : Tr} (h : Tree w tb t) (k : Tree w ob u) (ht : t.okay) (hu : u.okay) :
    Calls Try.prog 26 #[.pointer (some ⟨tb, 0, none⟩), .pointer (some ⟨ob, 0, none⟩)] w fun e w' => e = .returned (.bool (t.str.toList == u.str.toList)) ∧ Below w.heap.size w w' := by
  have HT := Lib.hid h
  have HU := Lib.hid k
  obtain ⟨v1, h1, h2⟩ := h
  obtain ⟨v2, k1, k2⟩ := k
  have c0 := h1.cell 0
  have d0 := k1.cell 0
  simp at c0 d0
  have ltt := h1.lt
  have ltu := k1.lt
  clear h1 k1
  have hself : (t.str.toList == t.str.toList) = true := by simp
  have HS := Lib.hid hself
  clear hself
  cases t with
  | nil =>
    obtain rfl := h2.nil_ptr
    cases u with
    | nil =>
      obtain rfl := k2.nil_ptr
      clear h2 k2
      go_enter Try.func26, Try.ntmps26
      go_wp2_with fail
      go_quiet (fail)
      go_wp2_with fail
      go_ret
      exact ⟨by rw [HS.out]; rfl, below_drewN (Below.refl _ _) _⟩
    | node a x b =>
      obtain ⟨bq, rfl⟩ := k2.node_ptr
      have hE := eql_none_some ⟨bq, 0, none⟩
      clear h2 k2
      go_enter Try.func26, Try.ntmps26
      go_wp2_with fail
      go_region_held3 (fun w' => w'.cell? ⟨tb, 0, none⟩ = some (Value.pointer none) ∧ w'.cell? ⟨ob, 0, none⟩ = some (Value.pointer (some ⟨bq, 0, none⟩)))
        (first | go_keep)
        (first
          | (go_at_call_of 21 (Value.pointer (some ⟨tb, 0, none⟩)); refine (tstring_any (HT.out.drewN _) ht).mono ?_; rintro e w1 ⟨rfl, hb1⟩; have c0 := (hb1.cell (p := ⟨tb, 0, none⟩) ltt).trans c0; have d0 := (hb1.cell (p := ⟨ob, 0, none⟩) ltu).trans d0; have HU1 := Lib.hid ((HU.out.drewN _).below hb1); have ltt1 := Nat.lt_of_lt_of_le ltt hb1.size; have ltu1 := Nat.lt_of_lt_of_le ltu hb1.size)
          | (go_at_call_of 21 (Value.pointer (some ⟨ob, 0, none⟩)); refine (tstring_any HU1.out hu).mono ?_; rintro e w2 ⟨rfl, hb2⟩; have c0 := (hb2.cell (p := ⟨tb, 0, none⟩) ltt1).trans c0; have d0 := (hb2.cell (p := ⟨ob, 0, none⟩) ltu1).trans d0))
      all_goals
        go_wp2_with fail
        go_ret
        exact ⟨rfl, (below_drewN (Below.refl _ _) 1).trans (hb1.trans (hb2.mono hb1.size))⟩
  | node a x b =>
    obtain ⟨bp, rfl⟩ := h2.node_ptr
    cases u with
    | nil =>
      obtain rfl := k2.nil_ptr
      clear h2 k2
      go_enter Try.func26, Try.ntmps26
      go_wp2_with fail
      go_region_held3 (fun w' => w'.cell? ⟨tb, 0, none⟩ = some (Value.pointer (some ⟨bp, 0, none⟩)) ∧ w'.cell? ⟨ob, 0, none⟩ = some (Value.pointer none))
        (first | go_keep)
        (first
          | (go_at_call_of 21 (Value.pointer (some ⟨tb, 0, none⟩)); refine (tstring_any (HT.out.drewN _) ht).mono ?_; rintro e w1 ⟨rfl, hb1⟩; have c0 := (hb1.cell (p := ⟨tb, 0, none⟩) ltt).trans c0; have d0 := (hb1.cell (p := ⟨ob, 0, none⟩) ltu).trans d0; have HU1 := Lib.hid ((HU.out.drewN _).below hb1); have ltt1 := Nat.lt_of_lt_of_le ltt hb1.size; have ltu1 := Nat.lt_of_lt_of_le ltu hb1.size)
          | (go_at_call_of 21 (Value.pointer (some ⟨ob, 0, none⟩)); refine (tstring_any HU1.out hu).mono ?_; rintro e w2 ⟨rfl, hb2⟩; have c0 := (hb2.cell (p := ⟨tb, 0, none⟩) ltt1).trans c0; have d0 := (hb2.cell (p := ⟨ob, 0, none⟩) ltu1).trans d0))
      all_goals
        go_wp2_with fail
        go_ret
        exact ⟨rfl, (below_drewN (Below.refl _ _) 1).trans (hb1.trans (hb2.mono hb1.size))⟩
    | node a' x' b' =>
      obtain ⟨bq, rfl⟩ := k2.node_ptr
      by_cases hpq : bp = bq
      · subst hpq
        obtain e := h2.one k2
        rw [← e]
        have hE := eql_same ⟨bp, 0, none⟩
        clear h2 k2 e HU
        go_enter Try.func26, Try.ntmps26
        go_wp2_with fail
        go_quiet (fail)
        go_wp2_with fail
        go_ret
        exact ⟨by rw [HS.out]; rfl, below_drewN (Below.refl _ _) _⟩
      · obtain ⟨_, _, _, _, e1, _, hb1, _⟩ := h2
        obtain ⟨_, _, _, _, e2, _, hb2, _⟩ := k2
        cases e1
        cases e2
        have hq1 := hb1.drewN 1
        have hq2 := hb2.drewN 1
        have hlq1 := hq1.lt
        have hlq2 := hq2.lt
        have hE : (binOp .eql 67 (.pointer (some ⟨bp, 0, none⟩)) (.pointer (some ⟨bq, 0, none⟩))).run Try.prog w.drew = .ok (.bool false) w.drew := eql_other hpq hb1.drew hb2.drew
        clear hb1 hb2
        go_enter Try.func26, Try.ntmps26
        go_wp2_with fail
        go_region_held3 (fun w' => (binOp .eql 67 (.pointer (some ⟨bp, 0, none⟩)) (.pointer (some ⟨bq, 0, none⟩))).run Try.prog w' = .ok (.bool false) w' ∧ w'.cell? ⟨tb, 0, none⟩ = some (Value.pointer (some ⟨bp, 0, none⟩)) ∧ w'.cell? ⟨ob, 0, none⟩ = some (Value.pointer (some ⟨bq, 0, none⟩)))
          (first | go_keep)
          (first
            | (go_at_call_of 21 (Value.pointer (some ⟨tb, 0, none⟩)); refine (tstring_any (HT.out.drewN _) ht).mono ?_; rintro e w1 ⟨rfl, hb1⟩; have c0 := (hb1.cell (p := ⟨tb, 0, none⟩) ltt).trans c0; have d0 := (hb1.cell (p := ⟨ob, 0, none⟩) ltu).trans d0; have hq1 := hq1.below hb1 hlq1; have hq2 := hq2.below hb1 hlq2; have hlq1 := hq1.lt; have hlq2 := hq2.lt; have hE := eql_other hpq hq1 hq2; have HU1 := Lib.hid ((HU.out.drewN _).below hb1); have ltt1 := Nat.lt_of_lt_of_le ltt hb1.size; have ltu1 := Nat.lt_of_lt_of_le ltu hb1.size)
            | (go_at_call_of 21 (Value.pointer (some ⟨ob, 0, none⟩)); refine (tstring_any HU1.out hu).mono ?_; rintro e w2 ⟨rfl, hb2⟩; have hq1 := hq1.below hb2 hlq1; have hq2 := hq2.below hb2 hlq2; have hE := eql_other hpq hq1 hq2; have c0 := (hb2.cell (p := ⟨tb, 0, none⟩) ltt1).trans c0; have d0 := (hb2.cell (p := ⟨ob, 0, none⟩) ltu1).trans d0))
        all_goals
          go_wp2_with fail
          go_ret
          exact ⟨rfl, (below_drewN (Below.refl _ _) 1).trans (hb1.trans (hb2.mono hb1.size))⟩
theorem bthen {a b c : World} (h : Below a.heap.size a b) (k : Below b.heap.size b c) : Below a.heap.size a c := h.trans (k.mono h.size)
theorem tequal_nil {w : World} {tb : Nat} : Calls Try.prog 26 #[.pointer (some ⟨tb, 0, none⟩), .pointer none] w fun e w' => e = .returned (.bool false) ∧ w = w' := by
  go_enter Try.func26, Try.ntmps26
  go_wp2
  go_ret
  exact ⟨rfl, rfl⟩

/-! ### Equals -/
set_option maxHeartbeats 2000000 in
theorem equals_row {s o : ByteArray} {w : World} {v : Value} {l : List OpP} (hs : s.size ≤ maxLen) (hops : Ops w v l) (hso : o.size ≤ maxLen) : Calls Try.prog 8 #[.string s, v, .string o] w (LawPost w) := by
  have hc := cut300_size s
  have hco := cut300_size o
  obtain ⟨ao, cap, rfl⟩ := hops.shape
  have HO := Lib.hid hops
  obtain ⟨i1, i2, i3, i4, i5⟩ := run_inv (cut300 s) l 60 hc
  obtain ⟨t, n, hR⟩ : ∃ t n, runS (cut300 s) l 60 = (t, n) := ⟨_, _, rfl⟩
  have HRun := Lib.hid (fun (w1 : World) (h : Ops w1 (.slice ao l.length cap) l) => run_any (cut300 s) hc h)
  unfold RunPost at HRun
  rw [hR] at i1 i4 HRun
  simp only at i1 i4 HRun
  have hts : t.str.size ≤ 65536 := by rw [Tr.str_size]; omega
  have ka := (Tr.okay_fresh t.str hts).1
  have kb := (Tr.okay_fresh (cut300 o) (by omega)).1
  have sa := Lib.hid (str_fresh t.str)
  have sb := Lib.hid (str_fresh (cut300 o))
  have HI := Lib.hid i1
  have KA := Lib.hid ka
  have KB := Lib.hid kb
  have hself : (t.str.toList == t.str.toList) = true := by simp
  have HS := Lib.hid hself
  have hcb : cut300 o = o.extract 0 (min o.size 300) := rfl
  have hsym : ((o.extract 0 (min o.size 300)).toList == t.str.toList) = (t.str.toList == (o.extract 0 (min o.size 300)).toList) := by rw [Bool.beq_comm]
  obtain ⟨eq, heq⟩ : ∃ eq, (t.str.toList == (o.extract 0 (min o.size 300)).toList) = eq := ⟨_, rfl⟩
  rw [heq] at hsym
  have HEQ := Lib.hid heq
  have hcb2 := Lib.hid hcb
  clear hops hR i1 i2 i3 i5 ka kb hself heq hcb
  go_enter Try.func8, Try.ntmps8
  go_wp2_with (first
      | (go_at_call 13; refine (known_any _).mono ?_; rintro e w1 ⟨rfl, hb1⟩)
      | (go_at_call_of 20 (Value.string s); refine (cut_any s _ hs).mono ?_; rintro e w2 ⟨rfl, rfl⟩)
      | (go_at_call_of 20 (Value.string o); refine (cut_any o _ hso).mono ?_; rintro e w2 ⟨rfl, rfl⟩)
      | (go_at_call 19; refine (HRun.out _ (HO.out.below hb1)).mono ?_; rintro e w3 ⟨tb, rfl, hT, hb3, _⟩)
      | (go_at_call_of 14 (Value.string t.str); refine (tnew_ok _ _ hts).mono ?_; rintro e w4 ⟨ta, rfl, hta, hA, hb4⟩)
      | (go_at_call 14; refine (tnew_ok (cut300 o) _ (by omega)).mono ?_; rintro e w5 ⟨tc, rfl, htc, hB, hb5⟩; have hA5 := hA.below hb5; have hT5 := (hT.below hb4).below hb5)
      | (go_at_call_of 26 (Value.pointer none); refine tequal_nil.mono ?_; rintro e w9 ⟨rfl, rfl⟩)
      | (go_at_call_of 26 (Value.pointer (some ⟨tc, 0, none⟩)); refine (tequal_any (hT6.below hb7) ((hB.below hb6).below hb7) HI.out KB.out).mono ?_; rw [sb.out, hcb2.out, HEQ.out]; rintro e w8 ⟨rfl, hb8⟩)
      | (go_at_call_of 26 (Value.pointer (some ⟨ta, 0, none⟩)); with_reducible refine (tequal_any hT5 hA5 HI.out KA.out).mono ?_; rw [sa.out, HS.out]; rintro e w6 ⟨rfl, hb6⟩; have hA6 := hA5.below hb6; have hT6 := hT5.below hb6)
      | (go_at_call_of 26 (Value.pointer (some ⟨ta, 0, none⟩)); with_reducible refine (tequal_any hA6 hT6 KA.out HI.out).mono ?_; rw [sa.out, HS.out]; rintro e w7 ⟨rfl, hb7⟩))
  go_ret
  exact ⟨rfl, bthen (bthen (bthen (bthen (bthen (bthen hb1 hb3) hb4) hb5) hb6) hb7) hb8⟩
end Go.Proofs.Ytbpokgjahlnfhaa
