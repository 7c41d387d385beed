/- The law VolumeLimits walked. -/
import Derived.Test.YtfhcecfddejcdaaVlke
import Derived.IntWalk
namespace Go.Proofs.Ytfhcecfddejcdaa
attribute [local go_sem ↓] Go.wp_at_zero Go.wp_at_succ
open Go.RowKit Go.Maps

theorem limit_write (s : Int) (d : ByteArray) (ds : List ByteArray) (ps : List (Nat × ByteArray)) (left : Nat) :
    (∃ x : Nat, x ≠ 0 ∧ (⟨ds, ps, none, false⟩ : VS).write s d = (x, ⟨ds, ps, none, false⟩) ∧ (⟨ds, ps, some left, false⟩ : VS).write s d = (x, ⟨ds, ps, some left, false⟩)) ∨
    (∃ ps', (⟨ds, ps, none, false⟩ : VS).write s d = (0, ⟨ds, ps', none, false⟩) ∧ ((left = 0 ∧ ps'.length = ps.length + 1 ∧ (⟨ds, ps, some left, false⟩ : VS).write s d = (36, ⟨ds, ps', some 0, true⟩)) ∨ ∃ n, left = n + 1 ∧ (⟨ds, ps, some left, false⟩ : VS).write s d = (0, ⟨ds, ps', some n, false⟩))) := by
  unfold VS.write
  by_cases h1 : inR s ds.length = false
  · exact .inl ⟨2, by omega, by simp [h1], by simp [h1]⟩
  · by_cases h2 : d.size ≠ 256
    · exact .inl ⟨10, by omega, by simp [h1, h2], by simp [h1, h2]⟩
    · by_cases h3 : 4096 ≤ ps.length
      · exact .inl ⟨37, by omega, by simp [h1, h2, h3], by simp [h1, h2, h3]⟩
      · refine .inr ⟨ps ++ [(s.toNat, d)], by simp [h1, h2, h3, VS.tick], ?_⟩
        cases left with
        | zero => exact .inl ⟨rfl, by simp, by simp [h1, h2, h3, VS.tick]⟩
        | succ n => exact .inr ⟨n, rfl, by simp [h1, h2, h3, VS.tick]⟩
theorem limit_barrier (ds : List ByteArray) (ps : List (Nat × ByteArray)) (left : Nat) :
    ∃ ds', (⟨ds, ps, none, false⟩ : VS).barrier = (0, ⟨ds', [], none, false⟩) ∧ ((left = 0 ∧ (⟨ds, ps, some left, false⟩ : VS).barrier = (36, ⟨ds, ps, some 0, true⟩)) ∨ ∃ n, left = n + 1 ∧ (⟨ds, ps, some left, false⟩ : VS).barrier = (0, ⟨ds', [], some n, false⟩)) := by
  refine ⟨flush ps ds, by simp [VS.barrier, VS.tick], ?_⟩
  cases left with
  | zero => exact .inl ⟨rfl, by simp [VS.barrier, VS.tick]⟩
  | succ n => exact .inr ⟨n, rfl, by simp [VS.barrier, VS.tick]⟩
/-- what an operation (a write or a barrier) does on a device without a limit, and on one in the same state with a limit -/
theorem limit_step (o : OpV) (hk : o.kind < 3) (ds : List ByteArray) (ps : List (Nat × ByteArray)) (left : Nat) :
    (∃ x : Nat, x ≠ 0 ∧ o.run ⟨ds, ps, none, false⟩ = (x, ⟨ds, ps, none, false⟩) ∧ o.run ⟨ds, ps, some left, false⟩ = (x, ⟨ds, ps, some left, false⟩)) ∨
    (∃ ds' ps', o.run ⟨ds, ps, none, false⟩ = (0, ⟨ds', ps', none, false⟩) ∧
      ((left = 0 ∧ ∃ ps2, o.run ⟨ds, ps, some left, false⟩ = (36, ⟨ds, ps2, some 0, true⟩) ∧ ((o.kind = 2 ∧ ps2.length = ps.length) ∨ (o.kind ≠ 2 ∧ ps2.length = ps.length + 1))) ∨
        ∃ n, left = n + 1 ∧ o.run ⟨ds, ps, some left, false⟩ = (0, ⟨ds', ps', some n, false⟩))) := by
  by_cases h2 : o.kind = 2
  · have e : ∀ st : VS, o.run st = st.barrier := fun st => by unfold OpV.run; rw [if_pos (by omega)]
    rw [e, e]
    obtain ⟨ds', h, hb⟩ := limit_barrier ds ps left
    refine .inr ⟨ds', [], h, ?_⟩
    rcases hb with ⟨h0, hb⟩ | ⟨n, hn, hb⟩
    · exact .inl ⟨h0, ps, hb, .inl ⟨h2, rfl⟩⟩
    · exact .inr ⟨n, hn, hb⟩
  · have e : ∀ st : VS, o.run st = st.write ((o.sector % 5 : Nat) : Int) (filled o.data) := fun st => by
      unfold OpV.run
      rw [if_neg (by omega), if_neg (by omega), if_neg (by omega), if_neg (by omega)]
    rw [e, e]
    rcases limit_write ((o.sector % 5 : Nat) : Int) (filled o.data) ds ps left with ⟨x, h0, h1, h3⟩ | ⟨ps', h, hb⟩
    · exact .inl ⟨x, h0, h1, h3⟩
    · refine .inr ⟨ds, ps', h, ?_⟩
      rcases hb with ⟨h0, hl, hb⟩ | ⟨n, hn, hb⟩
      · exact .inl ⟨h0, ps', hb, .inr ⟨h2, hl⟩⟩
      · exact .inr ⟨n, hn, hb⟩

set_option maxRecDepth 100000 in
set_option maxHeartbeats 2000000 in
theorem limits_law {w : World} {v : Value} {l : List OpV} (hops : Ops w v l) (a : Nat) (ha : a < 256) : Calls Try.prog 8 #[v, .int .u8 (a : Int)] w (LawPost w) := by
  obtain ⟨ao, cap, rfl, hmax, hat⟩ := hops
  obtain ⟨lm, hlm, hlm2⟩ : ∃ lm : Nat, ((a : Int) % 30) = (lm : Int) ∧ lm < 30 := ⟨a % 30, by omega, by omega⟩
  have HAT := Lib.hid hat
  clear hat
  unfold maxLen at hmax
  have hww : IntKind.i64.wrap (lm : Int) = (lm : Int) := IntWalk.i64_in _ (by omega)
  go_enter Try.func8, Try.ntmps8
  go_wp2_with fail
  refine (new_own 4 w (by omega) (by omega)).mono ?_
  rintro e w1 ⟨va, F1, rfl, h1⟩
  have HA1 := Lib.hid (Devs.one h1)
  clear h1
  go_wp2_with fail
  refine (new_own 4 w1 (by omega) (by omega)).mono ?_
  rintro e w2 ⟨vb, F2, rfl, h2⟩
  have H2 := Lib.hid (HA1.out.push h2)
  clear h2 HA1
  go_wp2_with fail
  refine (known_any _).mono ?_
  rintro e w3 ⟨rfl, hb3⟩
  have H3 := Lib.hid (H2.out.below hb3)
  clear hb3 H2
  by_cases h40 : l.length ≤ 40
  · have h40I : ((40 : Int) < (l.length : Int)) = False := by simp; omega
    have h40d : decide ((40 : Int) < (l.length : Int)) = false := by simp; omega
    go_wp2_with fail
    refine (limit_own (lm : Int) H3.out.v0 (by omega)).mono ?_
    rintro e w4 ⟨rfl, hs4⟩
    have hd4 := H3.out.s0 hs4
    rw [show (VS.new 4).limit (lm : Int) = ⟨List.replicate 4 zb, [], some lm, false⟩ from by unfold VS.limit VS.new; simp] at hd4
    have HD4 := Lib.hid hd4
    clear hs4 hd4 H3
    go_wp2_with fail
    clear hlm hww
    go_loopw [9, 10] (fun lf i wr => ∃ (k left : Nat) (ds : List ByteArray) (ps : List (Nat × ByteArray)) (F G : List Nat), k ≤ l.length ∧ i = .int .i64 k ∧ lf = .int .i64 left ∧ left ≤ 30 ∧ Devs w wr [(vb, ⟨ds, ps, some left, false⟩, F), (va, ⟨ds, ps, none, false⟩, G)]) (fun _ i _ => l.length - (intOf i).toNat)
    case atStart =>
      obtain ⟨F', h⟩ := HD4.out
      exact ⟨0, lm, _, _, F', F1, Nat.zero_le _, rfl, rfl, by omega, h⟩
    case round =>
      obtain ⟨k, left, ds, ps, F, G, hk, rfl, rfl, hleft, hdv⟩ := hrel
      clear HD4
      have HDV := Lib.hid hdv
      clear hdv
      by_cases hlt : k < l.length
      · have hkI : (k : Int) < (l.length : Int) := by omega
        obtain ⟨b, off, rfl, hb, hc⟩ := HAT.out (by omega)
        have hcc := hc k hlt
        obtain ⟨o1, o2, o3, o4, ho⟩ : ∃ a b c d, l[k] = ⟨a, b, c, d⟩ := ⟨_, _, _, _, rfl⟩
        rw [ho] at hcc
        obtain ⟨hok, x0, x1, x2, x3⟩ := hcc
        simp only at x0 x1 x2 x3
        obtain ⟨m, hm, hm3⟩ : ∃ m : Nat, ((o1 : Int) % 3) = (m : Int) ∧ m < 3 := ⟨o1 % 3, by omega, by omega⟩
        have hok' : (⟨m, o2, o3, o4⟩ : OpV).ok := ⟨by show m < 256; omega, hok.sector, hok.data, hok.num⟩
        have x0 := (HDV.out.1.cell (p := ⟨b, _, none⟩) hb).trans x0
        have x1 := (HDV.out.1.cell (p := ⟨b, _, none⟩) hb).trans x1
        have x2 := (HDV.out.1.cell (p := ⟨b, _, none⟩) hb).trans x2
        have x3 := (HDV.out.1.cell (p := ⟨b, _, none⟩) hb).trans x3
        have HOK := Lib.hid hok'
        have HCS := Lib.hid (limit_step ⟨m, o2, o3, o4⟩ hm3 ds ps left)
        clear hok hok' ho hc
        go_wp2_with fail
        have hbk := Blk.new wr 52 #[.int .u8 (m : Int), .int .u8 (o2 : Int), .int .u8 (o3 : Int), .int .i64 o4]
        have h5 := HDV.out.below ((Below.refl _ wr).alloc (Nat.le_refl _) (.cells #[.int .u8 (m : Int), .int .u8 (o2 : Int), .int .u8 (o3 : Int), .int .i64 o4] 52))
        obtain ⟨ob, hob⟩ : ∃ ob, ob = wr.heap.size := ⟨_, rfl⟩
        have hobF : ob ∉ F := fun hmm => by have := HDV.out.v0.lt ob hmm; omega
        have hobG : ob ∉ G := fun hmm => by have := HDV.out.v1.lt ob hmm; omega
        obtain ⟨w5, hw5⟩ : ∃ w5, wr.alloc (.cells #[.int .u8 (m : Int), .int .u8 (o2 : Int), .int .u8 (o3 : Int), .int .i64 o4] 52) = w5 := ⟨_, rfl⟩
        rw [hw5] at hbk h5 ⊢
        rw [← hob] at hbk ⊢
        clear hw5 hob x0 x1 x2 x3 HDV
        refine (clone_own h5.v0).mono ?_
        rintro e w6 ⟨cb, Fc, rfl, ho6⟩
        have h6 := Lib.hid (h5.push ho6)
        have hk6 := hbk.below ho6.2.1 hbk.lt
        clear h5 ho6 hbk
        go_wp2_with fail
        refine (pend_own h6.out.v1).mono ?_
        rintro e w7 ⟨ao7, cap7, rfl, _, hb7⟩
        have h7 := Lib.hid (h6.out.below hb7)
        have hk7 := hk6.below hb7 hk6.lt
        clear h6 hk6 hb7
        have q0 := hk7.cell 0
        have q1 := hk7.cell 1
        have q2 := hk7.cell 2
        have q3 := hk7.cell 3
        simp at q0 q1 q2 q3
        have HK7 := Lib.hid hk7
        clear hk7
        go_wp2_with fail
        rcases HCS.out with ⟨x, hx, hr1, hr2⟩ | ⟨ds', ps', hr1, ⟨hl0, ps2, hr2, hlen⟩ | ⟨n, hln, hr2⟩⟩
        · have HR1 := Lib.hid hr1
          have HR2 := Lib.hid hr2
          have hx0 : ((x : Int) == 0) = false := by rw [beq_eq_false_iff_ne]; omega
          have hx1 : ((x : Int) != 0) = true := by rw [bne_iff_ne]; omega
          clear hr1 hr2 HCS
          refine (perform_any ⟨m, o2, o3, o4⟩ HOK.out h7.out.v2).mono ?_
          rw [HR1.out]
          rintro e w8 ⟨rfl, hs8⟩
          obtain ⟨G8, h8⟩ := h7.out.s2 hs8
          obtain ⟨_, _, ht8, _⟩ := hs8
          have H8 := Lib.hid h8
          have hk8 := HK7.out.turn ht8 hobG
          clear h8 ht8 h7 HK7
          clear q0 q1 q2 q3
          have q0 := hk8.cell 0
          have q1 := hk8.cell 1
          have q2 := hk8.cell 2
          have q3 := hk8.cell 3
          simp at q0 q1 q2 q3
          have HK8 := Lib.hid hk8
          clear hk8
          go_wp2_with fail
          refine (perform_any ⟨m, o2, o3, o4⟩ HOK.out H8.out.v1).mono ?_
          rw [HR2.out]
          rintro e w9 ⟨rfl, hs9⟩
          obtain ⟨F9, h9⟩ := H8.out.s1 hs9
          obtain ⟨_, _, ht9, _⟩ := hs9
          have H9 := Lib.hid h9
          have hk9 := HK8.out.turn ht9 hobF
          clear h9 ht9 H8 HK8
          clear q0 q1 q2 q3
          have q0 := hk9.cell 0
          have q1 := hk9.cell 1
          have q2 := hk9.cell 2
          have q3 := hk9.cell 3
          simp at q0 q1 q2 q3
          clear hk9
          clear HR1 HR2
          go_wp2_with fail
          refine (down_own H9.out.v1).mono ?_
          rintro e w10 ⟨rfl, rfl⟩
          go_wp2_with fail
          refine (equal_any H9.out.v1 H9.out.v0).mono ?_
          rintro e w11 ⟨rfl, hb11⟩
          have H11 := Lib.hid (H9.out.below hb11)
          clear hb11
          go_wp2
          go_roundw
          case rel => exact ⟨k + 1, left, ds, ps, F9, G8, by omega, by go_num, rfl, hleft, H11.out.drop⟩
          case measure => simp [intOf]; omega
        · have HR1 := Lib.hid hr1
          have HR2 := Lib.hid hr2
          have hl0I : ((left : Int) == 0) = true := by rw [beq_iff_eq]; omega
          clear hr1 hr2 HCS
          refine (perform_any ⟨m, o2, o3, o4⟩ HOK.out h7.out.v2).mono ?_
          rw [HR1.out]
          rintro e w8 ⟨rfl, hs8⟩
          obtain ⟨G8, h8⟩ := h7.out.s2 hs8
          obtain ⟨_, _, ht8, _⟩ := hs8
          have H8 := Lib.hid h8
          have hk8 := HK7.out.turn ht8 hobG
          clear h8 ht8 h7 HK7
          clear q0 q1 q2 q3
          have q0 := hk8.cell 0
          have q1 := hk8.cell 1
          have q2 := hk8.cell 2
          have q3 := hk8.cell 3
          simp at q0 q1 q2 q3
          have HK8 := Lib.hid hk8
          clear hk8
          go_wp2_with fail
          refine (perform_any ⟨m, o2, o3, o4⟩ HOK.out H8.out.v1).mono ?_
          rw [HR2.out]
          rintro e w9 ⟨rfl, hs9⟩
          obtain ⟨F9, h9⟩ := H8.out.s1 hs9
          obtain ⟨_, _, ht9, _⟩ := hs9
          have H9 := Lib.hid h9
          have hk9 := HK8.out.turn ht9 hobF
          clear h9 ht9 H8 HK8
          clear q0 q1 q2 q3
          have q0 := hk9.cell 0
          have q1 := hk9.cell 1
          have q2 := hk9.cell 2
          have q3 := hk9.cell 3
          simp at q0 q1 q2 q3
          clear hk9
          clear HR1 HR2
          go_wp2_with fail
          refine (down_own H9.out.v1).mono ?_
          rintro e w10 ⟨rfl, rfl⟩
          rcases hlen with ⟨hm2, hl2⟩ | ⟨hm2, hl2⟩
          · have hmI : ((m : Int) == 2) = true := by rw [beq_iff_eq]; omega
            have hpd : (⟨ds, ps2, some 0, true⟩ : VS).pend.length = ps.length := hl2
            have HPD := Lib.hid hpd
            clear hm2 hl2 hpd
            go_wp2_with fail
            refine (pend_own H9.out.v1).mono ?_
            rw [HPD.out]
            rintro e w11 ⟨ao11, cap11, rfl, _, hb11⟩
            have H11 := Lib.hid (H9.out.below hb11)
            clear hb11
            go_wp2
            go_ret
            exact ⟨rfl, H11.out.1⟩
          · have hmI : ((m : Int) == 2) = false := by rw [beq_eq_false_iff_ne]; omega
            have hpd : (⟨ds, ps2, some 0, true⟩ : VS).pend.length = ps.length + 1 := hl2
            have HPD := Lib.hid hpd
            have hpn : ps.length ≤ 4096 := by
              have := H9.out.v1.wf.room
              rw [hpd] at this
              omega
            clear hm2 hl2 hpd
            go_wp2_with fail
            refine (pend_own H9.out.v1).mono ?_
            rw [HPD.out]
            rintro e w11 ⟨ao11, cap11, rfl, _, hb11⟩
            have H11 := Lib.hid (H9.out.below hb11)
            clear hb11
            go_wp2
            go_ret
            exact ⟨rfl, H11.out.1⟩
        · have HR1 := Lib.hid hr1
          have HR2 := Lib.hid hr2
          have HLN := Lib.hid hln
          have hl0I : ((left : Int) == 0) = false := by rw [beq_eq_false_iff_ne]; omega
          clear hr1 hr2 HCS hln
          refine (perform_any ⟨m, o2, o3, o4⟩ HOK.out h7.out.v2).mono ?_
          rw [HR1.out]
          rintro e w8 ⟨rfl, hs8⟩
          obtain ⟨G8, h8⟩ := h7.out.s2 hs8
          obtain ⟨_, _, ht8, _⟩ := hs8
          have H8 := Lib.hid h8
          have hk8 := HK7.out.turn ht8 hobG
          clear h8 ht8 h7 HK7
          clear q0 q1 q2 q3
          have q0 := hk8.cell 0
          have q1 := hk8.cell 1
          have q2 := hk8.cell 2
          have q3 := hk8.cell 3
          simp at q0 q1 q2 q3
          have HK8 := Lib.hid hk8
          clear hk8
          go_wp2_with fail
          refine (perform_any ⟨m, o2, o3, o4⟩ HOK.out H8.out.v1).mono ?_
          rw [HR2.out]
          rintro e w9 ⟨rfl, hs9⟩
          obtain ⟨F9, h9⟩ := H8.out.s1 hs9
          obtain ⟨_, _, ht9, _⟩ := hs9
          have H9 := Lib.hid h9
          have hk9 := HK8.out.turn ht9 hobF
          clear h9 ht9 H8 HK8
          clear q0 q1 q2 q3
          have q0 := hk9.cell 0
          have q1 := hk9.cell 1
          have q2 := hk9.cell 2
          have q3 := hk9.cell 3
          simp at q0 q1 q2 q3
          clear hk9
          clear HR1 HR2
          go_wp2_with fail
          refine (down_own H9.out.v1).mono ?_
          rintro e w10 ⟨rfl, rfl⟩
          go_wp2
          go_roundw
          case rel => exact ⟨k + 1, n, ds', ps', F9, G8, by omega, by go_num, by have := HLN.out; subst this; go_num, by have := HLN.out; omega, H9.out.drop⟩
          case measure => simp [intOf]; omega
      · obtain rfl : k = l.length := by omega
        clear HAT
        go_wp2
        go_ret
        exact ⟨rfl, HDV.out.1⟩
  · have h40d : decide ((40 : Int) < (l.length : Int)) = true := by simp; omega
    go_wp2_with fail
    refine (known_any _).mono ?_
    rintro e w4 ⟨rfl, hb4⟩
    have H4 := Lib.hid (H3.out.below hb4)
    clear hb4 H3
    go_wp2
    go_ret
    exact ⟨rfl, H4.out.1⟩
theorem limits_row {w : World} {v : Value} {l : List OpV} (hops : Ops w v l) (a : Int) (ha : (Lit.int .u8 a).wf = true) : Calls Try.prog 8 #[v, .int .u8 a] w (LawPost w) := by
  obtain ⟨a, rfl, ha'⟩ := u8nat ha
  exact limits_law hops a ha'
end Go.Proofs.Ytfhcecfddejcdaa
