/- Levels of no word, IsException walked. -/
import Derived.Test.YtdcdlmigagjbiaaDoorHlw
import Derived.Deep.RegionHeld3
namespace Go.Proofs.YtdcdlmigagjbiaaDoor
open Go.RowKit Go.Maps
def NilPost (w : World) (e : Ending) (w' : World) : Prop := e = .returned (.slice none 0 0) ∧ Below w.heap.size w w'
theorem levels_nil (t : List UInt8) (w : World) : Calls Tryd.prog 14 #[.pointer none, .string ⟨t.toArray⟩] w (NilPost w) := by
  go_enter Tryd.func14, Tryd.ntmps14
  go_wp2_with (go_at_call 35; refine (word_nil t _).mono ?_; rintro e w1 ⟨rfl, rfl⟩)
  refine bodyPost_ret (v := .slice none 0 0) (by simp [results, Tryd.f14, go_sem]) rfl ⟨rfl, Below.refl _ _⟩
theorem levels_no {t : List UInt8} (h : wordP (foldP t) = none) (ht : t.length ≤ 100000000) (a : Addr) (w : World) : Calls Tryd.prog 14 #[.pointer (some a), .string ⟨t.toArray⟩] w (NilPost w) := by
  go_enter Tryd.func14, Tryd.ntmps14
  go_wp2_with (go_at_call 35; refine (word_no h ht a _).mono ?_; rintro e w1 ⟨v, rfl, hb1⟩)
  refine bodyPost_ret (v := .slice none 0 0) (by simp [results, Tryd.f14, go_sem]) rfl ⟨rfl, hb1⟩
theorem ExMap.drewN {w : World} {B eb : Nat} {exs : List (List UInt8 × List Int)} (h : ExMap w B eb exs) (n : Nat) : ExMap (w.drewN n) B eb exs := h.below (below_drewN (Below.refl _ _) n)
theorem int_nil (w : World) (B : Nat) : IntRow w B (.slice none 0 0) [] := ⟨by simp, .inl ⟨rfl, rfl⟩⟩
/-- the lookup of a word among the exceptions -/
theorem ExMap.look {w : World} {B eb : Nat} {exs : List (List UInt8 × List Int)} (h : ExMap w B eb exs) (t : List UInt8) (ht : t.length ≤ 4294967296) :
    ∃ v, (Instr.lookup 69 (.map (some eb)) (.string ⟨t.toArray⟩) true).run Tryd.prog w = .ok (.tuple #[v, .bool (exLook exs t).isSome]) w ∧ IntRow w B v ((exLook exs t).getD []) ∧ (exLook exs t = none → v = .slice none 0 0) := by
  obtain ⟨n, D, x1, _, x3⟩ := h
  obtain ⟨v, ps, hl, hv⟩ := x1.look_ok skey Tryd.underlying69 (z := .slice none 0 0) (by kernel_rfl) (zd := .held (.slice none 0 0)) (zp := []) rfl (kSkey t ht)
  rw [(x3 t).1] at hl
  refine ⟨v, hl, ?_⟩
  have he : DataW.held v = D.atKey (kS t) (.held (.slice none 0 0)) := congrArg Prod.fst (Option.some.inj hv)
  cases hx : exLook exs t with
  | some p =>
    obtain ⟨u, k1, k2⟩ := (x3 t).2 p hx
    rw [k2] at he
    rw [held_inj he]
    exact ⟨k1, fun h => by cases h⟩
  | none =>
    have hh := (x3 t).1
    rw [hx] at hh
    rw [Maps.atKey_of_not_has hh] at he
    rw [held_inj he]
    exact ⟨int_nil w B, fun _ => rfl⟩
def IsPost (b : Bool) (w : World) (e : Ending) (w' : World) : Prop := e = .returned (.bool b) ∧ Below w.heap.size w w'
theorem isex_nil (t : List UInt8) (w : World) : Calls Tryd.prog 17 #[.pointer none, .string ⟨t.toArray⟩] w (IsPost false w) := by
  go_enter Tryd.func17, Tryd.ntmps17
  go_wp2_with fail
  refine bodyPost_ret (v := .bool false) (by simp [results, Tryd.f17, go_sem]) rfl ⟨rfl, Below.refl _ _⟩
theorem isex_any {w : World} {B hb : Nat} {st : HS} (H : Hyph w B hb st) {t : List UInt8} (ht : t.length ≤ 100000000) : Calls Tryd.prog 17 #[.pointer (some ⟨hb, 0, none⟩), .string ⟨t.toArray⟩] w (IsPost (exLook st.exs (foldP t)).isSome w) := by
  obtain ⟨eb, eo, f, K, hT, hR, _, hX⟩ := H
  obtain ⟨mb, pvr, hblk⟩ := RootOf.blk hT hR
  have HX := Lib.hid hX
  have c2 := hblk.cell 2
  have hlt := hblk.lt
  simp at c2
  have hfl := foldP_len t
  clear hT hR hX
  go_enter Tryd.func17, Tryd.ntmps17
  go_wp2_with fail
  go_region_held3 (fun w' => w'.cell? ⟨hb, 2, none⟩ = some (Value.map (some eb)))
    (first | go_keep)
    (first
      | (go_at_call 29; refine (fold_at t (by omega) _).mono ?_; rintro e w3 ⟨rfl, hb3⟩; obtain ⟨v, hl, _⟩ := (((HX.out.drewN _).below hb3)).look (foldP t) (by omega); have t0 := (hb3.cell (p := ⟨hb, 2, none⟩) hlt).trans c2; have HB3 : Hid (Below w.heap.size w w3) := Lib.hid (below_undrewN hb3); clear hb3))
  go_wp2_with fail
  refine bodyPost_ret (v := .bool (exLook st.exs (foldP t)).isSome) (by simp [results, Tryd.f17, go_sem]) rfl ⟨rfl, HB3.out⟩
end Go.Proofs.YtdcdlmigagjbiaaDoor
/- Points walked. -/
namespace Go.Proofs.YtdcdlmigagjbiaaDoor
open Go.RowKit Go.Maps
theorem oddsG_snoc (l : List Int) (x : Int) : ∀ i, oddsG i (l ++ [x]) = oddsG i l ++ (if Int.tmod x 2 = 1 then [((i + l.length : Nat) : Int)] else []) := by
  induction l with
  | nil => intro i; simp [oddsG]
  | cons y r ih =>
    intro i
    show (if Int.tmod y 2 = 1 then (i : Int) :: oddsG (i + 1) (r ++ [x]) else oddsG (i + 1) (r ++ [x])) = (if Int.tmod y 2 = 1 then (i : Int) :: oddsG (i + 1) r else oddsG (i + 1) r) ++ _
    rw [ih, show i + 1 + r.length = i + (y :: r).length from by simp; omega]
    split <;> rfl
theorem oddsG_len (l : List Int) : ∀ i, (oddsG i l).length ≤ l.length := by
  induction l with
  | nil => intro i; simp [oddsG]
  | cons y r ih =>
    intro i
    have := ih (i + 1)
    show (if Int.tmod y 2 = 1 then (i : Int) :: oddsG (i + 1) r else oddsG (i + 1) r).length ≤ _
    split <;> simp <;> omega
theorem filter_snoc (f : Int → Bool) (l : List Int) (x : Int) : (l ++ [x]).filter f = l.filter f ++ (if f x = true then [x] else []) := by
  rw [List.filter_append]
  by_cases h : f x = true <;> simp [h]
/-- what Points needs of a hyphenator -/
structure Good (st : HS) : Prop where
  ok : ∀ P, P ∈ st.pats → PatOk P
  right : 1 ≤ st.right ∧ st.right ≤ 64
  exs : ∀ t p, exLook st.exs t = some p → p.length ≤ 100000000
theorem pointsP_some {st : HS} {t : List UInt8} {L p : List Int} (h : wordP t = some L) (he : exLook st.exs t = some p) : pointsP st t = p.filter (keepP st.left st.right L.length) := by
  unfold pointsP allP; rw [h, he]
theorem pointsP_none {st : HS} {t : List UInt8} {L : List Int} (h : wordP t = some L) (he : exLook st.exs t = none) : pointsP st t = (oddsG 0 (levelsP st.pats L)).filter (keepP st.left st.right L.length) := by
  unfold pointsP allP; rw [h, he]
theorem points_nil (t : List UInt8) (w : World) : Calls Tryd.prog 15 #[.pointer none, .string ⟨t.toArray⟩] w (NilPost w) := by
  go_enter Tryd.func15, Tryd.ntmps15
  go_wp2_with (go_at_call 35; refine (word_nil t _).mono ?_; rintro e w1 ⟨rfl, rfl⟩)
  refine bodyPost_ret (v := .slice none 0 0) (by simp [results, Tryd.f15, go_sem]) rfl ⟨rfl, Below.refl _ _⟩
theorem points_no {t : List UInt8} (h : wordP (foldP t) = none) (ht : t.length ≤ 100000000) (a : Addr) (w : World) : Calls Tryd.prog 15 #[.pointer (some a), .string ⟨t.toArray⟩] w (NilPost w) := by
  go_enter Tryd.func15, Tryd.ntmps15
  go_wp2_with (go_at_call 35; refine (word_no h ht a _).mono ?_; rintro e w1 ⟨v, rfl, hb1⟩)
  refine bodyPost_ret (v := .slice none 0 0) (by simp [results, Tryd.f15, go_sem]) rfl ⟨rfl, hb1⟩
set_option maxRecDepth 100000 in
set_option maxHeartbeats 16000000 in
theorem points_yes {w : World} {B hb : Nat} {st : HS} (H : Hyph w B hb st) (G : Good st) {t : List UInt8} {L : List Int} (hw : wordP (foldP t) = some L) (ht : t.length ≤ 100000000) :
    Calls Tryd.prog 15 #[.pointer (some ⟨hb, 0, none⟩), .string ⟨t.toArray⟩] w (LevPost (pointsP st (foldP t)) w) := by
  obtain ⟨_, _, hLp, hL64⟩ := wordP_some hw
  have hfl := foldP_len t
  obtain ⟨hr1, hr64⟩ := G.right
  have HW := Lib.hid (fun w => word_yes hw ht ⟨hb, 0, none⟩ w)
  have HH := Lib.hid H
  have HWP := Lib.hid hw
  have HG := Lib.hid G
  obtain ⟨eb, eo, f, K, hT, hR, _, hX⟩ := H
  obtain ⟨mb, pvr, hblk⟩ := RootOf.blk hT hR
  have HX := Lib.hid hX
  have c2 := hblk.cell 2
  have c3 := hblk.cell 3
  have c4 := hblk.cell 4
  have hlt := hblk.lt
  simp at c2 c3 c4
  obtain ⟨lf, hlf⟩ : ∃ x, st.left = x := ⟨_, rfl⟩
  obtain ⟨rt, hrt⟩ : ∃ x, st.right = x := ⟨_, rfl⟩
  rw [hlf] at c3
  rw [hrt] at c4 hr1 hr64
  obtain ⟨i0, hi, hz0, hz1, hz2⟩ := info_parts int_info
  have HLF := Lib.hid hlf
  have HRT := Lib.hid hrt
  clear hT hR hX hblk hw hlf hrt G
  cases hex : exLook st.exs (foldP t) with
  | some p =>
    have HEX := Lib.hid hex
    clear hex
    have hpl := HG.out.exs _ _ HEX.out
    have HPS := Lib.hid (pointsP_some HWP.out HEX.out)
    go_enter Tryd.func15, Tryd.ntmps15
    go_wp2_with (go_at_call 35; refine (HW.out _).mono ?_; unfold WordYes; rintro e w1 ⟨ao, cap, rfl, hb1, hr1⟩; have c2 := (hb1.cell (p := ⟨hb, 2, none⟩) hlt).trans c2; have hlt1 := Nat.lt_of_lt_of_le hlt hb1.size; have HB1 := Lib.hid hb1; clear hb1)
    go_region_held3 (fun w' => w'.cell? ⟨hb, 2, none⟩ = some (Value.map (some eb)))
      (first | go_keep)
      (first
        | (go_at_call 29; refine (fold_at t (by omega) _).mono ?_; rintro e w3 ⟨rfl, hb3⟩; obtain ⟨v, hl, hv, hvn⟩ := ((((HX.out.below HB1.out).drewN _).below hb3)).look (foldP t) (by omega); rw [HEX.out] at hl hv; have t0 := (hb3.cell (p := ⟨hb, 2, none⟩) hlt1).trans c2; have HB3 : Hid (Below w1.heap.size w1 w3) := Lib.hid (below_undrewN hb3); have HV := Lib.hid hv; have HVN := Lib.hid hvn; clear hb3 hv hvn))
    have HB13 := Lib.hid (HB1.out.trans (HB3.out.mono HB1.out.size))
    clear c2 t0 hl
    have hv : IntRow w3 B v p := HV.out
    obtain ⟨vao, vcap, rfl⟩ := row_slice hv
    have HVR := Lib.hid hv
    clear hv HV HVN
    have HD := Lib.hid (Below.refl w3.heap.size w3)
    have HW3 := Lib.hid HB13.out
    go_wp2_with fail
    have d3 := (HW3.out.cell (p := ⟨hb, 3, none⟩) hlt).trans c3
    have d4 := (HW3.out.cell (p := ⟨hb, 4, none⟩) hlt).trans c4
    have hltS := Nat.lt_of_lt_of_le hlt HW3.out.size
    have hsS := HW3.out.size
    go_loopw [11, 53] (fun ov i wr => ∃ (k : Nat) (out : List Int), k ≤ p.length ∧ i = .int .i64 (k : Int) ∧ Hid (out = (p.take k).filter (keepP lf rt L.length)) ∧ out.length ≤ k ∧ Hid (IntRow wr w3.heap.size ov out) ∧ Hid (Below w3.heap.size w3 wr)) (fun _ i _ => p.length - (intOf i).toNat)
    case atStart => exact ⟨0, [], Nat.zero_le _, rfl, Lib.hid rfl, Nat.zero_le _, Lib.hid (int_nil _ _), Lib.hid (Below.refl _ _)⟩
    case round =>
      obtain ⟨k, out, hk, rfl, HO, hol, HR, HB⟩ := hrel
      have hrs := HB.out.size
      by_cases hlk : k < p.length
      · obtain ⟨vb, vo, rfl, hvlt, hvc, hvl, hvm⟩ := ints_pos (Ints.of_owns HVR.out) (by omega)
        have hcell := (HB.out.cell (p := ⟨vb, vo + k, none⟩) hvlt).trans (hvc k hlk)
        have d3 := (HB.out.cell (p := ⟨hb, 3, none⟩) hltS).trans d3
        have d4 := (HB.out.cell (p := ⟨hb, 4, none⟩) hltS).trans d4
        have htk := take_snoc p 0 k hlk
        obtain ⟨x, hx⟩ : ∃ x, p.getD k 0 = x := ⟨_, rfl⟩
        rw [hx] at hcell htk
        have HKP := Lib.hid (filter_snoc (keepP lf rt L.length) (p.take k) x)
        rw [← htk, ← HO.out] at HKP
        clear hvc hx htk
        by_cases g1 : lf ≤ x
        · by_cases g2 : x ≤ (L.length : Int) - rt
          · have hkp : keepP lf rt L.length x = true := by unfold keepP; simp [g1, g2]
            have HK2 := Lib.hid (show out ++ [x] = (p.take (k + 1)).filter (keepP lf rt L.length) from by rw [HKP.out, if_pos hkp])
            clear hkp
            go_wp2_with (at_builtin; refine wpList_append_own_at _ rfl _ _ 26 rfl w3.heap.size 3 i0 (.int .i64 0) 1 8 Tryd.underlying26 hi hz0 hz1 hz2 rfl (by decide) u11 out.length (out.map (Value.int .i64)) rfl (World.ownsRow.alloc HR.out _) ⟨wr.heap.size, 0, none⟩ 1 1 [.int .i64 x] rfl rfl (cell_one_new _ _ _) (by intro u hu; simp at hu; subst hu; rfl) (by unfold maxLen; omega) (by omega) (by simp; omega) ?_; intro pv3 w5 hown hg _ hat; obtain ⟨s1, _, _, s4, s5⟩ := row_app (u := .slice none 0 0) (m := []) (IntRow.nil _ w3.heap.size) (fun g _ => by simp [Value.ownBlock]) hown rfl hg hat; have S1 := Lib.hid s1; have S4 := Lib.hid (s4.toBelow (B := w3.heap.size) (fun i hi => row_base HR.out i (by simpa using hi)) (by omega)); clear s1 s4 hown hg hat)
            exact ⟨⟨k + 1, out ++ [x], hlk, by go_num, HK2, by simp; omega, S1, Lib.hid (HB.out.trans S4.out)⟩, by simp [intOf]; omega⟩
          · have hkp : keepP lf rt L.length x = false := by unfold keepP; simp [g2]
            have HK2 := Lib.hid (show out = (p.take (k + 1)).filter (keepP lf rt L.length) from by rw [HKP.out, if_neg (by rw [hkp]; simp), List.append_nil])
            clear hkp
            go_wp2_with fail
            exact ⟨⟨k + 1, out, hlk, by go_num, HK2, by omega, HR, HB⟩, by simp [intOf]; omega⟩
        · have hkp : keepP lf rt L.length x = false := by unfold keepP; simp [g1]
          have HK2 := Lib.hid (show out = (p.take (k + 1)).filter (keepP lf rt L.length) from by rw [HKP.out, if_neg (by rw [hkp]; simp), List.append_nil])
          clear hkp
          go_wp2_with fail
          exact ⟨⟨k + 1, out, hlk, by go_num, HK2, by omega, HR, HB⟩, by simp [intOf]; omega⟩
      · have hke : k = p.length := by omega
        subst hke
        have HO2 := Lib.hid (show out = pointsP st (foldP t) from by rw [HPS.out, HLF.out, HRT.out, HO.out, List.take_length])
        go_wp2_with fail
        refine bodyPost_ret (v := u11) (by simp [results, Tryd.f15, go_sem]) rfl ⟨_, rfl, HW3.out.trans (HB.out.mono hsS), by rw [← HO2.out]; exact IntRow.weak HR.out hsS⟩
  | none =>
    have HEX := Lib.hid hex
    clear hex
    have HPS := Lib.hid (pointsP_none HWP.out HEX.out)
    go_enter Tryd.func15, Tryd.ntmps15
    go_wp2_with (go_at_call 35; refine (HW.out _).mono ?_; unfold WordYes; rintro e w1 ⟨ao, cap, rfl, hb1, hr1⟩; have c2 := (hb1.cell (p := ⟨hb, 2, none⟩) hlt).trans c2; have hlt1 := Nat.lt_of_lt_of_le hlt hb1.size; have HB1 := Lib.hid hb1; clear hb1)
    go_region_held3 (fun w' => w'.cell? ⟨hb, 2, none⟩ = some (Value.map (some eb)))
      (first | go_keep)
      (first
        | (go_at_call 29; refine (fold_at t (by omega) _).mono ?_; rintro e w3 ⟨rfl, hb3⟩; obtain ⟨v, hl, hv, hvn⟩ := ((((HX.out.below HB1.out).drewN _).below hb3)).look (foldP t) (by omega); rw [HEX.out] at hl hv; have t0 := (hb3.cell (p := ⟨hb, 2, none⟩) hlt1).trans c2; have HB3 : Hid (Below w1.heap.size w1 w3) := Lib.hid (below_undrewN hb3); have HV := Lib.hid hv; have HVN := Lib.hid hvn; clear hb3 hv hvn))
    have HB13 := Lib.hid (HB1.out.trans (HB3.out.mono HB1.out.size))
    clear c2 t0 hl
    obtain rfl := HVN.out HEX.out
    clear HV HVN
    have HH3 := Lib.hid (HH.out.below HB13.out)
    obtain ⟨LV, hLV⟩ : ∃ LV, levelsP st.pats L = LV := ⟨_, rfl⟩
    have hll : LV.length = L.length + 1 := by rw [← hLV]; exact levelsP_len _ _
    have HLV := Lib.hid hLV
    clear hLV
    go_wp2_with (go_at_call 14; refine (levels_yes HH3.out HWP.out ht HG.out.ok).mono ?_; rw [HLV.out]; unfold LevPost; rintro e w4 ⟨lv, rfl, hb4, hr4⟩; obtain ⟨lao, lcap, rfl⟩ := row_slice hr4; have HR4 := Lib.hid hr4; have HB4 := Lib.hid hb4; clear hb4 hr4)
    have hs13 := HB13.out.size
    go_loopw [7, 38] (fun pv i wr => ∃ (k : Nat) (ps : List Int), k ≤ LV.length ∧ i = .int .i64 (k : Int) ∧ Hid (ps = oddsG 0 (LV.take k)) ∧ ps.length ≤ k ∧ Hid (IntRow wr w4.heap.size pv ps) ∧ Hid (Below w4.heap.size w4 wr)) (fun _ i _ => LV.length - (intOf i).toNat)
    case atStart => exact ⟨0, [], Nat.zero_le _, rfl, Lib.hid rfl, Nat.zero_le _, Lib.hid (int_nil _ _), Lib.hid (Below.refl _ _)⟩
    case round =>
      obtain ⟨k, ps, hk, rfl, HO, hol, HR, HB⟩ := hrel
      have hrs := HB.out.size
      by_cases hlk : k < LV.length
      · obtain ⟨vb, vo, rfl, hvlt, hvc, hvl, hvm⟩ := ints_pos (Ints.of_owns HR4.out) (by omega)
        have hcell := (HB.out.cell (p := ⟨vb, vo + k, none⟩) hvlt).trans (hvc k hlk)
        have htk := take_snoc LV 0 k hlk
        obtain ⟨x, hx⟩ : ∃ x, LV.getD k 0 = x := ⟨_, rfl⟩
        rw [hx] at hcell htk
        have hkp := oddsG_snoc (LV.take k) x 0
        rw [← htk, ← HO.out, List.length_take, Nat.zero_add, show min k LV.length = k from by omega] at hkp
        have HKP := Lib.hid hkp
        clear hvc hx htk hkp
        by_cases g1 : Int.tmod x 2 = 1
        · have HK2 := Lib.hid (show ps ++ [(k : Int)] = oddsG 0 (LV.take (k + 1)) from by rw [HKP.out, if_pos g1])
          have g2 : decide (Int.tmod x 2 = 1) = true := by simp [g1]
          go_wp2_with (at_builtin; refine wpList_append_own_at _ rfl _ _ 26 rfl w4.heap.size 3 i0 (.int .i64 0) 1 8 Tryd.underlying26 hi hz0 hz1 hz2 rfl (by decide) u7 ps.length (ps.map (Value.int .i64)) rfl (World.ownsRow.alloc HR.out _) ⟨wr.heap.size, 0, none⟩ 1 1 [.int .i64 (k : Int)] rfl rfl (cell_one_new _ _ _) (by intro u hu; simp at hu; subst hu; rfl) (by unfold maxLen; omega) (by omega) (by simp; omega) ?_; intro pv3 w5 hown hg _ hat; obtain ⟨s1, _, _, s4, s5⟩ := row_app (u := .slice none 0 0) (m := []) (IntRow.nil _ w4.heap.size) (fun g _ => by simp [Value.ownBlock]) hown rfl hg hat; have S1 := Lib.hid s1; have S4 := Lib.hid (s4.toBelow (B := w4.heap.size) (fun i hi => row_base HR.out i (by simpa using hi)) (by omega)); clear s1 s4 hown hg hat)
          exact ⟨⟨k + 1, ps ++ [(k : Int)], hlk, by go_num, HK2, by simp; omega, S1, Lib.hid (HB.out.trans S4.out)⟩, by simp [intOf]; omega⟩
        · have HK2 := Lib.hid (show ps = oddsG 0 (LV.take (k + 1)) from by rw [HKP.out, if_neg g1, List.append_nil])
          have g2 : decide (Int.tmod x 2 = 1) = false := by simp [g1]
          go_wp2_with fail
          exact ⟨⟨k + 1, ps, hlk, by go_num, HK2, by omega, HR, HB⟩, by simp [intOf]; omega⟩
      · have hke : k = LV.length := by omega
        subst hke
        obtain ⟨wz, rfl⟩ : ∃ wz, wz = wr := ⟨_, rfl⟩
        obtain ⟨pao, pcap, rfl⟩ := row_slice HR.out
        have HPS := Lib.hid (show pointsP st (foldP t) = ps.filter (keepP st.left st.right L.length) from by rw [HPS.out, HLV.out, HO.out, List.take_length])
        have HVR := HR
        have HWZ := Lib.hid ((HB13.out.trans (HB4.out.mono hs13)).trans (HB.out.mono (by have := HB4.out.size; omega)))
        have hp65 : ps.length ≤ 65 := by omega
        clear HR HB HO
        go_wp2_with fail
        clear hol hk hlk hrs HLV hll
        have d3 := (HWZ.out.cell (p := ⟨hb, 3, none⟩) hlt).trans c3
        have d4 := (HWZ.out.cell (p := ⟨hb, 4, none⟩) hlt).trans c4
        have hltS := Nat.lt_of_lt_of_le hlt HWZ.out.size
        have hsS := HWZ.out.size
        go_loopw [11, 53] (fun ov i wr => ∃ (k : Nat) (out : List Int), k ≤ ps.length ∧ i = .int .i64 (k : Int) ∧ Hid (out = (ps.take k).filter (keepP lf rt L.length)) ∧ out.length ≤ k ∧ Hid (IntRow wr wz.heap.size ov out) ∧ Hid (Below wz.heap.size wz wr)) (fun _ i _ => ps.length - (intOf i).toNat)
        case atStart => exact ⟨0, [], Nat.zero_le _, rfl, Lib.hid rfl, Nat.zero_le _, Lib.hid (int_nil _ _), Lib.hid (Below.refl _ _)⟩
        case round =>
          obtain ⟨k, out, hk, rfl, HO, hol, HR, HB⟩ := hrel
          have hrs := HB.out.size
          by_cases hlk : k < ps.length
          · obtain ⟨vb, vo, rfl, hvlt, hvc, hvl, hvm⟩ := ints_pos (Ints.of_owns HVR.out) (by omega)
            have hcell := (HB.out.cell (p := ⟨vb, vo + k, none⟩) hvlt).trans (hvc k hlk)
            have d3 := (HB.out.cell (p := ⟨hb, 3, none⟩) hltS).trans d3
            have d4 := (HB.out.cell (p := ⟨hb, 4, none⟩) hltS).trans d4
            have htk := take_snoc ps 0 k hlk
            obtain ⟨x, hx⟩ : ∃ x, ps.getD k 0 = x := ⟨_, rfl⟩
            rw [hx] at hcell htk
            have HKP := Lib.hid (filter_snoc (keepP lf rt L.length) (ps.take k) x)
            rw [← htk, ← HO.out] at HKP
            clear hvc hx htk
            by_cases g1 : lf ≤ x
            · by_cases g2 : x ≤ (L.length : Int) - rt
              · have hkp : keepP lf rt L.length x = true := by unfold keepP; simp [g1, g2]
                have HK2 := Lib.hid (show out ++ [x] = (ps.take (k + 1)).filter (keepP lf rt L.length) from by rw [HKP.out, if_pos hkp])
                clear hkp
                go_wp2_with (at_builtin; refine wpList_append_own_at _ rfl _ _ 26 rfl wz.heap.size 3 i0 (.int .i64 0) 1 8 Tryd.underlying26 hi hz0 hz1 hz2 rfl (by decide) u11 out.length (out.map (Value.int .i64)) rfl (World.ownsRow.alloc HR.out _) ⟨wr.heap.size, 0, none⟩ 1 1 [.int .i64 x] rfl rfl (cell_one_new _ _ _) (by intro u hu; simp at hu; subst hu; rfl) (by unfold maxLen; omega) (by omega) (by simp; omega) ?_; intro pv3 w5 hown hg _ hat; obtain ⟨s1, _, _, s4, s5⟩ := row_app (u := .slice none 0 0) (m := []) (IntRow.nil _ wz.heap.size) (fun g _ => by simp [Value.ownBlock]) hown rfl hg hat; have S1 := Lib.hid s1; have S4 := Lib.hid (s4.toBelow (B := wz.heap.size) (fun i hi => row_base HR.out i (by simpa using hi)) (by omega)); clear s1 s4 hown hg hat)
                exact ⟨⟨k + 1, out ++ [x], hlk, by go_num, HK2, by simp; omega, S1, Lib.hid (HB.out.trans S4.out)⟩, by simp [intOf]; omega⟩
              · have hkp : keepP lf rt L.length x = false := by unfold keepP; simp [g2]
                have HK2 := Lib.hid (show out = (ps.take (k + 1)).filter (keepP lf rt L.length) from by rw [HKP.out, if_neg (by rw [hkp]; simp), List.append_nil])
                clear hkp
                go_wp2_with fail
                exact ⟨⟨k + 1, out, hlk, by go_num, HK2, by omega, HR, HB⟩, by simp [intOf]; omega⟩
            · have hkp : keepP lf rt L.length x = false := by unfold keepP; simp [g1]
              have HK2 := Lib.hid (show out = (ps.take (k + 1)).filter (keepP lf rt L.length) from by rw [HKP.out, if_neg (by rw [hkp]; simp), List.append_nil])
              clear hkp
              go_wp2_with fail
              exact ⟨⟨k + 1, out, hlk, by go_num, HK2, by omega, HR, HB⟩, by simp [intOf]; omega⟩
          · have hke : k = ps.length := by omega
            subst hke
            have HO2 := Lib.hid (show out = pointsP st (foldP t) from by rw [HPS.out, HLF.out, HRT.out, HO.out, List.take_length])
            go_wp2_with fail
            refine bodyPost_ret (v := u11) (by simp [results, Tryd.f15, go_sem]) rfl ⟨_, rfl, HWZ.out.trans (HB.out.mono hsS), by rw [← HO2.out]; exact IntRow.weak HR.out hsS⟩
end Go.Proofs.YtdcdlmigagjbiaaDoor
/- Points and Levels of any word, Last walked. -/
namespace Go.Proofs.YtdcdlmigagjbiaaDoor
open Go.RowKit Go.Maps
theorem LevPost.nil {w : World} {e : Ending} {w' : World} (h : NilPost w e w') : LevPost [] w e w' := by
  obtain ⟨rfl, hb⟩ := h
  exact ⟨_, rfl, hb, int_nil _ _⟩
/-- what Levels returns of a folded word -/
def levP (st : HS) (t : List UInt8) : List Int := match wordP t with | none => [] | some l => levelsP st.pats l
theorem levels_any {w : World} {B hb : Nat} {st : HS} (H : Hyph w B hb st) (G : Good st) {t : List UInt8} (ht : t.length ≤ 100000000) :
    Calls Tryd.prog 14 #[.pointer (some ⟨hb, 0, none⟩), .string ⟨t.toArray⟩] w (LevPost (levP st (foldP t)) w) := by
  unfold levP
  cases hw : wordP (foldP t) with
  | none => exact (levels_no hw ht _ _).mono fun e w' h => LevPost.nil h
  | some L => exact levels_yes H hw ht G.ok
theorem hpoints_any {w : World} {B hb : Nat} {st : HS} (H : Hyph w B hb st) (G : Good st) {t : List UInt8} (ht : t.length ≤ 100000000) :
    Calls Tryd.prog 15 #[.pointer (some ⟨hb, 0, none⟩), .string ⟨t.toArray⟩] w (LevPost (pointsP st (foldP t)) w) := by
  cases hw : wordP (foldP t) with
  | none =>
    have : pointsP st (foldP t) = [] := by unfold pointsP; rw [hw]
    rw [this]
    exact (points_no hw ht _ _).mono fun e w' h => LevPost.nil h
  | some L => exact points_yes H G hw ht
/-- the last of the numbers that are not greater than most -/
def lastP (most : Int) (l : List Int) : Int × Bool := l.foldl (fun a p => if p ≤ most then (p, true) else a) (0, false)
theorem lastP_snoc (most : Int) (l : List Int) (x : Int) : lastP most (l ++ [x]) = if x ≤ most then (x, true) else lastP most l := by
  unfold lastP; rw [List.foldl_append]; rfl
def LastPost (r : Int × Bool) (w : World) (e : Ending) (w' : World) : Prop := e = .returned (.tuple #[.int .i64 r.1, .bool r.2]) ∧ Below w.heap.size w w'
theorem last_nil (t : List UInt8) (most : Int) (w : World) : Calls Tryd.prog 13 #[.pointer none, .string ⟨t.toArray⟩, .int .i64 most] w (LastPost (0, false) w) := by
  go_enter Tryd.func13, Tryd.ntmps13
  go_wp2_with (go_at_call 15; refine (points_nil t _).mono ?_; rintro e w1 ⟨rfl, hb1⟩; have HB1 := Lib.hid hb1; clear hb1)
  go_loopw [8, 9, 16] (fun nv bv i wr => nv = .int .i64 0 ∧ bv = .bool false ∧ i = .int .i64 0 ∧ wr = w1) (fun _ _ _ _ => 0)
  case atStart => exact ⟨rfl, rfl, rfl, rfl⟩
  case round =>
    obtain ⟨rfl, rfl, rfl, rfl⟩ := hrel
    go_wp2_with fail
    refine bodyPost_ret (v := .tuple #[.int .i64 0, .bool false]) (by simp [results, Tryd.f13, go_sem]) rfl ⟨rfl, HB1.out⟩
theorem last_any {w : World} {B hb : Nat} {st : HS} (H : Hyph w B hb st) (G : Good st) {t : List UInt8} (ht : t.length ≤ 100000000) (most : Int) :
    Calls Tryd.prog 13 #[.pointer (some ⟨hb, 0, none⟩), .string ⟨t.toArray⟩, .int .i64 most] w (LastPost (lastP most (pointsP st (foldP t))) w) := by
  have HP := Lib.hid (hpoints_any H G ht)
  obtain ⟨out, ho⟩ : ∃ out, pointsP st (foldP t) = out := ⟨_, rfl⟩
  rw [ho] at HP ⊢
  clear ho H G
  go_enter Tryd.func13, Tryd.ntmps13
  go_wp2_with (go_at_call 15; refine (HP.out).mono ?_; unfold LevPost; rintro e w1 ⟨v, rfl, hb1, hr1⟩; obtain ⟨lao, lcap, rfl⟩ := row_slice hr1; have HB1 := Lib.hid hb1; have HR1 := Lib.hid hr1; clear hb1 hr1)
  go_loopw [8, 9, 16] (fun nv bv i wr => ∃ (k : Nat) (n : Int) (b : Bool), k ≤ out.length ∧ nv = .int .i64 n ∧ bv = .bool b ∧ i = .int .i64 (k : Int) ∧ wr = w1 ∧ Hid (lastP most (out.take k) = (n, b))) (fun _ _ i _ => out.length - (intOf i).toNat)
  case atStart => exact ⟨0, 0, false, Nat.zero_le _, rfl, rfl, rfl, rfl, Lib.hid rfl⟩
  case round =>
    obtain ⟨k, n, b, hk, rfl, rfl, rfl, rfl, HL⟩ := hrel
    by_cases hlk : k < out.length
    · obtain ⟨vb, vo, rfl, hvlt, hvc, hvl, hvm⟩ := ints_pos (Ints.of_owns HR1.out) (by omega)
      have hcell := hvc k hlk
      have htk := take_snoc out 0 k hlk
      obtain ⟨x, hx⟩ : ∃ x, out.getD k 0 = x := ⟨_, rfl⟩
      rw [hx] at hcell htk
      have hls := lastP_snoc most (out.take k) x
      rw [← htk] at hls
      have HLS := Lib.hid hls
      have hkm : k + 1 ≤ 9223372036854775807 := by have := Nat.le_trans hvl hvm; unfold maxLen at this; omega
      clear hvc hx htk hls
      by_cases g : x ≤ most
      · have HL2 := Lib.hid (show lastP most (out.take (k + 1)) = (x, true) from by rw [HLS.out, if_pos g])
        go_wp2_with fail
        exact ⟨⟨k + 1, x, true, hlk, by simp, by simp, by go_num, by simp, HL2⟩, by simp [intOf]; omega⟩
      · have HL2 := Lib.hid (show lastP most (out.take (k + 1)) = (n, b) from by rw [HLS.out, if_neg g]; exact HL.out)
        go_wp2_with fail
        exact ⟨⟨k + 1, n, b, hlk, by simp, by simp, by go_num, by simp, HL2⟩, by simp [intOf]; omega⟩
    · have hke : k = out.length := by omega
      subst hke
      have hl : lastP most out = (n, b) := by have := HL.out; rwa [List.take_length] at this
      have HL2 := Lib.hid hl
      clear hl HL
      go_wp2_with fail
      refine bodyPost_ret (v := .tuple #[.int .i64 n, .bool b]) (by simp [results, Tryd.f13, go_sem]) rfl ⟨by rw [HL2.out], HB1.out⟩
theorem parts_nil (t : List UInt8) (w : World) : Calls Tryd.prog 16 #[.pointer none, .string ⟨t.toArray⟩] w (NilPost w) := by
  go_enter Tryd.func16, Tryd.ntmps16
  go_wp2_with fail
  refine bodyPost_ret (v := .slice none 0 0) (by simp [results, Tryd.f16, go_sem]) rfl ⟨rfl, Below.refl _ _⟩
end Go.Proofs.YtdcdlmigagjbiaaDoor
/- A hyphenator without error is good. -/
namespace Go.Proofs.YtdcdlmigagjbiaaDoor
theorem dash_len : ∀ (l : List Int) (n : Nat), (dash n l).length ≤ l.length
  | [], n => by simp [dash]
  | c :: r, n => by
    have h1 := dash_len r n
    have h2 := dash_len r (n + 1)
    unfold dash
    split <;> simp <;> omega
theorem exP_plen (t : List UInt8) : (exP t).2.1.length ≤ t.length := by
  rw [exP_eq]
  split
  · have h1 := dash_len (ptsI t) 0
    have h2 : (ptsI t).length ≤ t.length := pts_len0 ⟨t.toArray⟩
    exact Nat.le_trans h1 h2
  · exact Nat.zero_le _
theorem newE_zero {pats exs : List (List UInt8)} {left right : Int} (h : newE pats exs left right = 0) : pats.length ≤ 4096 ∧ exs.length ≤ 4096 ∧ fe pats = 0 ∧ exBad exs = false ∧ dupB exs = false ∧ rangeB left right = false := by
  unfold newE at h
  split at h
  · cases h
  rename_i h1
  split at h
  · rename_i h2; exact absurd h h2
  rename_i h2
  split at h
  · cases h
  rename_i h3
  split at h
  · cases h
  rename_i h4
  split at h
  · cases h
  rename_i h5
  exact ⟨by omega, by omega, by simpa using h2, by simpa using h3, by simpa using h4, by simpa using h5⟩
theorem fe_zero : ∀ {l : List (List UInt8)}, fe l = 0 → ∀ s, s ∈ l → (parseP s).1 = 0
  | x :: r, h, s, hs => by
    unfold fe at h
    split at h
    · rename_i h1; exact absurd h h1
    · rename_i h1
      rcases List.mem_cons.1 hs with rfl | hs
      · simpa using h1
      · exact fe_zero h s hs
theorem printP_lv {P : Pat} {t : List UInt8} (h : printP P = (0, t)) : P.levels.length = (ptsI P.letters).length + 1 := by
  unfold printP at h
  split at h
  · cases h
  split at h
  · cases h
  split at h
  · cases h
  split at h
  · cases h
  split at h
  · cases h
  rename_i h5
  simpa using h5
theorem patOk_of {s : List UInt8} (h : (parseP s).1 = 0) : PatOk (parseP s).2 := by
  obtain ⟨h1, _, _, h4⟩ := parseP_zero h
  exact ⟨Nat.pos_of_ne_zero h4, printP_lv h1⟩
theorem exLook_mem {exs : List (List UInt8 × List Int)} {t : List UInt8} {p : List Int} (h : exLook exs t = some p) : (t, p) ∈ exs := by
  induction exs with
  | nil => cases h
  | cons x r ih =>
    have h' : (match exLook r t with | some q => some q | none => if x.1 = t then some x.2 else none) = some p := h
    cases hh : exLook r t with
    | some q =>
      rw [hh] at h' ih
      exact List.mem_cons_of_mem _ (ih h')
    | none =>
      rw [hh] at h'
      by_cases e : x.1 = t
      · simp only [if_pos e] at h'
        obtain rfl := Option.some.inj h'
        rw [← e]
        exact List.mem_cons_self
      · simp only [if_neg e] at h'
        cases h'
theorem rangeB_no {left right : Int} (h : rangeB left right = false) : 1 ≤ left ∧ left ≤ 64 ∧ 1 ≤ right ∧ right ≤ 64 := by
  unfold rangeB at h
  simp only [Bool.or_eq_false_iff, decide_eq_false_iff_not] at h
  omega
theorem good_new {pats exs : List (List UInt8)} {left right : Int} (h : newE pats exs left right = 0) (hl : ∀ s, s ∈ exs → s.length ≤ 100000000) : Good (newS pats exs left right) := by
  obtain ⟨_, _, h3, _, _, h6⟩ := newE_zero h
  have hr := rangeB_no h6
  refine ⟨fun P hP => ?_, hr.2.2, fun t p hp => ?_⟩
  · obtain ⟨s, hs, rfl⟩ := List.mem_map.1 hP
    exact patOk_of (fe_zero h3 s hs)
  · obtain ⟨s, hs, he⟩ := List.mem_map.1 (exLook_mem hp)
    have : p = (exP (foldP s)).2.1 := (congrArg Prod.snd he).symm
    rw [this]
    exact Nat.le_trans (exP_plen _) (by rw [foldP_len]; exact hl s hs)
end Go.Proofs.YtdcdlmigagjbiaaDoor
/- The known dictionary. -/
namespace Go.Proofs.YtdcdlmigagjbiaaDoor
open Go.RowKit Go.Maps
def kP : List (List UInt8) := [[104, 121, 51, 112, 104], [104, 101, 50, 110], [104, 101, 110, 97, 52], [104, 101, 110, 53, 97, 116], [49, 110, 97], [110, 50, 97, 116], [49, 116, 105, 111], [50, 105, 111]]
def kX : List (List UInt8) := [[116, 97, 45, 98, 108, 101]]
def kH : List UInt8 := [104, 121, 112, 104, 101, 110, 97, 116, 105, 111, 110]
def kT : List UInt8 := [84, 97, 98, 108, 101]
theorem k_new : newE kP kX 2 3 = 0 := by decide +kernel
theorem k_one : pointsP (newS kP kX 2 3) (foldP kH) = [2, 6] := by decide +kernel
theorem k_two : pointsP (newS kP kX 2 3) (foldP kT) = [2] := by decide +kernel
theorem strs_blk {w : World} {g : Nat} {l : List (List UInt8)} (h : Blk w g 9 (l.map fun s => Value.string ⟨s.toArray⟩).toArray) : Strs w (.slice (some ⟨g, 0, none⟩) l.length l.length) l := by
  refine ⟨_, _, rfl, fun _ => ⟨g, 0, rfl, h.lt, fun j hj => ?_⟩⟩
  rw [h.cell, Nat.zero_add, List.getElem?_toArray, List.getElem?_map, List.getElem?_eq_getElem hj, List.getD_eq_getElem?_getD, List.getElem?_eq_getElem hj]
  rfl
theorem k_len {s : List UInt8} (h : s ∈ kP ∨ s ∈ kX) : s.length ≤ 100000000 := by
  have : ∀ s, s ∈ kP ∨ s ∈ kX → s.length ≤ 100 := by
    intro s h
    simp only [kP, kX, List.mem_cons, List.not_mem_nil, or_false] at h
    rcases h with (rfl | rfl | rfl | rfl | rfl | rfl | rfl | rfl) | rfl <;> decide
  exact Nat.le_trans (this s h) (by decide)
def NewYes (st : HS) (w : World) (e : Ending) (w' : World) : Prop := ∃ hb, e = .returned (.tuple #[.pointer (some ⟨hb, 0, none⟩), .int .i64 0]) ∧ Below w.heap.size w w' ∧ Hyph w' w.heap.size hb st
theorem new_yes {pats exs : List (List UInt8)} {left right : Int} {w w' : World} {e : Ending} (h0 : newE pats exs left right = 0) (h : NewPost pats exs left right w e w') : NewYes (newS pats exs left right) w e w' := by
  obtain ⟨hb, ⟨h1, _⟩ | ⟨_, b, h2, h3⟩⟩ := h
  · exact absurd h0 h1
  · exact ⟨b, h2, hb, h3⟩
theorem alloc_sz (w : World) (o : Obj) : (w.alloc o).heap.size = w.heap.size + 1 := by simp
def KnPost (w : World) (e : Ending) (w' : World) : Prop := e = .returned (.bool true) ∧ Below w.heap.size w w'
theorem same_row {la lb : List Int} {w : World} {B : Nat} {v : Value} (h : IntRow w B v la) (he : la = lb) (hl : lb.length ≤ 1000000) :
    Calls Tryd.prog 28 #[v, .slice (some ⟨w.heap.size, 0, none⟩) lb.length lb.length] (w.alloc (.cells (OC lb) 3)) (KnPost (w.alloc (.cells (OC lb) 3))) := by
  subst he
  refine (same_any _ _ la la _ (by omega) (by omega) (Ints.of_owns (World.ownsRow.alloc h _)) (Ints.of_owns (blk_row (B := 0) (Blk.new w 3 (OC la)) (Nat.zero_le _) hl))).mono ?_
  unfold SamePost
  rintro e w' ⟨rfl, hb⟩
  exact ⟨by simp, hb⟩
set_option maxRecDepth 100000 in
set_option maxHeartbeats 1000000 in
theorem known_any (w : World) : Calls Tryd.prog 12 #[] w (KnPost w) := by
  have HN := Lib.hid (fun (pvs evs : Value) (w : World) (h1 : Strs w pvs kP) (h2 : Strs w evs kX) => (new_any kP kX 2 3 pvs evs w h1 h2 (fun s h => k_len (.inl h)) (fun s h => k_len (.inr h))).mono (fun e w' h => new_yes k_new h))
  have HG := Lib.hid (good_new k_new (fun s h => k_len (.inr h)))
  have HQ1 := Lib.hid (fun (w : World) (B hb : Nat) (H : Hyph w B hb (newS kP kX 2 3)) => k_one ▸ hpoints_any H HG.out (t := kH) (by decide))
  have HQ2 := Lib.hid (fun (w : World) (B hb : Nat) (H : Hyph w B hb (newS kP kX 2 3)) => k_two ▸ hpoints_any H HG.out (t := kT) (by decide))
  obtain ⟨st, hst⟩ : ∃ st, newS kP kX 2 3 = st := ⟨_, rfl⟩
  rw [hst] at HN HQ1 HQ2
  have HB0 := Lib.hid (((Below.refl w.heap.size w).alloc (Nat.le_refl _) (.cells (kP.map fun s => Value.string ⟨s.toArray⟩).toArray 9)).alloc (by simp) (.cells (kX.map fun s => Value.string ⟨s.toArray⟩).toArray 9))
  have h1 := strs_blk (l := kP) ((Blk.new w 9 (kP.map fun s => Value.string ⟨s.toArray⟩).toArray).alloc (.cells (kX.map fun s => Value.string ⟨s.toArray⟩).toArray 9))
  have h2 := strs_blk (l := kX) (Blk.new (w.alloc (.cells (kP.map fun s => Value.string ⟨s.toArray⟩).toArray 9)) 9 (kX.map fun s => Value.string ⟨s.toArray⟩).toArray)
  have HN0 := Lib.hid (HN.out _ _ _ h1 h2)
  rw [show (w.alloc (.cells (kP.map fun s => Value.string ⟨s.toArray⟩).toArray 9)).heap.size = w.heap.size + 1 from alloc_sz _ _] at HN0
  clear HG hst h1 h2 HN
  go_enter Tryd.func12, Tryd.ntmps12
  go_wp2_with (first
    | (go_at_call 25; refine HN0.out.mono ?_; unfold NewYes; rintro e w1 ⟨hb, rfl, hb1, hh⟩; have HB1 := Lib.hid (HB0.out.trans (hb1.mono HB0.out.size)); have HH1 := Lib.hid hh; clear hb1 hh)
    | (go_at_call 28; refine (same_row HR4.out (lb := [2]) rfl (by decide)).mono ?_; unfold KnPost; rintro e w5 ⟨rfl, hb5⟩; have HB5 := Lib.hid (((HB4.out.alloc HB4.out.size _).trans (hb5.mono (Nat.le_trans HB4.out.size (by rw [alloc_sz]; omega))))); clear hb5)
    | (go_at_call 15; refine (HQ2.out _ _ _ HH3.out).mono ?_; unfold LevPost; rintro e w4 ⟨v4, rfl, hb4, hr4⟩; have HB4 := Lib.hid hb4; have HR4 := Lib.hid hr4; clear hb4 hr4)
    | (go_at_call 28; refine (same_row HR2.out (lb := [2, 6]) rfl (by decide)).mono ?_; unfold KnPost; rintro e w3 ⟨rfl, hb3⟩; have HB3 := Lib.hid (((HB2.out.alloc HB2.out.size _).trans (hb3.mono (Nat.le_trans HB2.out.size (by rw [alloc_sz]; omega))))); have HH3 := Lib.hid (HH1.out.below HB3.out); clear hb3)
    | (go_at_call 15; refine (HQ1.out _ _ _ HH1.out).mono ?_; unfold LevPost; rintro e w2 ⟨v2, rfl, hb2, hr2⟩; have HB2 := Lib.hid hb2; have HR2 := Lib.hid hr2; clear hb2 hr2))
  refine bodyPost_ret (v := .bool true) (by simp [results, Tryd.f12, go_sem]) rfl ⟨rfl, HB1.out.trans ((HB3.out.trans (HB5.out.mono HB3.out.size)).mono HB1.out.size)⟩
end Go.Proofs.YtdcdlmigagjbiaaDoor
