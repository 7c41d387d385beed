/- New walked. -/
import Derived.Test.YtdcdlmigagjbiaaDoorHym
import Derived.Deep.RegionHeld3
namespace Go.Proofs.YtdcdlmigagjbiaaDoor
open Go.RowKit Go.Maps
theorem ownsMap_empty {H : Type} {P : Program} {k : TypeId} {R : Value → Option (DataW H × List MemPlace)} {w : World} {b : Nat} (h : w.heap[b]? = some (.map #[] 0)) : w.ownsMap P k R b 0 (.map []) := by
  obtain ⟨es, c, h1, h2⟩ := World.ownsMap_made w P k R
  rw [heap_alloc_new] at h1
  injection h1 with h1
  injection h1 with e1 e2
  subst e1 e2
  exact ⟨#[], 0, h, h2⟩
theorem exmap_empty {w : World} {B eb : Nat} (h : w.heap[eb]? = some (.map #[] 0)) : ExMap w B eb [] :=
  ⟨0, .map [], ownsMap_empty h, Nat.le_refl _, fun t => ⟨rfl, fun p hp => by cases hp⟩⟩
def rootTN (hb eb : Nat) (left right : Int) : TN := ⟨hb, none, .slice none 0 0, [], [.map (some eb), .int .i64 left, .int .i64 right], 71⟩
def fOne (hb eb : Nat) (left right : Int) : TF := fun q => if q = [] then some (rootTN hb eb left right) else none
theorem fOne_nil (hb eb : Nat) (left right : Int) : fOne hb eb left right [] = some (rootTN hb eb left right) := if_pos rfl
theorem fOne_snoc (hb eb : Nat) (left right : Int) (q : List Int) (c : Int) : fOne hb eb left right (q ++ [c]) = none := if_neg (by simp)
theorem fOne_inv {hb eb : Nat} {left right : Int} {q : List Int} {n : TN} (h : fOne hb eb left right q = some n) : q = [] ∧ n = rootTN hb eb left right := by
  unfold fOne at h
  split at h
  · rename_i e; exact ⟨e, (Option.some.inj h).symm⟩
  · cases h
theorem trie_init (w : World) (left right : Int) (W : World) (hW : (w.alloc (.map #[] 0)).alloc (.cells #[.map none, .slice none 0 0, .map (some w.heap.size), .int .i64 left, .int .i64 right] 71) = W) :
    Trie W w.heap.size (w.heap.size + 1) w.heap.size (some (.map #[] 0)) (fOne (w.heap.size + 1) w.heap.size left right) 0 ∧ Below w.heap.size w W ∧ W.heap.size = w.heap.size + 2 := by
  subst hW
  have hs : (w.alloc (.map #[] 0)).heap.size = w.heap.size + 1 := by simp
  have hb := Blk.new (w.alloc (.map #[] 0)) 71 #[.map none, .slice none 0 0, .map (some w.heap.size), .int .i64 left, .int .i64 right]
  rw [hs] at hb
  have he : ((w.alloc (.map #[] 0)).alloc (.cells #[.map none, .slice none 0 0, .map (some w.heap.size), .int .i64 left, .int .i64 right] 71)).heap[w.heap.size]? = some (.map #[] 0) :=
    (Below.heap_alloc _ _ _ (by rw [hs]; omega)).trans (heap_alloc_new w _)
  refine ⟨⟨⟨_, fOne_nil _ _ _ _, rfl⟩, fun q c h => ?_, fun q n h => ?_, fun q n h => ?_, fun q n h _ c => fOne_snoc _ _ _ _ q c, fun q n m h hm => ?_, fun q q' n n' h h' _ => ?_, fun q q' n n' m h h' hm _ => ?_, fun q q' n n' g h h' hg _ => ?_, ⟨_, _, he⟩, Nat.le_refl _, he⟩, ((Below.refl _ w).alloc (Nat.le_refl _) _).alloc (by rw [hs]; omega) _, by simp⟩
  · rw [fOne_snoc] at h; cases h
  · obtain ⟨rfl, rfl⟩ := fOne_inv h
    exact ⟨by simpa [rootTN] using hb, .inr rfl, by simp [rootTN]⟩
  · obtain ⟨rfl, rfl⟩ := fOne_inv h
    exact ⟨[], World.ownsRow_nil _ _ _ _, trivial⟩
  · obtain ⟨rfl, rfl⟩ := fOne_inv h
    cases hm
  · rw [(fOne_inv h).1, (fOne_inv h').1]
  · obtain ⟨rfl, rfl⟩ := fOne_inv h
    cases hm
  · rw [(fOne_inv h).1, (fOne_inv h').1]
theorem contT_one (hb eb : Nat) (left right : Int) (q : List Int) : contT (fOne hb eb left right) q = [] := by
  unfold contT fOne
  by_cases h : q = []
  · rw [if_pos h]; rfl
  · rw [if_neg h]
theorem root_one (hb eb : Nat) (left right : Int) : RootOf (fOne hb eb left right) hb [.map (some eb), .int .i64 left, .int .i64 right] 71 := ⟨_, fOne_nil _ _ _ _, rfl, rfl, rfl⟩
/-- the trie holds the patterns -/
def Holds (f : TF) (ps : List Pat) : Prop := ∀ q, contT f q = ps.filter fun P => decide (ptsI P.letters = q)
theorem Holds.add {f f' : TF} {ps : List Pat} {P : Pat} {L : List Int} (h : Holds f ps) (hL : ptsI P.letters = L) (h' : ∀ q, contT f' q = contT f q ++ (if q = L then [P] else [])) : Holds f' (ps ++ [P]) := by
  intro q
  rw [h' q, h q, List.filter_append]
  congr 1
  by_cases e : q = L
  · rw [if_pos e, List.filter_cons_of_pos (by rw [hL, e]; simp)]; rfl
  · rw [if_neg e, List.filter_cons_of_neg (by rw [hL]; simpa using fun h => e h.symm)]; rfl
theorem holds_len {f : TF} {ps : List Pat} (h : Holds f ps) (q : List Int) : (contT f q).length ≤ ps.length := by rw [h q]; exact List.length_filter_le _ _
theorem strs_at {w wr : World} {ao : Option Addr} {cap : Nat} {l : List (List UInt8)} (h : Strs w (.slice ao l.length cap) l) (hb : Below w.heap.size w wr) {k : Nat} (hk : k < l.length) :
    ∃ b off, ao = some ⟨b, off, none⟩ ∧ wr.cell? ⟨b, off + k, none⟩ = some (.string ⟨(l.getD k []).toArray⟩) := by
  obtain ⟨ao', cap', h1, h2⟩ := h
  injection h1 with e1 _ _
  obtain ⟨b, off, e, hlt, hc⟩ := h2 (by omega)
  exact ⟨b, off, e1.trans e, (hb.cell (p := ⟨b, off + k, none⟩) hlt).trans (hc k hk)⟩
theorem encI_filter (l : List Int) (p : Int → Bool) : (encI (l.filter p)).length ≤ (encI l).length := by
  induction l with
  | nil => exact Nat.le_refl _
  | cons x r ih =>
    by_cases h : p x = true
    · rw [List.filter_cons_of_pos h, encI_cons, encI_cons, List.length_append, List.length_append]; omega
    · rw [List.filter_cons_of_neg h, encI_cons, List.length_append]; omega
theorem exP_len (t : List UInt8) : (exP t).1.length ≤ t.length := by
  rw [exP_eq]
  split
  · rename_i h
    rw [Bool.and_eq_true] at h
    have := encI_filter (ptsI t) (fun c => !decide (c = 45))
    rw [encI_valid h.1] at this
    exact this
  · exact Nat.zero_le _
theorem nodup_snoc {exs : List (List UInt8)} {j : Nat} {s wd : List UInt8} {ps : List Int} {dbl : Bool} (h : exs.take (j + 1) = exs.take j ++ [s]) (hxx : exOf s = (wd, ps)) (hd : dbl = !decide (((exs.take j).map fun s => (exOf s).1).Nodup)) :
    (dbl || (exLook ((exs.take j).map exOf) wd).isSome) = !decide (((exs.take (j + 1)).map fun s => (exOf s).1).Nodup) := by
  have e1 : (exLook ((exs.take j).map exOf) wd).isSome = decide (wd ∈ (exs.take j).map fun s => (exOf s).1) := by
    rw [Bool.eq_iff_iff, exLook_some, List.map_map, decide_eq_true_eq]
    rfl
  rw [e1, hd, h, List.map_append, List.map_cons, List.map_nil, hxx]
  generalize (exs.take j).map (fun s => (exOf s).1) = l
  have e2 : (l ++ [wd]).Nodup ↔ l.Nodup ∧ wd ∉ l := by
    rw [List.nodup_append]
    constructor
    · rintro ⟨a, _, c⟩
      exact ⟨a, fun hm => c wd hm wd (by simp) rfl⟩
    · rintro ⟨a, b⟩
      exact ⟨a, by simp, fun x hm1 y hy e => by
        obtain rfl : y = wd := by simpa using hy
        subst e
        exact b hm1⟩
  by_cases hn : l.Nodup <;> by_cases hm : wd ∈ l <;> simp [e2, hn, hm]
theorem IntRow.drewN {w : World} {B : Nat} {v : Value} {l : List Int} (h : IntRow w B v l) (n : Nat) : IntRow (w.drewN n) B v l := h
set_option maxRecDepth 100000 in
set_option maxHeartbeats 8000000 in
theorem new_any (pats exs : List (List UInt8)) (left right : Int) (pvs evs : Value) (w : World) (hp : Strs w pvs pats) (he : Strs w evs exs) (hpl : ∀ s, s ∈ pats → s.length ≤ 100000000) (hel : ∀ s, s ∈ exs → s.length ≤ 100000000) :
    Calls Tryd.prog 25 #[pvs, evs, .int .i64 left, .int .i64 right] w (NewPost pats exs left right w) := by
  obtain ⟨pao, pcap, rfl, _⟩ := id hp
  obtain ⟨eao, ecap, rfl, _⟩ := id he
  have hmm := @run_makeMap Tryd.prog
  have HPS := Lib.hid hp
  have HES := Lib.hid he
  have HPL := Lib.hid hpl
  have HEL := Lib.hid hel
  clear hp he hpl hel
  by_cases h1 : 4096 < pats.length
  · have d1 : decide (4096 < pats.length) = true := by simp [h1]
    have HE := Lib.hid (show newE pats exs left right = 9 by unfold newE; rw [if_pos (.inl h1)])
    go_enter Tryd.func25, Tryd.ntmps25
    go_wp2_with fail
    refine bodyPost_ret (v := .tuple #[.pointer none, .int .i64 9]) (by simp [results, Tryd.f25, go_sem]) rfl (newPost_no HE.out (by decide) (Below.refl _ _))
  by_cases h2 : 4096 < exs.length
  · have d1 : decide (4096 < pats.length) = false := by simp [h1]
    have d2 : decide (4096 < exs.length) = true := by simp [h2]
    have HE := Lib.hid (show newE pats exs left right = 9 by unfold newE; rw [if_pos (.inr h2)])
    go_enter Tryd.func25, Tryd.ntmps25
    go_wp2_with fail
    refine bodyPost_ret (v := .tuple #[.pointer none, .int .i64 9]) (by simp [results, Tryd.f25, go_sem]) rfl (newPost_no HE.out (by decide) (Below.refl _ _))
  have d1 : decide (4096 < pats.length) = false := by simp [h1]
  have d2 : decide (4096 < exs.length) = false := by simp [h2]
  have HE0 := Lib.hid (show newE pats exs left right = if fe pats ≠ 0 then fe pats else if exBad exs = true then 14 else if dupB exs = true then 7 else if rangeB left right = true then 2 else 0 by unfold newE; rw [if_neg (by omega)])
  have hpn : pats.length ≤ 4096 := by omega
  have hen : exs.length ≤ 4096 := by omega
  go_enter Tryd.func25, Tryd.ntmps25
  go_wp2_with fail
  obtain ⟨W, hW⟩ : ∃ W, (w.alloc (.map #[] 0)).alloc (.cells #[.map none, .slice none 0 0, .map (some w.heap.size), .int .i64 left, .int .i64 right] 71) = W := ⟨_, rfl⟩
  obtain ⟨t1, t2, t3⟩ := trie_init w left right W hW
  simp only [hW]
  have T1 := Lib.hid t1
  have T2 := Lib.hid t2
  clear t1 t2 hW
  go_loopw [40] (fun i wr => ∃ (k K : Nat) (f : TF), k ≤ pats.length ∧ i = .int .i64 (k : Int) ∧ K ≤ 40 * k ∧ Hid (Trie wr w.heap.size (w.heap.size + 1) w.heap.size (some (.map #[] 0)) f K) ∧ Hid (RootOf f (w.heap.size + 1) [.map (some w.heap.size), .int .i64 left, .int .i64 right] 71) ∧ Hid (Holds f ((pats.take k).map fun s => (parseP s).2)) ∧ Hid (Below w.heap.size w wr) ∧ Hid (∀ j, j < k → (parseP (pats.getD j [])).1 = 0)) (fun i _ => pats.length - (intOf i).toNat)
  case atStart => exact ⟨0, 0, _, Nat.zero_le _, rfl, Nat.zero_le _, T1, Lib.hid (root_one _ _ _ _), Lib.hid (fun q => by rw [contT_one]; rfl), T2, Lib.hid (fun j hj => absurd hj (Nat.not_lt_zero j))⟩
  case round =>
    obtain ⟨k, K, f, hk, rfl, hK, HT, HR, HH, HB, HA⟩ := hrel
    have hws := HB.out.size
    by_cases hlt : k < pats.length
    · obtain ⟨pb, poff, rfl, hcell⟩ := strs_at HPS.out HB.out hlt
      have hsm : pats.getD k [] ∈ pats := by rw [List.getD_eq_getElem?_getD, List.getElem?_eq_getElem hlt]; exact List.getElem_mem hlt
      have htk := take_snoc pats [] k hlt
      have HFE := Lib.hid (fe_at pats k hlt HA.out)
      have HA2 := Lib.hid (fun (h0 : (parseP (pats.getD k [])).1 = 0) (j : Nat) (hj : j < k + 1) => show (parseP (pats.getD j [])).1 = 0 by
        rcases Nat.lt_or_ge j k with hx | hx
        · exact HA.out j hx
        · have : j = k := by omega
          rw [this]; exact h0)
      obtain ⟨s, hs⟩ : ∃ s, pats.getD k [] = s := ⟨_, rfl⟩
      rw [hs] at hcell hsm htk HFE HA2
      have hsl := HPL.out s hsm
      have HTK := Lib.hid htk
      clear hs hsm htk
      obtain ⟨e, P, hpe⟩ : ∃ e P, parseP s = (e, P) := ⟨_, _, rfl⟩
      have HPE := Lib.hid hpe
      clear hpe
      by_cases he0 : e = 0
      · subst he0
        have hz : (parseP s).1 = 0 := by rw [HPE.out]
        obtain ⟨_, z1, z2, _⟩ := parseP_zero hz
        rw [HPE.out] at z1 z2
        have HLE := Lib.hid z1
        have HA3 := Lib.hid (HA2.out hz)
        have hPl : P.letters.length ≤ 4294967296 := by
          have := HPE.out
          unfold parseP at this
          rw [HPE.out] at hz
          have hh := parseP_zero (s := s) (by rw [HPE.out])
          rw [HPE.out] at hh
          have h3 := encI_le (ptsI P.letters)
          have h4 := encI_valid (l := P.letters) (letsP_iff.1 hh.2.1).1
          rw [h4] at h3
          have h5 : (ptsI P.letters).length ≤ 40 := hh.2.2.1
          omega
        clear z1 hz
        have HLP := Lib.hid (show ∀ c, c ∈ ptsI P.letters → -9223372036854775808 ≤ c ∧ c ≤ 9223372036854775807 from fun c hc => by
          have h1 := okI_pts P.letters
          unfold okI at h1
          have h2 := (isPtI_iff c).1 (List.all_eq_true.1 h1 c hc)
          omega)
        have HCN := Lib.hid (show (contT f (ptsI P.letters)).length ≤ 1000000 by
          have h1 := holds_len HH.out (ptsI P.letters)
          rw [List.length_map, List.length_take] at h1
          omega)
        go_wp2_with (first
          | (go_at_call 20; refine (parse_any s hsl _).mono ?_; unfold ParsePost; rw [HPE.out]; rintro e1 w1 ⟨pv, rfl, hb1, hr1⟩; obtain ⟨vao, vcap, rfl⟩ := row_slice hr1; unfold patV; have hs1 := hb1.size)
          | (go_at_call 39; refine (lets_yes HLE.out hPl _).mono ?_; rintro e3 w3 ⟨lao, lcap, rfl, hb3, hr3⟩; have HT3 := Lib.hid ((((HT.out.below hb1).alloc _).below hb3)); have BP3 := Lib.hid ((Blk.new w1 33 #[.string ⟨P.letters.toArray⟩, .slice vao P.levels.length vcap, .bool P.beg, .bool P.fin]).below hb3 (by simp)); obtain ⟨b0, b1, b2, b3⟩ := BP3.out.four; have hs3 := hb3.size; simp only [World.size_alloc] at hs3; have HP3 := Lib.hid (IntRow.weak (row_turn hr1 (((Turn.refl [] w1).alloc (.cells #[.string ⟨P.letters.toArray⟩, .slice vao P.levels.length vcap, .bool P.beg, .bool P.fin] 33)).below hb3 (by simp)) (fun _ _ => by simp)) hws); have HL3 := Lib.hid (IntRow.weak hr3.out (show w.heap.size ≤ _ by simp; omega)); have HB3 := Lib.hid ((HB.out.trans (hb1.mono hws)).trans (((Below.refl w.heap.size w1).alloc (by omega) (.cells #[.string ⟨P.letters.toArray⟩, .slice vao P.levels.length vcap, .bool P.beg, .bool P.fin] 33)).trans (hb3.mono (by simp; omega))))))
        go_region_law (first
            | (go_simp; go_at_call 46; refine (add_any (HT3.out.below (below_drewN (Below.refl _ _) _)) HR.out (ptsI P.letters) P _ _ (IntRow.drewN HL3.out _) (IntRow.drewN HP3.out _) HLP.out (by omega) HCN.out (show w.heap.size ≤ w3.heap.size by omega)).mono ?_; rintro e4 w4 ⟨rfl, hb4, f4, t4, r4, c4⟩; have T4 := Lib.hid t4; have R4 := Lib.hid r4; have C4 := Lib.hid (HH.out.add rfl c4); have B4 := Lib.hid (HB3.out.trans (below_undrewN hb4)); clear t4 r4 c4 hb4))
        all_goals
          go_wp2_with fail
          exact ⟨⟨k + 1, K + (ptsI P.letters).length, f4, hlt, by go_num, by omega, T4, R4, Lib.hid (by rw [HTK.out, List.map_append]; have := C4.out; rw [show (fun s => (parseP s).2) = (fun s : List UInt8 => (parseP s).2) from rfl]; simpa [HPE.out] using this), B4, HA3⟩, by simp [intOf]; omega⟩
      · have dz : (e = 0) = False := by simp [he0]
        have HEE := Lib.hid (show newE pats exs left right = e by
          have h1 := HFE.out (by rw [HPE.out]; exact he0)
          rw [HPE.out] at h1
          rw [HE0.out, h1, if_pos he0])
        go_wp2_with (go_at_call 20; refine (parse_any s hsl _).mono ?_; unfold ParsePost; rw [HPE.out]; rintro e1 w1 ⟨pv, rfl, hb1, hr1⟩; obtain ⟨vao, vcap, rfl⟩ := row_slice hr1; unfold patV; have hs1 := hb1.size)
        refine bodyPost_ret (v := .tuple #[.pointer none, .int .i64 (e : Int)]) (by simp [results, Tryd.f25, go_sem]) rfl (newPost_no HEE.out he0 ((HB.out.trans (hb1.mono hws)).alloc (by have := hb1.size; omega) _))
    · have hke : k = pats.length := by omega
      subst hke
      have hall : pats.take pats.length = pats := List.take_length
      have HH2 := Lib.hid (show Holds f (pats.map fun s => (parseP s).2) by have := HH.out; rwa [hall] at this)
      have HF0 := Lib.hid (fe_none pats (fun j hj => HA.out j (by omega)))
      have d7 : decide (pats.length < pats.length) = false := by simp
      have HX0 := Lib.hid (exmap_empty (B := w.heap.size) HT.out.ex.2.2)
      clear hall HH HA
      go_wp2_with fail
      go_loopw [17, 67] (fun dv i wr => ∃ (j : Nat) (dbl : Bool) (eo : Option Obj), j ≤ exs.length ∧ i = .int .i64 (j : Int) ∧ dv = .bool dbl ∧ Hid (Trie wr w.heap.size (w.heap.size + 1) w.heap.size eo f K) ∧ Hid (ExMap wr w.heap.size w.heap.size ((exs.take j).map exOf)) ∧ Hid (Below w.heap.size w wr) ∧ Hid (∀ i, i < j → (exP (foldP (exs.getD i []))).2.2 = true) ∧ Hid (dbl = !decide (((exs.take j).map fun s => (exOf s).1).Nodup))) (fun _ i _ => exs.length - (intOf i).toNat)
      case atStart => exact ⟨0, false, _, Nat.zero_le _, rfl, rfl, HT, HX0, HB, Lib.hid (fun i hi => absurd hi (Nat.not_lt_zero i)), Lib.hid (by simp)⟩
      case round =>
        clear HX0 HT HB
        obtain ⟨j, dbl, eo, hj, rfl, rfl, HT, HX, HB, HA, HD⟩ := hrel
        have hws2 := HB.out.size
        by_cases hlt2 : j < exs.length
        · obtain ⟨pb, poff, rfl, hcell⟩ := strs_at HES.out HB.out hlt2
          have hsm : exs.getD j [] ∈ exs := by rw [List.getD_eq_getElem?_getD, List.getElem?_eq_getElem hlt2]; exact List.getElem_mem hlt2
          have htk := take_snoc exs [] j hlt2
          have HBD := Lib.hid (bad_at (l := exs) (k := j) hlt2)
          have HA2 := Lib.hid (fun (h0 : (exP (foldP (exs.getD j []))).2.2 = true) (i : Nat) (hi : i < j + 1) => show (exP (foldP (exs.getD i []))).2.2 = true by
            rcases Nat.lt_or_ge i j with hx | hx
            · exact HA.out i hx
            · have : i = j := by omega
              rw [this]; exact h0)
          obtain ⟨s, hs⟩ : ∃ s, exs.getD j [] = s := ⟨_, rfl⟩
          rw [hs] at hcell hsm htk HBD HA2
          have hsl := HEL.out s hsm
          have HTK := Lib.hid htk
          have hfl : (foldP s).length ≤ 100000000 := by unfold foldP; rw [List.length_map]; exact hsl
          have hwl := exP_len (foldP s)
          clear hs hsm htk
          obtain ⟨wd, ps, ok, hx⟩ : ∃ wd ps ok, exP (foldP s) = (wd, ps, ok) := ⟨_, _, _, rfl⟩
          have HXP := Lib.hid hx
          rw [hx] at hwl
          have hwl2 : wd.length ≤ 4294967296 := Nat.le_trans hwl (by omega)
          clear hx hwl
          cases ok with
          | false =>
            have HEE := Lib.hid (show newE pats exs left right = 14 by
              rw [HE0.out, HF0.out, HBD.out (by rw [HXP.out])]; rfl)
            go_wp2_with (first
              | (go_at_call 29; refine (fold_at s (by omega) _).mono ?_; rintro e2 w3 ⟨rfl, hb3⟩; have hs3 := hb3.size)
              | (go_at_call 47; refine (exception_any (foldP s) hfl _).mono ?_; unfold ExPost; rw [HXP.out]; rintro e2 w4 ⟨pv, rfl, hb4, hr4⟩))
            refine bodyPost_ret (v := .tuple #[.pointer none, .int .i64 14]) (by simp [results, Tryd.f25, go_sem]) rfl (newPost_no HEE.out (by decide) ((HB.out.trans (hb3.mono hws2)).trans (hb4.mono (by omega))))
          | true =>
            have HA3 := Lib.hid (HA2.out (by rw [HXP.out]))
            have hex : exOf s = (wd, ps) := by unfold exOf; rw [HXP.out]
            have HEX := Lib.hid hex
            clear hex
            cases dbl
            all_goals
              go_wp2_with (first
                | (go_at_call 29; refine (fold_at s (by omega) _).mono ?_; rintro e2 w3 ⟨rfl, hb3⟩; have hs3 := hb3.size)
                | (go_at_call 47; refine (exception_any (foldP s) hfl _).mono ?_; unfold ExPost; rw [HXP.out]; rintro e2 w4 ⟨pv, rfl, hb4, hr4⟩; have hs4 := hb4.size; obtain ⟨vao, vcap, rfl⟩ := row_slice hr4; have HT4 := Lib.hid ((HT.out.below hb3).below hb4); have HX4 := Lib.hid ((HX.out.below hb3).below hb4); have HB4 := Lib.hid ((HB.out.trans (hb3.mono hws2)).trans (hb4.mono (by omega))); obtain ⟨mb, pvr, hblk⟩ := RootOf.blk HT4.out HR.out; have c2 := hblk.cell 2; simp at c2; obtain ⟨n, D, x1, x2, x3⟩ := HX4.out; have hnl : n ≤ 4096 := (by rw [List.length_map, List.length_take] at x2; omega); obtain ⟨lv, lps, hl, _⟩ := x1.look_ok skey Tryd.underlying69 (z := .slice none 0 0) (by kernel_rfl) (zd := .held (.slice none 0 0)) (zp := []) rfl (kSkey wd hwl2); rw [(x3 wd).1] at hl; obtain ⟨bb, hbb⟩ : ∃ bb, (exLook ((exs.take j).map exOf) wd).isSome = bb := ⟨_, rfl⟩; rw [hbb] at hl; have HBB := Lib.hid hbb; clear hbb; have X1 := Lib.hid x1; have X2 := Lib.hid x2; have X3 := Lib.hid x3; have HR4 := Lib.hid (IntRow.weak hr4 (show w.heap.size ≤ _ by omega)); clear x1 x2 x3 hblk)
                | (at_mapUpdate; refine wpList_mapUpdate_in _ rfl _ _ _ 69 rfl 9 26 skey Tryd.underlying69 _ w.heap.size _ _ rfl X1.out (by unfold maxLen; omega) _ _ _ rfl rfl (kSkey wd hwl2) _ [] rfl ?_; intro w5 ho ht; have HX5 := Lib.hid (ExMap.put X1.out X2.out X3.out HR4.out ho ht); have HT5 := Lib.hid (HT4.out.exturn ht); have HB5 := Lib.hid (HB4.out.trans ((mapTurned_turn ht).toBelow (B := w.heap.size) (fun i hi => by simp at hi; omega) (by omega))); clear ho ht))
              have HD2 := nodup_snoc HTK.out HEX.out HD.out
              rw [HBB.out] at HD2
              exact ⟨⟨j + 1, _, _, hlt2, by go_num, rfl, HT5, Lib.hid (by rw [HTK.out, List.map_append, List.map_cons, List.map_nil, HEX.out]; exact HX5.out), HB5, HA3, Lib.hid HD2⟩, by simp [intOf]; omega⟩
        · have hje : j = exs.length := by omega
          subst hje
          have hall : exs.take exs.length = exs := List.take_length
          have HX2 := Lib.hid (show ExMap wr w.heap.size w.heap.size (exs.map exOf) by have := HX.out; rwa [hall] at this)
          have HNB := Lib.hid (bad_none (l := exs) (fun i hi => HA.out i (by omega)))
          have HDB := Lib.hid (show dupB exs = dbl by have := HD.out; rw [hall] at this; rw [this]; rfl)
          have d8 : decide (exs.length < exs.length) = false := by simp
          have HEE := Lib.hid (show newE pats exs left right = if dbl = true then 7 else if rangeB left right = true then 2 else 0 by
            rw [HE0.out, HF0.out, HNB.out, HDB.out]; rfl)
          clear hall HX HA HD
          cases dbl with
          | true =>
            go_wp2_with fail
            refine bodyPost_ret (v := .tuple #[.pointer none, .int .i64 7]) (by simp [results, Tryd.f25, go_sem]) rfl (newPost_no (n := 7) (by rw [HEE.out]; rfl) (by decide) HB.out)
          | false =>
            by_cases r1 : left < 1
            · have e1 : decide (left < 1) = true := by simp [r1]
              have HRB := Lib.hid (show rangeB left right = true by unfold rangeB; rw [e1]; rfl)
              go_wp2_with fail
              refine bodyPost_ret (v := .tuple #[.pointer none, .int .i64 2]) (by simp [results, Tryd.f25, go_sem]) rfl (newPost_no (n := 2) (by rw [HEE.out, HRB.out]; rfl) (by decide) HB.out)
            have e1 : decide (left < 1) = false := by simp [r1]
            by_cases r2 : 64 < left
            · have e2 : decide (64 < left) = true := by simp [r2]
              have HRB := Lib.hid (show rangeB left right = true by unfold rangeB; rw [e1, e2]; rfl)
              go_wp2_with fail
              refine bodyPost_ret (v := .tuple #[.pointer none, .int .i64 2]) (by simp [results, Tryd.f25, go_sem]) rfl (newPost_no (n := 2) (by rw [HEE.out, HRB.out]; rfl) (by decide) HB.out)
            have e2 : decide (64 < left) = false := by simp [r2]
            by_cases r3 : right < 1
            · have e3 : decide (right < 1) = true := by simp [r3]
              have HRB := Lib.hid (show rangeB left right = true by unfold rangeB; rw [e1, e2, e3]; rfl)
              go_wp2_with fail
              refine bodyPost_ret (v := .tuple #[.pointer none, .int .i64 2]) (by simp [results, Tryd.f25, go_sem]) rfl (newPost_no (n := 2) (by rw [HEE.out, HRB.out]; rfl) (by decide) HB.out)
            have e3 : decide (right < 1) = false := by simp [r3]
            by_cases r4 : 64 < right
            · have e4 : decide (64 < right) = true := by simp [r4]
              have HRB := Lib.hid (show rangeB left right = true by unfold rangeB; rw [e1, e2, e3, e4]; rfl)
              go_wp2_with fail
              refine bodyPost_ret (v := .tuple #[.pointer none, .int .i64 2]) (by simp [results, Tryd.f25, go_sem]) rfl (newPost_no (n := 2) (by rw [HEE.out, HRB.out]; rfl) (by decide) HB.out)
            have e4 : decide (64 < right) = false := by simp [r4]
            have HRB := Lib.hid (show rangeB left right = false by unfold rangeB; rw [e1, e2, e3, e4]; rfl)
            go_wp2_with fail
            refine bodyPost_ret (v := .tuple #[.pointer (some ⟨w.heap.size + 1, 0, none⟩), .int .i64 0]) (by simp [results, Tryd.f25, go_sem]) rfl (newPost_yes (by rw [HEE.out, HRB.out]; rfl) HB.out ⟨w.heap.size, eo, f, K, HT.out, HR.out, HH2.out, HX2.out⟩)
end Go.Proofs.YtdcdlmigagjbiaaDoor
