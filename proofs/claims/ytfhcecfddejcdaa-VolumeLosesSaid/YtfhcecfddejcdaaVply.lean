/- play: up to forty operations on a device and on the model. -/
import Derived.Test.YtfhcecfddejcdaaVagr
import Derived.Deep.RegionHeld3
namespace Go.Proofs.Ytfhcecfddejcdaa
attribute [local go_sem ↓] Go.wp_at_zero Go.wp_at_succ
open Go.RowKit Go.Maps

/-- four cells in a row of a block hold one operation -/
def OpAt (w : World) (b j : Nat) (o : OpV) : Prop := o.ok ∧ w.cell? ⟨b, j, none⟩ = some (.int .u8 (o.kind : Int)) ∧ w.cell? ⟨b, j + 1, none⟩ = some (.int .u8 (o.sector : Int)) ∧ w.cell? ⟨b, j + 2, none⟩ = some (.int .u8 (o.data : Int)) ∧ w.cell? ⟨b, j + 3, none⟩ = some (.int .i64 o.num)
/-- a slice of operations -/
def Ops (w : World) (v : Value) (l : List OpV) : Prop :=
  ∃ (ao : Option Addr) (cap : Nat), v = .slice ao l.length cap ∧ l.length ≤ maxLen ∧ (0 < l.length → ∃ b off, ao = some ⟨b, off, none⟩ ∧ b < w.heap.size ∧ ∀ i (h : i < l.length), OpAt w b (off + i * 4) l[i])
theorem Ops.below {w w' : World} {v : Value} {l : List OpV} (h : Ops w v l) (hb : Below w.heap.size w w') : Ops w' v l := by
  obtain ⟨ao, cap, h1, h2, h3⟩ := h
  refine ⟨ao, cap, h1, h2, fun hp => ?_⟩
  obtain ⟨b, off, e, hlt, hc⟩ := h3 hp
  refine ⟨b, off, e, Nat.lt_of_lt_of_le hlt hb.size, fun i hi => ?_⟩
  obtain ⟨k1, k2, k3, k4, k5⟩ := hc i hi
  exact ⟨k1, (hb.cell (p := ⟨b, _, none⟩) hlt).trans k2, (hb.cell (p := ⟨b, _, none⟩) hlt).trans k3, (hb.cell (p := ⟨b, _, none⟩) hlt).trans k4, (hb.cell (p := ⟨b, _, none⟩) hlt).trans k5⟩
/-- a device and the model in one state, apart from one another and from all that was there before -/
def Pair (w w' : World) (vb db : Nat) (st : VS) : Prop := ∃ F G, Own w w' vb st F ∧ DskF w' db st G ∧ (∀ i, i ∈ G → w.heap.size ≤ i) ∧ ∀ i, i ∈ F → i ∉ G
def plays (l : List OpV) (k : Nat) : VS := (l.take k).foldl (fun st o => (o.run st).2) (VS.new 4)
theorem plays_zero (l : List OpV) : plays l 0 = VS.new 4 := by simp [plays]
theorem plays_step {l : List OpV} {k : Nat} (h : k < l.length) : plays l (k + 1) = (l[k].run (plays l k)).2 := by
  unfold plays
  rw [List.take_succ_eq_append_getElem h, List.foldl_append]
  rfl
theorem Pair.next {w w0 w1 w2 : World} {vb db : Nat} {st st' : VS} {F G F' G' : List Nat} (h0 : Own w w0 vb st F) (hg : DskF w0 db st G) (hG : ∀ i, i ∈ G → w.heap.size ≤ i) (hn : ∀ i, i ∈ F → i ∉ G)
    (h1 : VolF w1 vb st' F') (ht1 : Turn F w0 w1) (hF1 : ∀ i, i ∈ F' → i ∈ F ∨ w0.heap.size ≤ i) (h2 : DskF w2 db st' G') (ht2 : Turn G w1 w2) (hG2 : ∀ i, i ∈ G' → i ∈ G ∨ w1.heap.size ≤ i) : Pair w w2 vb db st' := by
  obtain ⟨k1, k2, k3⟩ := h0
  have lg := hg.lt
  have lf := h1.lt
  have s1 := ht1.size
  have sb := k2.size
  have hd1 : ∀ i, i ∈ F' → i ∉ G := fun i hi hm => by
    rcases hF1 i hi with h | h
    · exact hn i h hm
    · have := lg i hm; omega
  refine ⟨F', G', ⟨h1.turn ht2 hd1, k2.trans ((ht1.toBelow k3 sb).trans (ht2.toBelow hG (Nat.le_trans sb s1))), fun i hi => ?_⟩, h2, fun i hi => ?_, fun i hi hm => ?_⟩
  · rcases hF1 i hi with h | h
    · exact k3 i h
    · omega
  · rcases hG2 i hi with h | h
    · exact hG i h
    · omega
  · rcases hG2 i hm with h | h
    · exact hd1 i hi h
    · have := lf i hi; omega
def PlayPost (l : List OpV) (w : World) (e : Ending) (w' : World) : Prop :=
  ∃ vb db, e = .returned (.tuple #[.pointer (some ⟨vb, 0, none⟩), .pointer (some ⟨db, 0, none⟩), .bool true]) ∧ Pair w w' vb db (plays l 40)
theorem plays_all {l : List OpV} {k : Nat} (h : l.length ≤ k) : plays l k = plays l l.length := by unfold plays; rw [List.take_of_length_le h, List.take_length]

set_option maxRecDepth 100000 in
set_option maxHeartbeats 2000000 in
theorem play_any {w : World} {v : Value} {l : List OpV} (hops : Ops w v l) : Calls Try.prog 23 #[v] w (PlayPost l w) := by
  obtain ⟨ao, cap, rfl, hmax, hat⟩ := hops
  have HAT := Lib.hid hat
  have HM := Lib.hid hmax
  clear hat
  unfold maxLen at hmax
  go_enter Try.func23, Try.ntmps23
  go_wp2_with fail
  refine (new_own 4 w (by omega) (by omega)).mono ?_
  rintro e w1 ⟨vb, F1, rfl, h1⟩
  have H1 := Lib.hid h1
  clear h1
  go_wp2_with fail
  refine (create_any 4 (by omega) (by omega) _).mono ?_
  rintro e w2 ⟨db, G1, rfl, hd2, hb2, hG⟩
  have h2 := H1.out.below hb2
  have hp2 : Pair w w2 vb db (plays l 0) := ⟨F1, G1, h2, by rw [plays_zero]; exact hd2, fun i hi => Nat.le_trans H1.out.2.1.size (hG i hi), fun i hi hm => by have := H1.out.1.lt i hi; have := hG i hm; omega⟩
  have HP2 := Lib.hid hp2
  have h21 := h2.1
  have H21 := Lib.hid h21
  have HD2 := Lib.hid hd2
  clear h2 hp2 hG hb2 h21 hd2
  go_wp2_with fail
  refine (agrees_any H21.out HD2.out).mono ?_
  rintro e w3 ⟨rfl, hb3⟩
  have hp3 : Pair w w3 vb db (plays l 0) := by
    obtain ⟨F, G, k1, k2, k3, k4⟩ := HP2.out
    exact ⟨F, G, k1.below hb3, k2.below hb3, k3, k4⟩
  have HP3 := Lib.hid hp3
  clear hp3 hb3 HP2 H21 HD2 H1
  go_wp2_with fail
  go_loopw [8] (fun i wr => ∃ k : Nat, k ≤ l.length ∧ k ≤ 40 ∧ i = .int .i64 k ∧ Pair w wr vb db (plays l k)) (fun i _ => 40 - (intOf i).toNat)
  case atStart => exact ⟨0, Nat.zero_le _, by omega, rfl, HP3.out⟩
  case round =>
    obtain ⟨k, hk, hk40, rfl, hpr⟩ := hrel
    clear HP3
    have HPR := Lib.hid hpr
    clear hpr
    by_cases hlt : k < l.length
    · by_cases hlt4 : k < 40
      · have hkI : (k : Int) < (l.length : Int) := by omega
        have hk4I : (k : Int) < 40 := by omega
        obtain ⟨b, off, rfl, hb, hc⟩ := HAT.out (by omega)
        obtain ⟨F, G, hv, hd, hG, hn⟩ := HPR.out
        have hST := plays_step hlt
        have hcc := hc k hlt
        obtain ⟨o1, o2, o3, o4, ho⟩ : ∃ a b c d, l[k] = ⟨a, b, c, d⟩ := ⟨_, _, _, _, rfl⟩
        obtain ⟨r, st', hR⟩ : ∃ r st', (⟨o1, o2, o3, o4⟩ : OpV).run (plays l k) = (r, st') := ⟨_, _, rfl⟩
        rw [ho] at hST hcc
        rw [hR] at hST
        obtain ⟨hok, x0, x1, x2, x3⟩ := hcc
        simp only at x0 x1 x2 x3 hST
        have hbw := hv.2.1
        have hbl := hv.2.2
        have x0 := (hbw.cell (p := ⟨b, _, none⟩) hb).trans x0
        have x1 := (hbw.cell (p := ⟨b, _, none⟩) hb).trans x1
        have x2 := (hbw.cell (p := ⟨b, _, none⟩) hb).trans x2
        have x3 := (hbw.cell (p := ⟨b, _, none⟩) hb).trans x3
        have hbF : b ∉ F := fun hm => by have := hbl b hm; omega
        have hbG : b ∉ G := fun hm => by have := hG b hm; omega
        have hb1 : b < wr.heap.size := Nat.lt_of_lt_of_le hb hbw.size
        have HV := Lib.hid (hv.1.turn (G := []) ((Turn.refl [] wr).drew) (fun _ _ => by simp))
        have HD := Lib.hid (hd.turn (G := []) ((Turn.refl [] wr).drew) (fun _ _ => by simp))
        have HR := Lib.hid hR
        have HST := Lib.hid hST
        have HOK := Lib.hid hok
        have HN := Lib.hid (And.intro hv (And.intro hd (And.intro hG hn)))
        clear hv hd hG hn hR hST hok ho hc hbw hbl
        go_wp2_with fail
        go_region_held3 (fun w' => w'.cell? ⟨b, off + k * 4, none⟩ = some (.int .u8 (o1 : Int)) ∧ w'.cell? ⟨b, off + k * 4 + 1, none⟩ = some (.int .u8 (o2 : Int)) ∧ w'.cell? ⟨b, off + k * 4 + 2, none⟩ = some (.int .u8 (o3 : Int)) ∧ w'.cell? ⟨b, off + k * 4 + 3, none⟩ = some (.int .i64 o4))
          (first | go_keep)
          (first
            | (go_at_call 29; refine (perform_any ⟨o1, o2, o3, o4⟩ HOK.out HV.out).mono ?_; rw [HR.out]; rintro e w5 ⟨rfl, F5, j1, j2, j3⟩; have hs5 := j2.size; have hb5 : b < w5.heap.size := Nat.lt_of_lt_of_le hb1 hs5; have y0 := (j2.cell (p := ⟨b, _, none⟩) hb1 hbF).trans x0; have y1 := (j2.cell (p := ⟨b, _, none⟩) hb1 hbF).trans x1; have y2 := (j2.cell (p := ⟨b, _, none⟩) hb1 hbF).trans x2; have y3 := (j2.cell (p := ⟨b, _, none⟩) hb1 hbF).trans x3; have HD5 := Lib.hid (HD.out.turn j2 (fun i hi hm => HN.out.2.2.2 i hm hi)); have J1 := Lib.hid j1; have J2 := Lib.hid j2; have J3 := Lib.hid j3; clear j1 j2 j3)
            | (go_at_call 39; refine (dperform_any ⟨o1, o2, o3, o4⟩ HOK.out HD5.out).mono ?_; rw [HR.out]; rintro e w6 ⟨rfl, G6, j4, j5, j6⟩; have z0 := (j5.cell (p := ⟨b, _, none⟩) hb5 hbG).trans y0; have z1 := (j5.cell (p := ⟨b, _, none⟩) hb5 hbG).trans y1; have z2 := (j5.cell (p := ⟨b, _, none⟩) hb5 hbG).trans y2; have z3 := (j5.cell (p := ⟨b, _, none⟩) hb5 hbG).trans y3; have hb6 : b < w6.heap.size := Nat.lt_of_lt_of_le hb5 j5.size; have HP6 := Lib.hid (Pair.next HN.out.1 HN.out.2.1 HN.out.2.2.1 HN.out.2.2.2 J1.out (show Turn F wr w5 from ⟨J2.out.os, J2.out.tape, J2.out.output, J2.out.size, J2.out.block⟩) J3.out j4 j5 j6); obtain ⟨F7, G7, p1, p2, p3, p4⟩ := HP6.out; have P1 := Lib.hid p1; have P2 := Lib.hid p2; clear j4 j5 j6 p1 p2 p3 p4)
            | (go_at_call 38; refine (agrees_any P1.out.1 P2.out).mono ?_; rintro e w8 ⟨rfl, hb8⟩; have u0 := (hb8.cell (p := ⟨b, _, none⟩) hb6).trans z0; have u1 := (hb8.cell (p := ⟨b, _, none⟩) hb6).trans z1; have u2 := (hb8.cell (p := ⟨b, _, none⟩) hb6).trans z2; have u3 := (hb8.cell (p := ⟨b, _, none⟩) hb6).trans z3; have HB8 := Lib.hid hb8; clear hb8))
        go_wp2
        go_roundw
        case rel => exact ⟨k + 1, by omega, by omega, by go_num, by
          rw [HST.out]
          obtain ⟨F, G, k1, k2, k3, k4⟩ := HP6.out
          exact ⟨F, G, k1.below HB8.out, k2.below HB8.out, k3, k4⟩⟩
        case measure => simp [intOf]; omega
      · obtain rfl : k = 40 := by omega
        go_wp2
        exact bodyPost_ret (v := .tuple #[.pointer (some ⟨vb, 0, none⟩), .pointer (some ⟨db, 0, none⟩), .bool true]) (by simp [results, Try.f23, go_sem]) rfl ⟨vb, db, rfl, HPR.out⟩
    · obtain rfl : k = l.length := by omega
      clear HAT
      go_wp2
      exact bodyPost_ret (v := .tuple #[.pointer (some ⟨vb, 0, none⟩), .pointer (some ⟨db, 0, none⟩), .bool true]) (by simp [results, Try.f23, go_sem]) rfl ⟨vb, db, rfl, by rw [plays_all hk40]; exact HPR.out⟩
end Go.Proofs.Ytfhcecfddejcdaa
