/- An operation performed: on a device. -/
import Derived.Test.YtfhcecfddejcdaaVdcr
import Derived.Deep.RegionHeld3
import Derived.IntWalk
namespace Go.Proofs.Ytfhcecfddejcdaa
attribute [local go_sem ↓] Go.wp_at_zero Go.wp_at_succ
open Go.RowKit Go.Maps

/-- an operation as data -/
structure OpV where
  kind : Nat
  sector : Nat
  data : Nat
  num : Int
structure OpV.ok (o : OpV) : Prop where
  kind : o.kind < 256
  sector : o.sector < 256
  data : o.data < 256
  num : -9223372036854775808 ≤ o.num ∧ o.num ≤ 9223372036854775807
def OpV.val (o : OpV) : Value := .agg #[.int .u8 (o.kind : Int), .int .u8 (o.sector : Int), .int .u8 (o.data : Int), .int .i64 o.num]
def lowByte (n : Int) : Int := bits .and .i64 n 255 % 256
theorem lowByte_bd (n : Int) : 0 ≤ lowByte n ∧ lowByte n < 256 := by unfold lowByte; omega
def OpV.script (o : OpV) : List UInt8 := [UInt8.ofNat o.data, UInt8.ofNat o.sector, UInt8.ofNat (o.data / 2), UInt8.ofNat (lowByte o.num).toNat]
def OpV.run (st : VS) (o : OpV) : Nat × VS :=
  if o.kind % 6 = 2 then st.barrier else if o.kind % 6 = 3 then (0, st.crash) else if o.kind % 6 = 4 then (0, st.start o.script) else if o.kind % 6 = 5 then (0, st.limit o.num) else st.write ((o.sector % 5 : Nat) : Int) (filled o.data)

theorem byts_of_blk {W : World} {g : Nat} {t : TypeId} {cs : Array Value} {l : List UInt8} {cap : Nat} (hb : Blk W g t cs) (hl : l.length ≤ 9223372036854775807) (h : ∀ j, j < l.length → cs[j]? = some (.int .u8 ((l.getD j 0).toNat : Int))) : Byts W (.slice (some ⟨g, 0, none⟩) l.length cap) l :=
  ⟨_, cap, rfl, hl, fun _ => ⟨g, 0, rfl, hb.lt, fun j hj => by rw [Nat.zero_add, hb.cell]; exact h j hj⟩⟩
theorem script_byts (o : OpV) (h2 : o.sector < 256) (h3 : o.data < 256) {W : World} {g : Nat} (_ : True) (hb : Blk W g 5 #[.int .u8 (o.data : Int), .int .u8 (o.sector : Int), .int .u8 ((o.data : Int) / 2), .int .u8 (lowByte o.num)]) : Byts W (.slice (some ⟨g, 0, none⟩) 4 4) o.script := by
  refine byts_of_blk (l := o.script) hb (by simp [OpV.script]) (fun j hj => ?_)
  have e1 : ((UInt8.ofNat o.data).toNat : Int) = o.data := by rw [UInt8.toNat_ofNat']; omega
  have e2 : ((UInt8.ofNat o.sector).toNat : Int) = o.sector := by rw [UInt8.toNat_ofNat']; omega
  have e3 : ((UInt8.ofNat (o.data / 2)).toNat : Int) = (o.data : Int) / 2 := by rw [UInt8.toNat_ofNat']; omega
  have e4 : ((UInt8.ofNat (lowByte o.num).toNat).toNat : Int) = lowByte o.num := by have := lowByte_bd o.num; rw [UInt8.toNat_ofNat']; omega
  have hj : j < 4 := hj
  match j, hj with
  | 0, _ => exact congrArg (fun x => some (Value.int .u8 x)) e1.symm
  | 1, _ => exact congrArg (fun x => some (Value.int .u8 x)) e2.symm
  | 2, _ => exact congrArg (fun x => some (Value.int .u8 x)) e3.symm
  | 3, _ => exact congrArg (fun x => some (Value.int .u8 x)) e4.symm

theorem Step.pre {F : List Nat} {w w1 w2 : World} {vb : Nat} {st : VS} (hb : Below w.heap.size w w1) (h : Step F w1 w2 vb st) : Step F w w2 vb st := by
  obtain ⟨F', k1, k2, k3⟩ := h
  exact ⟨F', k1, (Turn.ofBelow hb (Nat.le_refl _)).trans k2 (fun i hi => .inl hi), fun i hi => (k3 i hi).imp id (fun e => Nat.le_trans hb.size e)⟩
set_option maxRecDepth 100000 in
set_option maxHeartbeats 2000000 in
theorem perform_2 (o : OpV) (ho : o.ok) (hk : o.kind % 6 = 2) {w : World} {vb : Nat} {st : VS} {F : List Nat} (h : VolF w vb st F) :
    Calls Try.prog 29 #[.pointer (some ⟨vb, 0, none⟩), o.val] w fun e w' => e = .returned (.int .i64 (st.barrier.1 : Int)) ∧ Step F w w' vb st.barrier.2 := by
  obtain ⟨k, s, d, n⟩ := o
  obtain ⟨h1, h2, h3, h4, h5⟩ := ho
  unfold OpV.val
  simp only at *
  have hkI : ((k : Int) % 6) = 2 := by omega
  have hb1 : ∀ o', Below w.heap.size w (w.alloc o') := fun o' => (Below.refl _ w).alloc (Nat.le_refl _) o'
  have HB1 := Lib.hid hb1
  clear hb1
  go_enter Try.func29, Try.ntmps29
  go_wp2_with ((go_at_call 18; refine (barrier_any (h.below (HB1.out _))).mono ?_; rintro e w1 ⟨rfl, hs⟩))
  go_ret
  exact ⟨rfl, hs.pre (HB1.out _)⟩
set_option maxRecDepth 100000 in
set_option maxHeartbeats 2000000 in
theorem perform_3 (o : OpV) (ho : o.ok) (hk : o.kind % 6 = 3) {w : World} {vb : Nat} {st : VS} {F : List Nat} (h : VolF w vb st F) :
    Calls Try.prog 29 #[.pointer (some ⟨vb, 0, none⟩), o.val] w fun e w' => e = .returned (.int .i64 0) ∧ Step F w w' vb st.crash := by
  obtain ⟨k, s, d, n⟩ := o
  obtain ⟨h1, h2, h3, h4, h5⟩ := ho
  unfold OpV.val
  simp only at *
  have hkI : ((k : Int) % 6) = 3 := by omega
  have hb1 : ∀ o', Below w.heap.size w (w.alloc o') := fun o' => (Below.refl _ w).alloc (Nat.le_refl _) o'
  have HB1 := Lib.hid hb1
  clear hb1
  obtain ⟨mb, pv, h, rfl⟩ := h
  go_enter Try.func29, Try.ntmps29
  go_wp2_with ((go_at_call 27; refine (crash_any (h.below (HB1.out _))).mono ?_; rintro e w1 ⟨rfl, hv, ht⟩))
  go_ret
  exact ⟨rfl, Step.pre (HB1.out _) ⟨_, ⟨mb, pv, hv, rfl⟩, ht.mono (fun i hi => by simp at hi; subst hi; exact Vol.foot_vb), fun i hi => .inl hi⟩⟩
set_option maxRecDepth 100000 in
set_option maxHeartbeats 2000000 in
theorem perform_4 (o : OpV) (ho : o.ok) (hk : o.kind % 6 = 4) {w : World} {vb : Nat} {st : VS} {F : List Nat} (h : VolF w vb st F) :
    Calls Try.prog 29 #[.pointer (some ⟨vb, 0, none⟩), o.val] w fun e w' => e = .returned (.int .i64 0) ∧ Step F w w' vb (st.start o.script) := by
  obtain ⟨k, s, d, n⟩ := o
  obtain ⟨h1, h2, h3, h4, h5⟩ := ho
  unfold OpV.val
  simp only at *
  have hkI : ((k : Int) % 6) = 4 := by omega
  have hb1 : ∀ o', Below w.heap.size w (w.alloc o') := fun o' => (Below.refl _ w).alloc (Nat.le_refl _) o'
  have HB1 := Lib.hid hb1
  clear hb1
  go_enter Try.func29, Try.ntmps29
  go_wp2_with fail
  have hb2 := (HB1.out (.cells #[.int .u8 (k : Int), .int .u8 (s : Int), .int .u8 (d : Int), .int .i64 n] 52)).alloc (by simp) (.cells #[.int .u8 (d : Int), .int .u8 (s : Int), .int .u8 ((d : Int) / 2), .int .u8 (bits BinOp.and .i64 n 255 % 256)] 5)
  have h2' := h.below hb2
  have hbk : Blk ((w.alloc (.cells #[.int .u8 (k : Int), .int .u8 (s : Int), .int .u8 (d : Int), .int .i64 n] 52)).alloc (.cells #[.int .u8 (d : Int), .int .u8 (s : Int), .int .u8 ((d : Int) / 2), .int .u8 (bits BinOp.and .i64 n 255 % 256)] 5)) (w.heap.size + 1) 5 #[.int .u8 (d : Int), .int .u8 (s : Int), .int .u8 ((d : Int) / 2), .int .u8 (lowByte n)] := by
    have := Blk.new (w.alloc (.cells #[.int .u8 (k : Int), .int .u8 (s : Int), .int .u8 (d : Int), .int .i64 n] 52)) 5 #[.int .u8 (d : Int), .int .u8 (s : Int), .int .u8 ((d : Int) / 2), .int .u8 (bits BinOp.and .i64 n 255 % 256)]
    rw [World.size_alloc] at this
    exact this
  refine (start_any h2' _ (OpV.script ⟨k, s, d, n⟩) (script_byts ⟨k, s, d, n⟩ h2 h3 trivial hbk) (fun i hi hm => ?_)).mono ?_
  · have e1 := h.lt i hm
    have e2 : w.heap.size + 1 = i := by simpa [Value.ownBlock] using hi
    omega
  rintro e w8 ⟨rfl, hs8⟩
  go_wp2
  go_ret
  exact ⟨rfl, hs8.pre hb2⟩
set_option maxRecDepth 100000 in
set_option maxHeartbeats 2000000 in
theorem perform_5 (o : OpV) (ho : o.ok) (hk : o.kind % 6 = 5) {w : World} {vb : Nat} {st : VS} {F : List Nat} (h : VolF w vb st F) :
    Calls Try.prog 29 #[.pointer (some ⟨vb, 0, none⟩), o.val] w fun e w' => e = .returned (.int .i64 0) ∧ Step F w w' vb (st.limit o.num) := by
  obtain ⟨k, s, d, n⟩ := o
  obtain ⟨h1, h2, h3, h4, h5⟩ := ho
  unfold OpV.val
  simp only at *
  have hkI : ((k : Int) % 6) = 5 := by omega
  have hb1 : ∀ o', Below w.heap.size w (w.alloc o') := fun o' => (Below.refl _ w).alloc (Nat.le_refl _) o'
  have HB1 := Lib.hid hb1
  clear hb1
  obtain ⟨mb, pv, h, rfl⟩ := h
  go_enter Try.func29, Try.ntmps29
  go_wp2_with ((go_at_call 28; refine (limit_any n (h.below (HB1.out _)) (by omega)).mono ?_; rintro e w1 ⟨rfl, hv, ht⟩))
  go_ret
  exact ⟨rfl, Step.pre (HB1.out _) ⟨_, ⟨mb, pv, hv, rfl⟩, ht.mono (fun i hi => by simp at hi; subst hi; exact Vol.foot_vb), fun i hi => .inl hi⟩⟩
set_option maxRecDepth 100000 in
set_option maxHeartbeats 2000000 in
theorem perform_w (o : OpV) (ho : o.ok) (hk : o.kind % 6 = 0 ∨ o.kind % 6 = 1) {w : World} {vb : Nat} {st : VS} {F : List Nat} (h : VolF w vb st F) :
    Calls Try.prog 29 #[.pointer (some ⟨vb, 0, none⟩), o.val] w fun e w' => e = .returned (.int .i64 ((st.write ((o.sector % 5 : Nat) : Int) (filled o.data)).1 : Int)) ∧ Step F w w' vb (st.write ((o.sector % 5 : Nat) : Int) (filled o.data)).2 := by
  obtain ⟨k, s, d, n⟩ := o
  obtain ⟨h1, h2, h3, h4, h5⟩ := ho
  unfold OpV.val
  simp only at *
  obtain ⟨m, hm, hm1⟩ : ∃ m : Nat, ((k : Int) % 6) = (m : Int) ∧ m < 2 := ⟨k % 6, by omega, by omega⟩
  have e2 : ((m : Int) == 2) = false := by rw [beq_eq_false_iff_ne]; omega
  have e3 : ((m : Int) == 3) = false := by rw [beq_eq_false_iff_ne]; omega
  have e4 : ((m : Int) == 4) = false := by rw [beq_eq_false_iff_ne]; omega
  have e5 : ((m : Int) == 5) = false := by rw [beq_eq_false_iff_ne]; omega
  have hw1 : IntKind.i64.wrap (s : Int) = (s : Int) := IntWalk.i64_in _ (by omega)
  have hq : (s : Int).tmod 5 = ((s % 5 : Nat) : Int) := by rw [Int.tmod_eq_emod_of_nonneg (by omega)]; omega
  generalize s % 5 = q at *
  have hb1 : ∀ o', Below w.heap.size w (w.alloc o') := fun o' => (Below.refl _ w).alloc (Nat.le_refl _) o'
  have HB1 := Lib.hid hb1
  clear hb1
  go_enter Try.func29, Try.ntmps29
  go_wp2_with fail
  have hb2 := HB1.out (.cells #[.int .u8 (k : Int), .int .u8 (s : Int), .int .u8 (d : Int), .int .i64 n] 52)
  have hbk := Blk.new w 52 #[.int .u8 (k : Int), .int .u8 (s : Int), .int .u8 (d : Int), .int .i64 n]
  have hV := h.below hb2
  obtain ⟨W1, hW1⟩ : ∃ W1, w.alloc (.cells #[.int .u8 (k : Int), .int .u8 (s : Int), .int .u8 (d : Int), .int .i64 n] 52) = W1 := ⟨_, rfl⟩
  rw [hW1] at hb2 hbk hV ⊢
  clear hW1
  have x1 := hbk.cell 1
  have x2 := hbk.cell 2
  have hlt := hbk.lt
  simp at x1 x2
  have hnF : w.heap.size ∉ F := fun hm => Nat.lt_irrefl _ (h.lt _ hm)
  have HV := Lib.hid (hV.turn (G := []) ((Turn.refl [] W1).drew) (fun _ _ => by simp))
  clear hbk hV h
  go_region_held3 (fun w' => w'.cell? ⟨w.heap.size, 1, none⟩ = some (.int .u8 (s : Int)) ∧ w'.cell? ⟨w.heap.size, 2, none⟩ = some (.int .u8 (d : Int)))
    (first | go_keep)
    (first
      | (go_at_call 11; refine (filled_any d h3 _).mono ?_; rintro e w2 ⟨rfl, hb3⟩; have y1 := (hb3.cell (p := ⟨w.heap.size, 1, none⟩) hlt).trans x1; have y2 := (hb3.cell (p := ⟨w.heap.size, 2, none⟩) hlt).trans x2; have HV2 := Lib.hid (HV.out.below hb3); have hsz := hb3.size; have hb3' : Below W1.heap.size W1 w2 := ⟨hb3.os, hb3.tape, hb3.output, hb3.size, hb3.block⟩)
      | (go_at_call 16; refine (write_any _ _ HV2.out).mono ?_; rintro e w3 ⟨rfl, hs3⟩; obtain ⟨F3, k1, k2, k3⟩ := hs3; have z1 := (k2.cell (p := ⟨w.heap.size, 1, none⟩) (Nat.lt_of_lt_of_le hlt hsz) hnF).trans y1; have z2 := (k2.cell (p := ⟨w.heap.size, 2, none⟩) (Nat.lt_of_lt_of_le hlt hsz) hnF).trans y2))
  go_wp2
  go_ret
  exact ⟨rfl, Step.pre (hb2.trans (hb3'.mono hb2.size)) ⟨F3, k1, k2, k3⟩⟩
theorem perform_any (o : OpV) (ho : o.ok) {w : World} {vb : Nat} {st : VS} {F : List Nat} (h : VolF w vb st F) :
    Calls Try.prog 29 #[.pointer (some ⟨vb, 0, none⟩), o.val] w fun e w' => e = .returned (.int .i64 ((o.run st).1 : Int)) ∧ Step F w w' vb (o.run st).2 := by
  by_cases k2 : o.kind % 6 = 2
  · rw [show o.run st = st.barrier from by unfold OpV.run; rw [if_pos k2]]
    exact perform_2 o ho k2 h
  · by_cases k3 : o.kind % 6 = 3
    · rw [show o.run st = (0, st.crash) from by unfold OpV.run; rw [if_neg k2, if_pos k3]]
      exact perform_3 o ho k3 h
    · by_cases k4 : o.kind % 6 = 4
      · rw [show o.run st = (0, st.start o.script) from by unfold OpV.run; rw [if_neg k2, if_neg k3, if_pos k4]]
        exact perform_4 o ho k4 h
      · by_cases k5 : o.kind % 6 = 5
        · rw [show o.run st = (0, st.limit o.num) from by unfold OpV.run; rw [if_neg k2, if_neg k3, if_neg k4, if_pos k5]]
          exact perform_5 o ho k5 h
        · rw [show o.run st = st.write ((o.sector % 5 : Nat) : Int) (filled o.data) from by unfold OpV.run; rw [if_neg k2, if_neg k3, if_neg k4, if_neg k5]]
          exact perform_w o ho (by omega) h
end Go.Proofs.Ytfhcecfddejcdaa
