/- The checksum of a string, by the table. -/
import Derived.Test.YtfdnpchbbngpjaaGreatJon
import Derived.IntWalk
namespace Go.Proofs.YtfdnpchbbngpjaaGreat
open Go.RowKit Go.Maps

theorem Tb.set0 {w : World} {tb : Nat} {d s : Int} {f : Nat → Nat} (h : Tb w tb d s f) (x : Int) : Tb (w.setCell ⟨tb, 0, none⟩ (.int .u32 x)) tb x s f := by
  have := Blk.set_ h 0 (.int .u32 x)
  exact this
theorem Tb.set1 {w : World} {tb : Nat} {d s : Int} {f : Nat → Nat} (h : Tb w tb d s f) (x : Int) : Tb (w.setCell ⟨tb, 1, none⟩ (.int .i32 x)) tb d x f := by
  have := Blk.set_ h 1 (.int .i32 x)
  exact this
theorem Tb.cell0 {w : World} {tb : Nat} {d s : Int} {f : Nat → Nat} (h : Tb w tb d s f) : w.cell? ⟨tb, 0, none⟩ = some (.int .u32 d) := (Blk.cell h 0).trans (by unfold tcells; simp)
theorem Tb.cell1 {w : World} {tb : Nat} {d s : Int} {f : Nat → Nat} (h : Tb w tb d s f) : w.cell? ⟨tb, 1, none⟩ = some (.int .i32 s) := (Blk.cell h 1).trans (by unfold tcells; simp)
theorem Tb.sum {w : World} {tb : Nat} {d s : Int} {f : Nat → Nat} (h : Tb w tb d s f) (i : Nat) (hi : i < 256) : w.cell? ⟨tb, 3 + i, none⟩ = some (.int .u32 (f i : Int)) := (Blk.cell h (3 + i)).trans (tcells_at _ _ _ _ i hi)

theorem load_any (a : Addr) (d : Int) (w : World) (h0 : w.cell? a = some (.int .u32 d)) :
    Calls Tryz.prog 86 #[.pointer (some a)] w fun e w' => e = .returned (.bool (d != 0)) ∧ w' = w := by
  have hl := run_call_load (P := Tryz.prog) Tryz.func91 (by kernel_rfl) (by kernel_rfl) (by kernel_rfl) .u32 (by kernel_rfl) h0
  go_enter Tryz.func86, Tryz.ntmps86
  go_wp2
  go_ret
  exact ⟨rfl, rfl⟩

set_option maxRecDepth 100000 in
set_option maxHeartbeats 1600000 in
theorem slow_any {w : World} {tb : Nat} {f : Nat → Nat} (h : Tb w tb 0 0 f) :
    Calls Tryz.prog 87 #[.pointer (some ⟨tb, 0, none⟩), .func (.func 75) #[.pointer (some ⟨tb, 0, none⟩)] #[]] w fun e w' => e = .returned (.tuple #[]) ∧ Tb w' tb 1 0 crc8 ∧ Turn [tb] w w' := by
  have h1 := h.set1 1
  have t1 : Turn [tb] w (w.setCell ⟨tb, 1, none⟩ (.int .i32 1)) := (Turn.refl _ w).setCell (.inl (by simp)) _
  have hl := load_any ⟨tb, 0, none⟩ 0 (w.setCell ⟨tb, 1, none⟩ (.int .i32 1)) h1.cell0
  have hnot : ∀ (x : Bool) (w : World), (Op.unary .not (.bool x)).run Tryz.prog w = .ok (.bool (!x)) w := fun _ _ => rfl
  have c1 := h.cell1
  have f1 := Blk.frozen h 1
  have H1 := Lib.hid h1
  clear h h1
  go_enter_defers Tryz.func87, Tryz.ntmps87
  go_wp2_with (first | (go_at_call 92; refine (lock_free ⟨tb, 1, none⟩ _ c1 f1).mono ?_; rintro e w' ⟨rfl, rfl⟩) | (go_at_call 86; refine hl.mono ?_; rintro e w' ⟨rfl, rfl⟩) | (go_at_call 75; refine (make_any H1.out).mono ?_; rintro e w2 ⟨rfl, h2, t2⟩))
  have h3 : Tb (w2.drew.setCell ⟨tb, 0, none⟩ (.int .u32 1)) tb 1 1 crc8 := Tb.set0 (Blk.drew h2) 1
  have h4 := h3.set1 0
  have t4 : Turn [tb] w ((w2.drew.setCell ⟨tb, 0, none⟩ (.int .u32 1)).setCell ⟨tb, 1, none⟩ (.int .i32 0)) := (((t1.trans t2 (fun i hi => .inl hi)).drew).setCell (.inl (by simp)) _).setCell (.inl (by simp)) _
  refine leaves_cons (f := 94) (args := #[.pointer (some ⟨tb, 0, none⟩), .bool true]) (by simp) (by simp [go_sem]) ?_
  refine (store_deferred ⟨tb, 0, none⟩ (.int .u32 0) .returning _ h2.cell0 (Blk.frozen h2 0)).mono ?_
  rintro e u' w'' ⟨rfl, rfl, rfl⟩
  refine leaves_cons (f := 93) (args := #[.pointer (some ⟨tb, 1, none⟩)]) (by simp [Go.settle]) (by simp [go_sem]) ?_
  refine (unlock_deferred ⟨tb, 1, none⟩ _ _ h3.cell1 (Blk.frozen h3 1)).mono ?_
  rintro e u' w'' ⟨rfl, rfl, rfl⟩
  have H := Lib.hid (And.intro h4 t4)
  clear h4 t4 h3
  simp [Leaves, Go.settle, results, Tryz.results87]
  exact H.out

set_option maxRecDepth 100000 in
set_option maxHeartbeats 1600000 in
/-- Do: behind it the table is filled -/
theorem do_any {w : World} {tb : Nat} {d : Int} {f : Nat → Nat} (h : Tb w tb d 0 f) (hd : d = 0 ∨ (d = 1 ∧ f = crc8)) :
    Calls Tryz.prog 74 #[.pointer (some ⟨tb, 0, none⟩), .func (.func 75) #[.pointer (some ⟨tb, 0, none⟩)] #[]] w fun e w' => e = .returned (.tuple #[]) ∧ Tb w' tb 1 0 crc8 ∧ Turn [tb] w w' := by
  have hnot : ∀ (x : Bool) (w : World), (Op.unary .not (.bool x)).run Tryz.prog w = .ok (.bool (!x)) w := fun _ _ => rfl
  rcases hd with rfl | ⟨rfl, rfl⟩
  · have hl := load_any ⟨tb, 0, none⟩ 0 w h.cell0
    go_enter Tryz.func74, Tryz.ntmps74
    go_wp2_with (first | (go_at_call 86; refine hl.mono ?_; rintro e w' ⟨rfl, rfl⟩) | (go_at_call 87; refine (slow_any h).mono ?_; rintro e w' ⟨rfl, h2, t2⟩))
    go_end0
    exact ⟨rfl, h2, t2⟩
  · have hl := load_any ⟨tb, 0, none⟩ 1 w h.cell0
    go_enter Tryz.func74, Tryz.ntmps74
    go_wp2_with (first | (go_at_call 86; refine hl.mono ?_; rintro e w' ⟨rfl, rfl⟩))
    go_end0
    exact ⟨rfl, h, Turn.refl _ _⟩

/-- a table, filled or not yet -/
def Tab (w : World) (tb : Nat) : Prop := Tb w tb 0 0 (fun _ => 0) ∨ Tb w tb 1 0 crc8
theorem crcS_snoc (c : Nat) (l : List UInt8) (x : UInt8) : crcS c (l ++ [x]) = crc8 (crcS c l ^^^ x.toNat) := by rw [crcS_append]; rfl

set_option maxRecDepth 100000 in
set_option maxHeartbeats 1600000 in
theorem checksum_any (s : ByteArray) (hs : s.size ≤ 1048576) {w : World} {tb : Nat} (h : Tab w tb) :
    Calls Tryz.prog 49 #[.pointer (some ⟨tb, 0, none⟩), .string s] w fun e w' => e = .returned (.int .i64 (crc s.data.toList : Int)) ∧ Tb w' tb 1 0 crc8 ∧ Turn [tb] w w' := by
  obtain ⟨d, f, h, hd⟩ : ∃ d f, Tb w tb d 0 f ∧ (d = 0 ∨ (d = 1 ∧ f = crc8)) := by
    rcases h with h | h
    · exact ⟨_, _, h, .inl rfl⟩
    · exact ⟨_, _, h, .inr ⟨rfl, rfl⟩⟩
  have hmf : ∀ (fn : Fn) (first cap : Array Value) (w : World), (Instr.makeFunc fn first cap).run Tryz.prog w = .ok (.func fn first cap) w := fun _ _ _ _ => rfl
  have hsz : s.data.toList.length = s.size := Array.length_toList
  go_enter Tryz.func49, Tryz.ntmps49
  go_wp2_with (first | (go_at_call 74; refine (do_any h hd).mono ?_; rintro e w2 ⟨rfl, h2, t2⟩))
  clear h hd f d
  go_loopw [15, 5] (fun i c wr => Tb wr tb 1 0 crc8 ∧ Turn [tb] w wr ∧ ∃ k : Nat, k ≤ s.size ∧ i = .int .i64 (k : Int) ∧ c = .int .u32 (crcS 4294967295 (s.data.toList.take k) : Int)) (fun i _ _ => s.size - (intOf i).toNat)
  case atStart => exact ⟨h2, t2, 0, Nat.zero_le _, rfl, rfl⟩
  case round =>
    clear h2 t2
    obtain ⟨h2, t2, k, hk, rfl, rfl⟩ := hrel
    have hlt32 : crcS 4294967295 (s.data.toList.take k) < 4294967296 := crcS_lt (by decide) _
    by_cases hlt : k < s.size
    · obtain ⟨b, hb⟩ : ∃ b, s.data.toList[k]'(by omega) = b := ⟨_, rfl⟩
      have hst : s.data.toList.take (k + 1) = s.data.toList.take k ++ [b] := by rw [List.take_add_one, List.getElem?_eq_getElem (by omega), hb]; rfl
      have hsb : s[k]'hlt = b := by rw [← hb]; rfl
      have hCS := Lib.hid (crcS_snoc 4294967295 (s.data.toList.take k) b)
      rw [← hst] at hCS
      obtain ⟨c, hc⟩ : ∃ c, crcS 4294967295 (s.data.toList.take k) = c := ⟨_, rfl⟩
      rw [hc] at hlt32 hCS ⊢
      have hb256 : b.toNat < 256 := UInt8.toNat_lt b
      have e8 : bits .xor .u8 (IntKind.u8.wrap (c : Int)) (b.toNat : Int) = ((c % 256 ^^^ b.toNat : Nat) : Int) := by
        rw [← bits_xor8 (c % 256) b.toNat (Nat.mod_lt _ (by decide)) hb256, IntKind.wrap_u8]; rfl
      have hxl : (c % 256) ^^^ b.toNat < 256 := Nat.xor_lt_two_pow (n := 8) (Nat.mod_lt _ (by decide)) hb256
      have e32 : bits .xor .u32 (crc8 ((c % 256) ^^^ b.toNat) : Int) ((c : Int) / 256) = (crc8 (c ^^^ b.toNat) : Int) := by
        rw [crc8_table c]
        exact bits_xor32 (crc8 ((c % 256) ^^^ b.toNat)) (c / 256) (crc8_lt (by omega)) (by omega)
      have hnew : crc8 (c ^^^ b.toNat) < 4294967296 := crc8_lt (xor_lt32 hlt32 (by omega))
      obtain ⟨q, hq⟩ : ∃ q, c % 256 ^^^ b.toNat = q := ⟨_, rfl⟩
      rw [hq] at e8 hxl e32
      have cT := Tb.sum h2 q hxl
      have hia : ∀ w : World, (Instr.indexAt 123 (.pointer (some ⟨tb, 3, none⟩)) (.int .u8 (q : Int))).run Tryz.prog w = .ok (.pointer (some ⟨tb, 3 + q, none⟩)) w := by
        intro w
        have : (q : Int) < 256 := by omega
        rw [run_indexAt_array _ _ _ _ _ (by kernel_rfl)]
        simp [go_sem, Program.arrayLen, Program.elem, Tryz.underlying123, Tryz.sizeOf114, this, Addr.add]
      clear hst hc hq hb
      go_wp2
      go_quiet (fail)
      go_wp2_with fail
      go_roundw
      case rel => exact ⟨Blk.drewN h2 _, t2.drewN _, k + 1, by omega, by go_num, by rw [hCS.out]⟩
      case measure => simp [intOf]; omega
    · obtain rfl : k = s.size := by omega
      rw [← hsz, List.take_length] at *
      have e : bits .xor .u32 IntKind.u32.max (crcS 4294967295 s.data.toList : Int) = (crc s.data.toList : Int) := by
        have := bits_xor32 4294967295 _ (by decide) hlt32
        rw [Nat.xor_comm] at this
        exact this
      have hcl := crc_lt s.data.toList
      have e64 : wrap64 (crc s.data.toList : Int) = (crc s.data.toList : Int) := Go.IntWalk.wrap64_in _ (by omega)
      have H := Lib.hid (And.intro h2 t2)
      clear h2 t2
      go_wp2
      go_ret
      exact ⟨rfl, H.out.1, H.out.2⟩
set_option maxRecDepth 100000 in
set_option maxHeartbeats 1600000 in
theorem do_done {w : World} {tb : Nat} (h : Tb w tb 1 0 crc8) :
    Calls Tryz.prog 74 #[.pointer (some ⟨tb, 0, none⟩), .func (.func 75) #[.pointer (some ⟨tb, 0, none⟩)] #[]] w fun e w' => e = .returned (.tuple #[]) ∧ w' = w := by
  have hnot : ∀ (x : Bool) (w : World), (Op.unary .not (.bool x)).run Tryz.prog w = .ok (.bool (!x)) w := fun _ _ => rfl
  have hl := load_any ⟨tb, 0, none⟩ 1 w h.cell0
  go_enter Tryz.func74, Tryz.ntmps74
  go_wp2_with (first | (go_at_call 86; refine hl.mono ?_; rintro e w' ⟨rfl, rfl⟩))
  go_end0
  exact ⟨rfl, rfl⟩
set_option maxRecDepth 100000 in
set_option maxHeartbeats 1600000 in
theorem checksum_done (s : ByteArray) (hs : s.size ≤ 1048576) {w : World} {tb : Nat} (h : Tb w tb 1 0 crc8) :
    Calls Tryz.prog 49 #[.pointer (some ⟨tb, 0, none⟩), .string s] w fun e w' => e = .returned (.int .i64 (crc s.data.toList : Int)) ∧ ∃ n, w' = w.drewN n := by
  have hmf : ∀ (fn : Fn) (first cap : Array Value) (w : World), (Instr.makeFunc fn first cap).run Tryz.prog w = .ok (.func fn first cap) w := fun _ _ _ _ => rfl
  have hsz : s.data.toList.length = s.size := Array.length_toList
  go_enter Tryz.func49, Tryz.ntmps49
  go_wp2_with (first | (go_at_call 74; refine (do_done h).mono ?_; rintro e w2 ⟨rfl, e2⟩; have e2 := e2.symm; subst e2))
  go_loopw [15, 5] (fun i c wr => (∃ n, wr = w.drewN n) ∧ ∃ k : Nat, k ≤ s.size ∧ i = .int .i64 (k : Int) ∧ c = .int .u32 (crcS 4294967295 (s.data.toList.take k) : Int)) (fun i _ _ => s.size - (intOf i).toNat)
  case atStart => exact ⟨⟨0, rfl⟩, 0, Nat.zero_le _, rfl, rfl⟩
  case round =>
    obtain ⟨⟨n0, hn0⟩, k, hk, rfl, rfl⟩ := hrel
    have h2 : Tb wr tb 1 0 crc8 := by rw [hn0]; exact Blk.drewN h n0
    have HN0 := Lib.hid hn0
    clear hn0
    have hlt32 : crcS 4294967295 (s.data.toList.take k) < 4294967296 := crcS_lt (by decide) _
    by_cases hlt : k < s.size
    · obtain ⟨b, hb⟩ : ∃ b, s.data.toList[k]'(by omega) = b := ⟨_, rfl⟩
      have hst : s.data.toList.take (k + 1) = s.data.toList.take k ++ [b] := by rw [List.take_add_one, List.getElem?_eq_getElem (by omega), hb]; rfl
      have hsb : s[k]'hlt = b := by rw [← hb]; rfl
      have hCS := Lib.hid (crcS_snoc 4294967295 (s.data.toList.take k) b)
      rw [← hst] at hCS
      obtain ⟨c, hc⟩ : ∃ c, crcS 4294967295 (s.data.toList.take k) = c := ⟨_, rfl⟩
      rw [hc] at hlt32 hCS ⊢
      have hb256 : b.toNat < 256 := UInt8.toNat_lt b
      have e8 : bits .xor .u8 (IntKind.u8.wrap (c : Int)) (b.toNat : Int) = ((c % 256 ^^^ b.toNat : Nat) : Int) := by
        rw [← bits_xor8 (c % 256) b.toNat (Nat.mod_lt _ (by decide)) hb256, IntKind.wrap_u8]; rfl
      have hxl : (c % 256) ^^^ b.toNat < 256 := Nat.xor_lt_two_pow (n := 8) (Nat.mod_lt _ (by decide)) hb256
      have e32 : bits .xor .u32 (crc8 ((c % 256) ^^^ b.toNat) : Int) ((c : Int) / 256) = (crc8 (c ^^^ b.toNat) : Int) := by
        rw [crc8_table c]
        exact bits_xor32 (crc8 ((c % 256) ^^^ b.toNat)) (c / 256) (crc8_lt (by omega)) (by omega)
      have hnew : crc8 (c ^^^ b.toNat) < 4294967296 := crc8_lt (xor_lt32 hlt32 (by omega))
      obtain ⟨q, hq⟩ : ∃ q, c % 256 ^^^ b.toNat = q := ⟨_, rfl⟩
      rw [hq] at e8 hxl e32
      have cT := Tb.sum h2 q hxl
      have hia : ∀ w : World, (Instr.indexAt 123 (.pointer (some ⟨tb, 3, none⟩)) (.int .u8 (q : Int))).run Tryz.prog w = .ok (.pointer (some ⟨tb, 3 + q, none⟩)) w := by
        intro w
        have : (q : Int) < 256 := by omega
        rw [run_indexAt_array _ _ _ _ _ (by kernel_rfl)]
        simp [go_sem, Program.arrayLen, Program.elem, Tryz.underlying123, Tryz.sizeOf114, this, Addr.add]
      clear hst hc hq hb
      go_wp2
      go_quiet (fail)
      go_wp2_with fail
      go_roundw
      case rel => exact ⟨⟨_, by rw [HN0.out, World.drewN_drewN]⟩, k + 1, by omega, by go_num, by rw [hCS.out]⟩
      case measure => simp [intOf]; omega
    · obtain rfl : k = s.size := by omega
      rw [← hsz, List.take_length] at *
      have e : bits .xor .u32 IntKind.u32.max (crcS 4294967295 s.data.toList : Int) = (crc s.data.toList : Int) := by
        have := bits_xor32 4294967295 _ (by decide) hlt32
        rw [Nat.xor_comm] at this
        exact this
      have hcl := crc_lt s.data.toList
      have e64 : wrap64 (crc s.data.toList : Int) = (crc s.data.toList : Int) := Go.IntWalk.wrap64_in _ (by omega)
      go_wp2
      go_ret
      exact ⟨rfl, n0, HN0.out⟩
end Go.Proofs.YtfdnpchbbngpjaaGreat
