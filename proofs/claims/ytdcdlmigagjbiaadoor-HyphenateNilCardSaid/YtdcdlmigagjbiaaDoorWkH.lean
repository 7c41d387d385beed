/- The walk of Make. -/
import Derived.Test.YtdcdlmigagjbiaaDoorWkG
import Derived.Outline
namespace Go.Proofs.YtdcdlmigagjbiaaDoor
open Go.RowKit
def okI (l : List Int) : Bool := l.all isPtI
def encI (l : List Int) : List UInt8 := U.encs (l.map Int.toNat)
theorem encI_snoc (l : List Int) (k : Nat) (hk : k < l.length) : encI (l.take (k + 1)) = encI (l.take k) ++ U.enc (l.getD k 0).toNat := by
  rw [List.take_succ_eq_append_getElem hk]
  unfold encI
  rw [List.map_append, U.encs_append]
  congr 1
  simp [U.encs, List.getD, List.getElem?_eq_getElem hk]
theorem encI_len (l : List Int) (k : Nat) : (encI (l.take k)).length ≤ 4 * k := by
  have h : ∀ l : List Nat, (U.encs l).length ≤ 4 * l.length := by
    intro l
    induction l with
    | nil => simp [U.encs]
    | cons p ps ih => rw [U.encs_cons, List.length_append, U.enc_length, List.length_cons]; have := U.esize_pos p; omega
  have := h ((l.take k).map Int.toNat)
  have h2 := List.length_take_le k l
  rw [List.length_map] at this
  unfold encI; omega
theorem okI_snoc (l : List Int) (k : Nat) (hk : k < l.length) : okI (l.take (k + 1)) = (okI (l.take k) && isPtI (l.getD k 0)) := by
  rw [List.take_succ_eq_append_getElem hk]
  unfold okI
  rw [List.all_append]
  simp [List.getD, List.getElem?_eq_getElem hk]
theorem okI_no (l : List Int) (k : Nat) (hk : k < l.length) (h : isPtI (l.getD k 0) = false) : okI l = false := by
  unfold okI
  rw [List.all_eq_false]
  refine ⟨l[k], List.getElem_mem hk, ?_⟩
  rw [List.getD, List.getElem?_eq_getElem hk] at h
  simpa using h
/-- what Make returns -/
def makeP (l : List Int) : List UInt8 × Int := if okI l then (encI l, 0) else ([], 2)
theorem ret_make {l : List Int} {a : List UInt8} {b : Int} (h : makeP l = (a, b)) : Ending.returned (.tuple #[.string ⟨a.toArray⟩, .int .i64 b]) = .returned (.tuple #[.string ⟨(makeP l).1.toArray⟩, .int .i64 (makeP l).2]) := by rw [h]
theorem isPoint_at (p : Int) (b : Bool) (h : Hid (isPtI p = b)) (w : World) :
    Calls Tryd.prog 54 #[.int .i64 p] w fun e w' => e = .returned (.bool b) ∧ w = w' := by
  have := isPoint_any p w
  rw [h.out] at this
  exact this
set_option maxRecDepth 100000 in
set_option maxHeartbeats 400000 in
theorem make_any (v : Value) (l : List Int) (w : World) (hl : l.length ≤ 1000000000) (hv : Ints w v l) :
    Calls Tryd.prog 41 #[v] w fun e w' => e = .returned (.tuple #[.string ⟨(makeP l).1.toArray⟩, .int .i64 (makeP l).2]) ∧ Below w.heap.size w w' := by
  rcases hv.open with ⟨rfl, ao, cap, rfl⟩ | ⟨hpos, b, off, cap, rfl, _, _, hlt, hc⟩
  · have hconv := Lib.run_convert_nil_bytes (P := Tryd.prog) w 76 9 5 0 Tryd.underlying76 Tryd.underlying5 Tryd.underlying9
    go_enter Tryd.func41, Tryd.ntmps41
    go_wp2
    refine wp_loop_rounds 1 ?_
    rw [rounds_succ]
    go_wp2
    go_ret2
    exact ⟨ret_make (a := []) (b := 0) rfl, Below.refl _ _⟩
  · have hc' := Lib.hid hc
    clear hc hv
    go_enter Tryd.func41, Tryd.ntmps41
    go_wp2
    go_loopw [4, 9] (fun v i wr => ∃ k : Nat, k ≤ l.length ∧ i = .int .i64 k ∧ wr.ownsRow w.heap.size 5 1 v (encI (l.take k)).length (Lib.byteCells (encI (l.take k))) ∧ Below w.heap.size w wr ∧ okI (l.take k) = true) (fun _ i _ => l.length - (intOf i).toNat)
    case atStart => exact ⟨0, Nat.zero_le _, rfl, World.ownsRow_nil _ _ _ _, Below.refl _ _, rfl⟩
    case round =>
      obtain ⟨k, hk, rfl, hown, hbel, hok⟩ := hrel
      have Hok := Lib.hid hok
      clear hok
      have hln := encI_len l k
      have hsz := hbel.size
      by_cases hlk : k < l.length
      · have hcell : wr.cell? ⟨b, off + k, none⟩ = some (.int .i64 (l.getD k 0)) := (hbel.cell (p := ⟨b, off + k, none⟩) hlt).trans (hc'.out k hlk)
        have hes := Lib.hid (encI_snoc l k hlk)
        have hos := Lib.hid (okI_snoc l k hlk)
        obtain ⟨c, hp⟩ : ∃ c, isPtI (l.getD k 0) = c := ⟨_, rfl⟩
        have hno := fun h => Lib.hid (okI_no l k hlk h)
        generalize l.getD k 0 = z at hcell hes hos hp hno
        have Hp := Lib.hid hp
        cases c
        · have hno' := hno hp
          clear hp hno
          go_wp2_with ((go_at_call 54; (with_reducible refine (isPoint_at _ _ Hp _).mono ?_); rintro e w' ⟨rfl, rfl⟩))
          go_ret2
          exact ⟨ret_make (a := []) (b := 2) (by unfold makeP; rw [hno'.out]; rfl), hbel⟩
        · clear hp hno
          obtain ⟨p, rfl⟩ : ∃ p : Nat, z = p := ⟨z.toNat, by have := (isPtI_iff z).1 Hp.out; omega⟩
          have hpt := Lib.hid (show U.isPt p = true by have := Hp.out; unfold isPtI at this; simpa using this)
          have hp4 := U.esize_pos p
          go_wp2_with (first
            | (go_at_call 54; (with_reducible refine (isPoint_at _ _ Hp _).mono ?_); rintro e w' ⟨rfl, rfl⟩)
            | (go_at_call 55; (with_reducible refine (encode_any p w.heap.size _ _ _ wr hpt.out (by omega) hsz hown).mono ?_); rintro e w1 ⟨v', rfl, hb1, hown1⟩))
          go_roundw
          case rel =>
            refine ⟨k + 1, by omega, by go_num, ?_, hbel.trans hb1, by rw [hos.out, Hok.out, Hp.out]; rfl⟩
            rw [hes.out, List.length_append, U.enc_length, show ((p : Int)).toNat = p from Int.toNat_natCast p]
            have : Lib.byteCells (encI (l.take k) ++ U.enc p) = Lib.byteCells (encI (l.take k)) ++ Lib.byteCells (U.enc p) := by simp [Lib.byteCells]
            rw [this]
            exact hown1
          case measure => simp [intOf]; omega
      · have ht := Lib.hid (show l.take k = l from List.take_of_length_le (by omega))
        have hconv := conv_owned (P := Tryd.prog) Tryd.underlying76 Tryd.underlying5 Tryd.underlying9 hown
        clear hown
        go_wp2
        go_ret2
        exact ⟨ret_make (a := encI (l.take k)) (b := 0) (by have h1 := ht.out; have h2 := Hok.out; rw [h1] at h2; rw [h1]; unfold makeP; rw [h2]; rfl), hbel⟩
end Go.Proofs.YtdcdlmigagjbiaaDoor
