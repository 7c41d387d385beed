/- append of new zero bytes onto a row of one's own. -/
import Derived.Test.YtfdnpchbbngpjaaGreatVmem
import Derived.Lib.AppendStr
namespace Go.Proofs.YtfdnpchbbngpjaaGreat
open Go.RowKit

def zCells (m : Nat) : List Value := List.replicate m (Value.int .u8 0)
theorem zCells_length (m : Nat) : (zCells m).length = m := List.length_replicate
theorem zCells_one (m : Nat) : ∀ u ∈ zCells m, u.oneCell' = true := by
  intro u hu
  rw [(List.mem_replicate.1 hu).2]
  rfl
theorem zeroCells_z (m : Nat) : Builtin.zeroCells (Value.int IntKind.u8 0).cells m = (zCells m).toArray := by
  unfold Builtin.zeroCells zCells
  apply Array.ext'
  simp [Value.cells, Nat.mod_one, List.map_const']
section
variable {P : Program} (w : World)
theorem run_append_room_zeros (t u ty e : TypeId) (i : TypeInfo) (ht : P.underlying t = some (.slice e)) (hu : P.underlying u = some (.int .i64)) (hi : P.info? e = some i) (hz : i.zero = some (.int .u8 0)) (hs1 : i.size = 1) (hby : i.bytes = 1)
    (g sLen sCap : Nat) (cur : Array Value) (hg : w.heap[g]? = some (.cells cur e (0, 0))) (m : Nat) (hm : m ≤ 1048576) (h0 : 0 < m)
    (hroom : sLen + m ≤ sCap) (hfit : sLen + m ≤ cur.size) :
    (Builtin.append_ #[t, u] ty #[.slice (some ⟨g, 0, none⟩) sLen sCap, .int .i64 (m : Int)]).run P w =
      .ok (.slice (some ⟨g, 0, none⟩) (sLen + m) sCap) (w.setRow g (cur.toList.take sLen ++ zCells m ++ cur.toList.drop (sLen + m)).toArray) := by
  have hst := run_storeCells_at P g sLen e (zCells m) 0 cur w hg (by simpa [zCells_length] using hfit) (zCells_one m)
  simp only [Nat.add_zero, zCells_length] at hst
  have hw : IntKind.i64.wrap (m : Int) = (m : Int) := by rw [IntKind.wrap_i64]; omega
  have ha : ∀ w : World, (asInt (Value.int IntKind.i64 (m : Int))).run P w = .ok (m : Int) w := fun _ => rfl
  have h48 : ¬ (281474976710656 < (m : Int)) := by omega
  have hneg : ¬ ((m : Int) < 0) := by omega
  have hm0 : ¬ (m = 0) := by omega
  simp [Builtin.append_, run_underlying ht, run_underlying hu, sizeOf, typeInfo, zeroValue, hi, hz, hs1, hby, hroom, Addr.add_lit, hst, zeroCells_z, ha, hw, h48, hneg, hm0]
theorem run_append_grow_zeros (t u ty e : TypeId) (i : TypeInfo) (ht : P.underlying t = some (.slice e)) (hu : P.underlying u = some (.int .i64)) (hi : P.info? e = some i) (hz : i.zero = some (.int .u8 0)) (hs1 : i.size = 1) (hby : i.bytes = 1)
    (b : Addr) (sLen sCap : Nat) (olds : List Value) (hlo : olds.length = sLen * i.size) (holds : ∀ j v, olds[j]? = some v → w.cell? (b.add j) = some v) (m : Nat) (hm : m ≤ 1048576) (h0 : 0 < m)
    (hg : sCap < sLen + m) (h63 : ((sLen + m : Nat) : Int) ≤ 9223372036854775807) (hfit : Builtin.nextslicecap (sLen + m) sCap ≤ 281474976710656) :
    (Builtin.append_ #[t, u] ty #[.slice (some b) sLen sCap, .int .i64 (m : Int)]).run P w =
      .ok (.slice (some ⟨w.heap.size, 0, none⟩) (sLen + m) (grownCap w (sLen + m) sCap e))
        (w.drew.alloc (.cells (olds.toArray ++ (zCells m).toArray ++ Builtin.zeroCells (Value.int IntKind.u8 0).cells (grownCap w (sLen + m) sCap e - (sLen + m))) e)) := by
  have hn : ¬ (sLen + m ≤ sCap) := by omega
  have h63' : ¬ (9223372036854775807 < ((sLen : Int) + (m : Int))) := by omega
  have h48' : ¬ (281474976710656 < Builtin.nextslicecap (sLen + m) sCap) := by omega
  have hfo := run_firstCells_some (P := P) w.drew i.size sLen b sLen sCap olds hlo (by simpa using holds)
  have hw : IntKind.i64.wrap (m : Int) = (m : Int) := by rw [IntKind.wrap_i64]; omega
  have ha : ∀ w : World, (asInt (Value.int IntKind.i64 (m : Int))).run P w = .ok (m : Int) w := fun _ => rfl
  have h48 : ¬ (281474976710656 < (m : Int)) := by omega
  have hneg : ¬ ((m : Int) < 0) := by omega
  have hm0 : ¬ (m = 0) := by omega
  rw [hs1] at hfo
  simp [Builtin.append_, run_underlying ht, run_underlying hu, sizeOf, typeInfo, zeroValue, hi, hz, hs1, hby, hn, h63', h48', Question.forced, hfo, newRow, grownCap, zeroCells_z, ha, hw, h48, hneg, hm0]
/-- appending zero bytes to a value that owns xs -/
theorem run_append_own_zeros (base : Nat) (t u ty e : TypeId) (i : TypeInfo) (ht : P.underlying t = some (.slice e)) (hu : P.underlying u = some (.int .i64)) (hi : P.info? e = some i) (hz : i.zero = some (.int .u8 0)) (hs1 : i.size = 1) (hby : i.bytes = 1)
    (g cap n : Nat) (xs : List Value) (hown : w.ownsRow base e 1 (.slice (some ⟨g, 0, none⟩) n cap) n xs) (m : Nat) (hm : m ≤ 1048576) (h0 : 0 < m) (hn : n ≤ 1048576) (hbase : base ≤ w.heap.size) :
    ∃ v' w', (Builtin.append_ #[t, u] ty #[.slice (some ⟨g, 0, none⟩) n cap, .int .i64 (m : Int)]).run P w = .ok v' w' ∧ w'.ownsRow base e 1 v' (n + m) (xs ++ zCells m) ∧ w.grownBy w' (some g) := by
  have hxl : xs.length = n := by simpa using hown.1
  have hlen : (xs ++ zCells m).length = (n + m) * 1 := by rw [List.length_append, hxl, zCells_length, Nat.mul_one]
  have h63 : n + m ≤ maxLen := by unfold maxLen; omega
  rcases hown.2 with ⟨h1, h2⟩ | ⟨g', cap', cur, h1, hbg, hg, hnc, hcm, hcs, htake⟩
  · cases h1
  · injection h1 with h1 _ h3
    injection h1 with h1
    injection h1 with h1
    subst h1
    subst h3
    by_cases hroom : n + m ≤ cap
    · have hcs' : cur.size = cap := by simpa using hcs
      have hr := run_append_room_zeros (P := P) w t u ty e i ht hu hi hz hs1 hby g n cap cur hg m hm h0 hroom (by omega)
      refine ⟨_, _, hr, ⟨hlen, .inr ⟨g, cap, _, rfl, hbg, setRow_heap w g cur _ e _ hg, hroom, hcm, ?_, ?_⟩⟩, ⟨rfl, rfl, rfl, by simp, fun k _ hk => setRow_other w g k _ (fun e => hk (by simp [e]))⟩⟩
      · simp only [List.size_toArray, List.length_append, List.length_take, List.length_drop, Array.length_toList, zCells_length]
        omega
      · have ht' : cur.toList.take n = xs := by simpa using htake
        rw [ht', ← hlen]
        exact List.take_left
    · have holds : ∀ j u, xs[j]? = some u → w.cell? ((⟨g, 0, none⟩ : Addr).add j) = some u := hown.cells (g := g) rfl
      have hfit := growslice_fits (need := n + m) (old := cap) (bytes := 1) (by omega) (by omega)
      have hr := run_append_grow_zeros (P := P) w t u ty e i ht hu hi hz hs1 hby ⟨g, 0, none⟩ n cap xs (by rw [hs1]; simpa using hxl) holds m hm h0 (by omega) (by omega) (by simpa using hfit)
      have hge := grownCap_ge w (n + m) cap e
      have hcm' : grownCap w (n + m) cap e ≤ maxLen := grownCap_le_maxLen w (n + m) cap e h63
      refine ⟨_, _, hr, ⟨hlen, .inr ⟨w.heap.size, _, _, rfl, hbase, heap_alloc_new w.drew _, hge, hcm', ?_, ?_⟩⟩, ⟨rfl, rfl, rfl, by simp, fun k hk _ => RowKit.Below.heap_alloc w.drew _ k hk⟩⟩
      · have hz1 : (Value.int IntKind.u8 0).cells.size = 1 := rfl
        simp only [Array.size_append, List.size_toArray, size_zeroCells, hz1, hxl, zCells_length]
        omega
      · simp only [Array.toList_append, List.append_assoc]
        rw [← List.append_assoc, ← hlen]
        exact List.take_left
end
end Go.Proofs.YtfdnpchbbngpjaaGreat
