/- A map's entry found or made, then written: together one update ('m[k], x = v, ..'). Nothing of a program stands here. -/
import Derived.Test.YtfhcecfddejcdaaVmem
import Derived.WideKeyEntry
namespace Go.Proofs.Ytfhcecfddejcdaa
open Go.RowKit Go.Maps Go.WideElems Go.ChangeMaps

section
variable {P : Program} {t k e : TypeId} {R : Value → Option (DataW Unit × List MemPlace)} {w : World} {b n : Nat} {D : DataW Unit}
theorem twice_set (w : World) (b : Nat) (o o' : Obj) : setBlock (setBlock w b o) b o' = setBlock w b o' := by
  unfold setBlock
  simp
/-- the entry of a stamp is found where it lies -/
theorem born_at {l : Array MapEntry} {clock : Nat} (h : MapKept.Stamped l clock) {j : Nat} {x : MapEntry} (hx : l.toList[j]? = some x) : l.findIdx? (fun e => ((e.born : Nat) : Int) == ((x.born : Nat) : Int)) = some j := by
  rw [findIdx_arr]; exact findIdx_born h.2.1 hx
theorem pushed_stamp {es : Array MapEntry} {clock : Nat} (h : MapKept.Stamped es clock) {key : Value} (hk : ∀ x ∈ es.toList, x.key ≠ key) (z : Value) : MapKept.Stamped (es.push ⟨key, z, clock⟩) (clock + 1) := by
  obtain ⟨h1, h2, h3⟩ := h
  refine ⟨fun x hx => ?_, ?_, ?_⟩
  · rcases List.mem_append.1 (by simpa using hx : x ∈ es.toList ++ [⟨key, z, clock⟩]) with hx | hx
    · exact Nat.lt_succ_of_lt (h1 x hx)
    · obtain rfl : x = ⟨key, z, clock⟩ := by simpa using hx
      exact Nat.lt_succ_self _
  · rw [Array.toList_push, List.map_append]
    refine List.nodup_append.2 ⟨h2, by simp, fun p hp q hq hpq => ?_⟩
    obtain ⟨x, hx, rfl⟩ := List.mem_map.1 hp
    obtain rfl : q = clock := by simpa using hq
    exact absurd (h1 x hx) (by omega)
  · rw [Array.toList_push, List.map_append]
    refine List.nodup_append.2 ⟨h3, by simp, fun p hp q hq hpq => ?_⟩
    obtain ⟨x, hx, rfl⟩ := List.mem_map.1 hp
    obtain rfl : q = key := by simpa using hq
    exact hk x hx hpq
theorem entry_own (h : w.ownsMap P k R b n D) (K : Keyed P k) (ht : P.underlying t = some (.map k e)) {z : Value} (hz : ∀ u : World, (zeroValue e).run P u = .ok z u) (hn : n < maxLen) {key val : Value} {kl : Lit} {d : DataW Unit} {ps : List MemPlace}
    (hkey : keyOf P k key = some kl) (hv : R val = some (d, ps)) :
    ∃ (v0 : Value) (st : Nat) (w1 w2 : World), (Instr.mapEntry t (.map (some b)) key).run P w = .ok (.tuple #[v0, .int .i64 (st : Int)]) w1 ∧ (Instr.entryStore t (.map (some b)) (.int .i64 (st : Int)) val).run P w1 = .ok () w2 ∧
      w2.ownsMap P k R b (n + 1) (D.put kl d) ∧ w.mapTurned w2 b := by
  obtain ⟨w2, hrun, ho, hturn⟩ := h.store K ht hn hkey hv
  obtain ⟨es, clock, hb, F, _, _⟩ := h
  have HS := F.stamped
  rcases K.find w hkey es.toList F.keys with ⟨h1, h2⟩ | ⟨j, x, h1, h2, h3⟩
  · have hb1 := heap_setBlock_same hb (.map (es.push ⟨key, z, clock⟩) (clock + 1))
    have hidx := born_at (pushed_stamp HS h2 z) (j := es.size) (x := ⟨key, z, clock⟩) (by simp)
    have hmod : (es.push ⟨key, z, clock⟩).modify es.size (fun e => { e with val := val }) = es.push ⟨key, val, clock⟩ := by
      apply Array.ext'
      rw [Array.toList_modify, Array.toList_push, Array.toList_push, ← Array.length_toList, modify_last]
    have hup : (Instr.mapUpdate t (.map (some b)) key val).run P w = .ok () (setBlock w b (.map (es.push ⟨key, val, clock⟩) (clock + 1))) := by
      simp [Instr.mapUpdate, run_underlying ht, MapKept.run_getObj_map hb, K.check w false hkey, h1, MapKept.run_setObj_map _ hb, Result.andThen, setBlock]
    obtain rfl : w2 = setBlock w b (.map (es.push ⟨key, val, clock⟩) (clock + 1)) := by
      rw [hup] at hrun; injection hrun with _ hrun; exact hrun.symm
    refine ⟨z, clock, setBlock w b (.map (es.push ⟨key, z, clock⟩) (clock + 1)), _, ?_, ?_, ho, hturn⟩
    · simp [Instr.mapEntry, run_underlying ht, MapKept.run_getObj_map hb, K.check w false hkey, h1, hz, MapKept.run_setObj_map _ hb, Result.andThen, setBlock, goInt]
    · rw [← twice_set w b (.map (es.push ⟨key, z, clock⟩) (clock + 1)) (.map (es.push ⟨key, val, clock⟩) (clock + 1))]
      generalize setBlock w b (.map (es.push ⟨key, z, clock⟩) (clock + 1)) = u at hb1
      simp at hidx
      simp [Instr.entryStore, MapKept.run_getObj_map hb1, asInt, asIntOf, hidx, hmod, MapKept.run_setObj_map _ hb1, Result.andThen, setBlock]
  · have hj : es[j]? = some x := by simpa using h2
    have hsame : es.modify j (fun e => { e with key := key }) = es := by
      apply Array.ext'
      rw [Array.toList_modify, modify_eq_set _ _ _ _ h2]
      rw [show ({ x with key := key } : MapEntry) = x from by rw [← h3]]
      exact set_self _ _ _ h2
    have hmod : es.modify j (fun e => { e with val := val }) = es.modify j (fun e' => { e' with key := key, val := val }) := by
      apply Array.ext'
      rw [Array.toList_modify, Array.toList_modify, modify_eq_set _ _ _ _ h2, modify_eq_set _ _ _ _ h2, ← h3]
    have hidx := born_at HS h2
    have hup : (Instr.mapUpdate t (.map (some b)) key val).run P w = .ok () (setBlock w b (.map (es.modify j (fun e' => { e' with key := key, val := val })) clock)) := by
      simp [Instr.mapUpdate, run_underlying ht, MapKept.run_getObj_map hb, K.check w false hkey, h1, hj, h3, K.stays w hkey, MapKept.run_setObj_map _ hb, Result.andThen, setBlock]
    obtain rfl : w2 = setBlock w b (.map (es.modify j (fun e' => { e' with key := key, val := val })) clock) := by
      rw [hup] at hrun; injection hrun with _ hrun; exact hrun.symm
    have hb1 := heap_setBlock_same hb (.map es clock)
    refine ⟨x.val, x.born, setBlock w b (.map es clock), _, ?_, ?_, ho, hturn⟩
    · simp [Instr.mapEntry, run_underlying ht, MapKept.run_getObj_map hb, K.check w false hkey, h1, hj, h3, K.stays w hkey, hsame, MapKept.run_setObj_map _ hb, Result.andThen, setBlock, goInt]
    · rw [← twice_set w b (.map es clock) (.map (es.modify j (fun e' => { e' with key := key, val := val })) clock)]
      generalize setBlock w b (.map es clock) = u at hb1
      simp [Instr.entryStore, MapKept.run_getObj_map hb1, asInt, asIntOf, hidx, hmod, MapKept.run_setObj_map _ hb1, Result.andThen, setBlock]
end

/-! ### a map of flags that reads as a list of keys -/
def flagMap (l : List Nat) : DataW Unit := l.foldl (fun D s => D.put (key s) (.lit (.bool true))) (.map [])
theorem flagMap_isMap (l : List Nat) : IsMap (flagMap l) := by
  unfold flagMap
  suffices ∀ D : DataW Unit, IsMap D → IsMap (l.foldl (fun D s => D.put (key s) (.lit (.bool true))) D) from this _ ⟨[], rfl⟩
  induction l with
  | nil => exact fun _ h => h
  | cons s r ih => exact fun D h => ih _ (by
      obtain ⟨es, rfl⟩ := h
      exact ⟨_, rfl⟩)
theorem flagMap_snoc (l : List Nat) (s : Nat) : flagMap (l ++ [s]) = (flagMap l).put (key s) (.lit (.bool true)) := by simp [flagMap]
theorem flagMap_has (l : List Nat) (i : Nat) : Maps.has (flagMap l) (key i) = decide (i ∈ l) := by
  suffices ∀ (r : List Nat), Maps.has (flagMap r.reverse) (key i) = decide (i ∈ r.reverse) by have := this l.reverse; simpa using this
  intro r
  induction r with
  | nil => simp [flagMap, Maps.has]
  | cons s r ih =>
    rw [List.reverse_cons, flagMap_snoc]
    by_cases e : i = s
    · subst e
      rw [has_put_same (flagMap_isMap _) (key_is i)]
      simp
    · rw [has_put_other (fun h => e (key_inj h)), ih]
      simp [e]
theorem flagMap_at (l : List Nat) (i : Nat) (hi : i ∈ l) (z : DataW Unit) : (flagMap l).atKey (key i) z = .lit (.bool true) := by
  suffices ∀ (r : List Nat), i ∈ r → (flagMap r.reverse).atKey (key i) z = .lit (.bool true) by have := this l.reverse (by simpa using hi); simpa using this
  intro r
  induction r with
  | nil => intro h; simp at h
  | cons s r ih =>
    intro h
    rw [List.reverse_cons, flagMap_snoc]
    by_cases e : i = s
    · subst e
      rw [atKey_put_same (flagMap_isMap _) (key_is i)]
    · rw [atKey_put_other (fun h => e (key_inj h))]
      exact ih (by simpa [e] using h)
end Go.Proofs.Ytfhcecfddejcdaa
