/- 'm[k] op= v' over a map that is owned: the entry is made or found, looked up, and stored. No program. -/
import Derived.WideKeyEntry
import Derived.Maps.OwnOps
import Derived.Maps.OwnSet
namespace Go.Proofs.YtkoijhecahebgaaDoor
open Go.MapKept Go.ChangeMaps Go.WideElems
open Go.Maps (Keyed)
section
variable {H : Type} {P : Program} {k : TypeId} {R : Value → Option (DataW H × List MemPlace)} {w : World} {b n : Nat} {D : DataW H}
theorem ownsMap_block {w' : World} (h : w.ownsMap P k R b n D) (e : w'.heap[b]? = w.heap[b]?) : w'.ownsMap P k R b n D := by
  obtain ⟨es, clock, hb, F, hs, hD⟩ := h
  exact ⟨es, clock, e.trans hb, F, hs, hD⟩
theorem setBlock_grown {w : World} {b : Nat} {es : Array MapEntry} {clock : Nat} (o' : Obj) (h : w.heap[b]? = some (.map es clock)) : w.grownBy (setBlock w b o') (some b) :=
  ⟨rfl, rfl, rfl, by simp [setBlock], fun i _ hi => heap_setBlock_other h _ (fun e => hi (by rw [e]))⟩
theorem ownsMap_entry {t e : TypeId} (h : w.ownsMap P k R b n D) (K : Keyed P k) (ht : P.underlying t = some (.map k e)) (hn : n < maxLen) {z : Value} (hz : (zeroValue e).run P w = .ok z w) {zd : DataW H} (hzd : R z = some (zd, []))
    {key : Value} {kl : Lit} (hkey : keyOf P k key = some kl) (hmap : Maps.IsMap D) :
    ∃ v0 st w1 D1, (Instr.mapEntry t (.map (some b)) key).run P w = .ok (.tuple #[v0, goInt st]) w1 ∧ w.grownBy w1 (some b) ∧ w1.ownsMap P k R b (n + 1) D1 ∧ D1.atKey kl zd = D.atKey kl zd ∧
      ∀ (w2 : World) (val : Value) (d : DataW H) (ps : List MemPlace), w2.heap[b]? = w1.heap[b]? → R val = some (d, ps) →
        ∃ w3, (Instr.entryStore t (.map (some b)) (goInt st) val).run P w2 = .ok () w3 ∧ w3.ownsMap P k R b (n + 1) (D.put kl d) ∧ w2.grownBy w3 (some b) := by
  have h0 := h
  obtain ⟨es, clock, hb, F, hs, hD⟩ := h
  obtain ⟨s1, s2, _⟩ := F.stamped
  rcases K.find w hkey es.toList F.keys with ⟨h1, h2⟩ | ⟨j, e0, h1, h2, h3⟩
  · have hw1 := heap_setBlock_same hb (.map (es.push ⟨key, z, clock⟩) (clock + 1))
    have hmu : ∀ val : Value, (Instr.mapUpdate t (.map (some b)) key val).run P w = .ok () (setBlock w b (.map (es.push ⟨key, val, clock⟩) (clock + 1))) := fun val => by
      simp [Instr.mapUpdate, run_underlying ht, MapKept.run_getObj_map hb, K.check w false hkey, h1, MapKept.run_setObj_map _ hb, Result.andThen, setBlock]
    have hov : ∀ (val : Value) (d : DataW H) (ps : List MemPlace), R val = some (d, ps) → (setBlock w b (.map (es.push ⟨key, val, clock⟩) (clock + 1))).ownsMap P k R b (n + 1) (D.put kl d) := fun val d ps hv => by
      obtain ⟨w', hr, ho, _⟩ := h0.update K ht hn hkey hv
      rw [hmu val] at hr
      cases hr
      exact ho
    refine ⟨z, clock, setBlock w b (.map (es.push ⟨key, z, clock⟩) (clock + 1)), D.put kl zd, ?_, setBlock_grown _ hb, hov z zd [] hzd, ?_, fun w2 val d ps hw2 hv => ⟨setBlock w2 b (.map (es.push ⟨key, val, clock⟩) (clock + 1)), ?_, ?_, ?_⟩⟩
    · simp [Instr.mapEntry, run_underlying ht, MapKept.run_getObj_map hb, K.check w false hkey, h1, hz, MapKept.run_setObj_map _ hb, Result.andThen, setBlock]
    · rw [Maps.atKey_put_same hmap (K.key hkey)]
      rcases Maps.fit_look false K ht hz hb F hkey with ⟨_, _, hat⟩ | ⟨e1, y, he1, hk1, _⟩
      · rw [hD]; exact (hat zd).symm
      · exact absurd hk1 (h2 e1 he1)
    · rw [hw1] at hw2
      have hidx : (es.push ⟨key, z, clock⟩).findIdx? (fun e => ((e.born : Nat) : Int) == ((clock : Nat) : Int)) = some es.size := by
        rw [findIdx_arr]
        have := findIdx_born (l := (es.push ⟨key, z, clock⟩).toList) (j := es.size) (e0 := ⟨key, z, clock⟩) (by
          simp only [Array.toList_push, List.map_append, List.map_cons, List.map_nil]
          refine List.nodup_append.2 ⟨s2, by simp, fun a ha c hc e1 => ?_⟩
          simp only [List.mem_singleton] at hc
          obtain ⟨x, hx, rfl⟩ := List.mem_map.1 ha
          have := s1 x hx
          omega) (by simp)
        exact this
      have hmod : (es.push ⟨key, z, clock⟩).modify es.size (fun e => { e with val := val }) = es.push ⟨key, val, clock⟩ := by
        apply Array.ext'
        rw [Array.toList_modify, Array.toList_push, Array.toList_push, ← Array.length_toList, modify_last]
      simp [Instr.entryStore, MapKept.run_getObj_map hw2, asInt, asIntOf, goInt, hidx, hmod, MapKept.run_setObj_map _ hw2, Result.andThen, setBlock]
    · rw [hw1] at hw2
      refine ownsMap_block (hov val d ps hv) ?_
      rw [heap_setBlock_same hw2, heap_setBlock_same hb]
    · rw [hw1] at hw2
      exact setBlock_grown _ hw2
  · have hj : es[j]? = some e0 := by simpa using h2
    have hsame : es.modify j (fun e => { e with key := key }) = es := by
      apply Array.ext'
      rw [Array.toList_modify, modify_eq_set _ _ _ _ h2]
      have : ({ e0 with key := key } : MapEntry) = e0 := by rw [← h3]
      rw [this]
      exact set_self _ _ _ h2
    have hw1 := heap_setBlock_same hb (.map es clock)
    refine ⟨e0.val, e0.born, setBlock w b (.map es clock), D, ?_, setBlock_grown _ hb, ownsMap_block (h0.mono (Nat.le_succ n)) (hw1.trans hb.symm), rfl, fun w2 val d ps hw2 hv => ⟨setBlock w2 b (.map (es.modify j (fun e' => { e' with key := key, val := val })) clock), ?_, ?_, ?_⟩⟩
    · simp [Instr.mapEntry, run_underlying ht, MapKept.run_getObj_map hb, K.check w false hkey, h1, hj, h3, K.stays w hkey, hsame, MapKept.run_setObj_map _ hb, Result.andThen, setBlock]
    · rw [hw1] at hw2
      have hidx : es.findIdx? (fun e => ((e.born : Nat) : Int) == ((e0.born : Nat) : Int)) = some j := by
        rw [findIdx_arr]
        exact findIdx_born s2 h2
      have hmod : es.modify j (fun e => { e with val := val }) = es.modify j (fun e' => { e' with key := key, val := val }) := by
        apply Array.ext'
        rw [Array.toList_modify, Array.toList_modify, modify_eq_set _ _ _ _ h2, modify_eq_set _ _ _ _ h2, ← h3]
      simp [Instr.entryStore, MapKept.run_getObj_map hw2, asInt, asIntOf, goInt, hidx, hmod, MapKept.run_setObj_map _ hw2, Result.andThen, setBlock]
    · rw [hw1] at hw2
      have hmu : (Instr.mapUpdate t (.map (some b)) key val).run P w = .ok () (setBlock w b (.map (es.modify j (fun e' => { e' with key := key, val := val })) clock)) := by
        simp [Instr.mapUpdate, run_underlying ht, MapKept.run_getObj_map hb, K.check w false hkey, h1, hj, h3, K.stays w hkey, MapKept.run_setObj_map _ hb, Result.andThen, setBlock]
      obtain ⟨w', hr, ho, _⟩ := h0.update K ht hn hkey hv
      rw [hmu] at hr
      cases hr
      refine ownsMap_block ho ?_
      rw [heap_setBlock_same hw2, heap_setBlock_same hb]
    · rw [hw1] at hw2
      exact setBlock_grown _ hw2
end
end Go.Proofs.YtkoijhecahebgaaDoor
