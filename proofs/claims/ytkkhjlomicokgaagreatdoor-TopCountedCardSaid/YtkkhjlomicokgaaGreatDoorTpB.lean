/- OwnK, MapEnt, MapI, KeepP, Digs, RegRound: texts of one's own, in one file. -/
import Derived.Shelf.SlSortCmp.WholeK
import Derived.Test.YtkkhjlomicokgaaGreatDoorTpA
import Derived.WideKeyEntry
import Derived.Maps.OwnOps
import Derived.Maps.OwnSet
import Derived.Maps.AppendAt
import Derived.Lib.ItoaNum
import Derived.RangeFuncNested
import Derived.RangeFuncCalls
import Derived.OrdersIn
/- An owned row, as the sort's contracts have it (HoldsK, putRowK). No program of its own. -/
namespace Go.Proofs.YtkkhjlomicokgaaGreatDoor
open Go.RowKit Go.Shelf Go.Lib Go.Sort
set_option linter.unusedVariables false
set_option linter.unusedSimpArgs false
section
variable {α : Type} [Inhabited α] {f : α → List Value} {sz : Nat}
theorem flatK_list (hf : ∀ a, (f a).length = sz) (hsz : 0 < sz) (d : Array α) (z : α) : (flatK f sz d).toList = d.toList.flatMap f := by
  apply List.ext_getElem?
  intro t
  obtain ⟨i, r, hr, rfl⟩ : ∃ i r, r < sz ∧ t = i * sz + r := ⟨t / sz, t % sz, Nat.mod_lt _ hsz, by rw [Nat.mul_comm]; exact (Nat.div_add_mod t sz).symm⟩
  rw [fm_get hf _ i r hr]
  by_cases hi : i < d.size
  · have h1 : i * sz + r < d.size * sz := by
      calc i * sz + r < i * sz + sz := by omega
        _ = (i + 1) * sz := by rw [Nat.succ_mul]
        _ ≤ d.size * sz := Nat.mul_le_mul_right _ hi
    have h2 : (flatK f sz d)[i * sz + r]! = (f d[(i * sz + r) / sz]!)[(i * sz + r) % sz]! := get_flatK f sz d _ h1
    have e1 : (i * sz + r) / sz = i := by rw [Nat.mul_comm, Nat.mul_add_div hsz, Nat.div_eq_of_lt hr]; rfl
    have e2 : (i * sz + r) % sz = r := by rw [Nat.mul_comm, Nat.mul_add_mod, Nat.mod_eq_of_lt hr]
    rw [e1, e2] at h2
    have h3 : i * sz + r < (flatK f sz d).size := by rw [size_flatK]; exact h1
    rw [getElem!_pos (flatK f sz d) (i * sz + r) h3] at h2
    rw [Array.getElem?_toList, Array.getElem?_eq_getElem h3, h2, Array.getElem?_toList, Array.getElem?_eq_getElem hi, getElem!_pos d i hi]
    have h4 : r < (f d[i]).length := by rw [hf]; exact hr
    rw [getElem!_pos _ r h4]
    simp [List.getElem?_eq_getElem h4]
  · have h1 : d.size * sz ≤ i * sz + r := Nat.le_trans (Nat.mul_le_mul_right _ (Nat.le_of_not_lt hi)) (Nat.le_add_right _ _)
    rw [Array.getElem?_toList, Array.getElem?_eq_none (by rw [size_flatK]; exact h1), Array.getElem?_toList, Array.getElem?_eq_none (by omega)]
    rfl
variable {w : World} {B n g cap : Nat} {e : TypeId} {l : List α}
theorem own_holds (hf : ∀ a, (f a).length = sz) (hsz : 0 < sz) (hn : l.length = n) (h : w.ownsRow B e sz (.slice (some ⟨g, 0, none⟩) n cap) n (l.flatMap f)) : HoldsK f sz w g 0 l.toArray := by
  intro j hj
  rw [size_flatK] at hj
  have hj' : j < (flatK f sz l.toArray).size := by rw [size_flatK]; exact hj
  cases l with
  | nil => simp at hj
  | cons z l' =>
    have e1 := flatK_list hf hsz (z :: l').toArray z
    simp only [List.toList_toArray] at e1
    have e2 : ((z :: l').flatMap f)[j]? = some (flatK f sz (z :: l').toArray)[j]! := by
      rw [← e1, Array.getElem?_toList, Array.getElem?_eq_getElem hj', getElem!_pos _ j hj']
    rw [Nat.zero_add]
    exact ⟨own_cell h j _ e2, own_free h j⟩
theorem own_putK (hf : ∀ a, (f a).length = sz) (hsz : 0 < sz) (hn : l.length = n) (z : α) {l' : List α} (hn' : l'.length = n) (m : Nat) (h : w.ownsRow B e sz (.slice (some ⟨g, 0, none⟩) n cap) n (l.flatMap f)) :
    (putRowK f sz (Go.Sort.ahead w m) g 0 l'.toArray).ownsRow B e sz (.slice (some ⟨g, 0, none⟩) n cap) n (l'.flatMap f) ∧ w.grownBy (putRowK f sz (Go.Sort.ahead w m) g 0 l'.toArray) (some g) := by
  have hF := flatK_list hf hsz l'.toArray z
  simp only [List.toList_toArray] at hF
  have hFs : (flatK f sz l'.toArray).size = n * sz := by rw [size_flatK]; simp [hn']
  obtain ⟨F, hFF⟩ : ∃ F, flatK f sz l'.toArray = F := ⟨_, rfl⟩
  unfold putRowK
  rw [hFF] at hF hFs ⊢
  refine ⟨⟨by rw [flatMap_len hf, hn'], ?_⟩, ?_⟩
  · rcases h.2 with ⟨h1, _⟩ | ⟨g', cap', cur, h1, h2, h3, h4, h5, h6, h7⟩
    · cases h1
    · simp only [Value.slice.injEq, Option.some.injEq, Addr.mk.injEq, true_and, and_true] at h1
      obtain ⟨rfl, rfl⟩ := h1
      refine .inr ⟨g, cap, Go.Sort.putCells id 0 F cur, rfl, h2, ?_, h4, h5, ?_, ?_⟩
      · show ((w.heap.modify g _)[g]?) = _
        rw [Array.getElem?_modify, if_pos rfl, h3]
        rfl
      · simp [Go.Sort.putCells, h6]
      · rw [← hF]
        apply List.ext_getElem?
        intro t
        have hns : n * sz ≤ cur.size := by rw [h6]; exact Nat.mul_le_mul_right _ h4
        rw [List.getElem?_take]
        by_cases ht : t < n * sz
        · rw [if_pos ht, Array.getElem?_toList, Array.getElem?_toList, Go.Sort.putCells, Array.getElem?_mapIdx, Array.getElem?_eq_getElem (show t < cur.size by omega), Array.getElem?_eq_getElem (show t < F.size by omega)]
          simp only [Option.map_some]
          rw [if_pos ⟨Nat.zero_le _, by omega⟩]
          rw [Nat.sub_zero, getElem!_pos F t (by omega)]
          rfl
        · rw [if_neg ht, Array.getElem?_toList, Array.getElem?_eq_none (by omega)]
  · refine ⟨rfl, rfl, rfl, ?_, fun k hk hne => ?_⟩
    · show w.heap.size ≤ (w.heap.modify g _).size
      simp
    · show (w.heap.modify g _)[k]? = _
      rw [Array.getElem?_modify, if_neg (fun e => hne (by rw [e]))]
end
end Go.Proofs.YtkkhjlomicokgaaGreatDoor

/- 'm[k] op= v' over a map that is owned: the entry is made or found, looked up, and stored. No program. -/
namespace Go.Proofs.YtkkhjlomicokgaaGreatDoor
open Go.MapKept Go.ChangeMaps Go.WideElems
open Go.Maps (Keyed)
section
variable {H : Type} {P : Program} {k : TypeId} {R : Value → Option (DataW H × List MemPlace)} {w : World} {b n : Nat} {D : DataW H}
theorem ownsMap_block {w' : World} (h : w.ownsMap P k R b n D) (e : w'.heap[b]? = w.heap[b]?) : w'.ownsMap P k R b n D := by
  obtain ⟨es, clock, hb, F, hs, hD⟩ := h
  exact ⟨es, clock, e.trans hb, F, hs, hD⟩
theorem setBlock_grown {w : World} {b : Nat} {es : Array MapEntry} {clock : Nat} (o' : Obj) (h : w.heap[b]? = some (.map es clock)) : w.grownBy (setBlock w b o') (some b) :=
  ⟨rfl, rfl, rfl, by simp [setBlock], fun i _ hi => heap_setBlock_other h _ (fun e => hi (by rw [e]))⟩
theorem ownsMap_entry {t e : TypeId} (h : w.ownsMap P k R b n D) (K : Keyed P k) (ht : P.underlying t = some (.map k e)) (hn : n < maxLen) {z : Value} (hz : (zeroValue e).run P w = .ok z w) {zd : DataW H} (hzd : R z = some (zd, []))
    {key : Value} {kl : Lit} (hkey : keyOf P k key = some kl) (hmap : Maps.IsMap D) :
    ∃ v0 st w1 D1, (Instr.mapEntry t (.map (some b)) key).run P w = .ok (.tuple #[v0, goInt st]) w1 ∧ w.grownBy w1 (some b) ∧ w1.ownsMap P k R b (n + 1) D1 ∧ D1.atKey kl zd = D.atKey kl zd ∧
      ∀ (w2 : World) (val : Value) (d : DataW H) (ps : List MemPlace), w2.heap[b]? = w1.heap[b]? → R val = some (d, ps) →
        ∃ w3, (Instr.entryStore t (.map (some b)) (goInt st) val).run P w2 = .ok () w3 ∧ w3.ownsMap P k R b (n + 1) (D.put kl d) ∧ w2.grownBy w3 (some b) := by
  have h0 := h
  obtain ⟨es, clock, hb, F, hs, hD⟩ := h
  obtain ⟨s1, s2, _⟩ := F.stamped
  rcases K.find w hkey es.toList F.keys with ⟨h1, h2⟩ | ⟨j, e0, h1, h2, h3⟩
  · have hw1 := heap_setBlock_same hb (.map (es.push ⟨key, z, clock⟩) (clock + 1))
    have hmu : ∀ val : Value, (Instr.mapUpdate t (.map (some b)) key val).run P w = .ok () (setBlock w b (.map (es.push ⟨key, val, clock⟩) (clock + 1))) := fun val => by
      simp [Instr.mapUpdate, run_underlying ht, MapKept.run_getObj_map hb, K.check w false hkey, h1, MapKept.run_setObj_map _ hb, Result.andThen, setBlock]
    have hov : ∀ (val : Value) (d : DataW H) (ps : List MemPlace), R val = some (d, ps) → (setBlock w b (.map (es.push ⟨key, val, clock⟩) (clock + 1))).ownsMap P k R b (n + 1) (D.put kl d) := fun val d ps hv => by
      obtain ⟨w', hr, ho, _⟩ := h0.update K ht hn hkey hv
      rw [hmu val] at hr
      cases hr
      exact ho
    refine ⟨z, clock, setBlock w b (.map (es.push ⟨key, z, clock⟩) (clock + 1)), D.put kl zd, ?_, setBlock_grown _ hb, hov z zd [] hzd, ?_, fun w2 val d ps hw2 hv => ⟨setBlock w2 b (.map (es.push ⟨key, val, clock⟩) (clock + 1)), ?_, ?_, ?_⟩⟩
    · simp [Instr.mapEntry, run_underlying ht, MapKept.run_getObj_map hb, K.check w false hkey, h1, hz, MapKept.run_setObj_map _ hb, Result.andThen, setBlock]
    · rw [Maps.atKey_put_same hmap (K.key hkey)]
      rcases Maps.fit_look false K ht hz hb F hkey with ⟨_, _, hat⟩ | ⟨e1, y, he1, hk1, _⟩
      · rw [hD]; exact (hat zd).symm
      · exact absurd hk1 (h2 e1 he1)
    · rw [hw1] at hw2
      have hidx : (es.push ⟨key, z, clock⟩).findIdx? (fun e => ((e.born : Nat) : Int) == ((clock : Nat) : Int)) = some es.size := by
        rw [findIdx_arr]
        have := findIdx_born (l := (es.push ⟨key, z, clock⟩).toList) (j := es.size) (e0 := ⟨key, z, clock⟩) (by
          simp only [Array.toList_push, List.map_append, List.map_cons, List.map_nil]
          refine List.nodup_append.2 ⟨s2, by simp, fun a ha c hc e1 => ?_⟩
          simp only [List.mem_singleton] at hc
          obtain ⟨x, hx, rfl⟩ := List.mem_map.1 ha
          have := s1 x hx
          omega) (by simp)
        exact this
      have hmod : (es.push ⟨key, z, clock⟩).modify es.size (fun e => { e with val := val }) = es.push ⟨key, val, clock⟩ := by
        apply Array.ext'
        rw [Array.toList_modify, Array.toList_push, Array.toList_push, ← Array.length_toList, modify_last]
      simp [Instr.entryStore, MapKept.run_getObj_map hw2, asInt, asIntOf, goInt, hidx, hmod, MapKept.run_setObj_map _ hw2, Result.andThen, setBlock]
    · rw [hw1] at hw2
      refine ownsMap_block (hov val d ps hv) ?_
      rw [heap_setBlock_same hw2, heap_setBlock_same hb]
    · rw [hw1] at hw2
      exact setBlock_grown _ hw2
  · have hj : es[j]? = some e0 := by simpa using h2
    have hsame : es.modify j (fun e => { e with key := key }) = es := by
      apply Array.ext'
      rw [Array.toList_modify, modify_eq_set _ _ _ _ h2]
      have : ({ e0 with key := key } : MapEntry) = e0 := by rw [← h3]
      rw [this]
      exact set_self _ _ _ h2
    have hw1 := heap_setBlock_same hb (.map es clock)
    refine ⟨e0.val, e0.born, setBlock w b (.map es clock), D, ?_, setBlock_grown _ hb, ownsMap_block (h0.mono (Nat.le_succ n)) (hw1.trans hb.symm), rfl, fun w2 val d ps hw2 hv => ⟨setBlock w2 b (.map (es.modify j (fun e' => { e' with key := key, val := val })) clock), ?_, ?_, ?_⟩⟩
    · simp [Instr.mapEntry, run_underlying ht, MapKept.run_getObj_map hb, K.check w false hkey, h1, hj, h3, K.stays w hkey, hsame, MapKept.run_setObj_map _ hb, Result.andThen, setBlock]
    · rw [hw1] at hw2
      have hidx : es.findIdx? (fun e => ((e.born : Nat) : Int) == ((e0.born : Nat) : Int)) = some j := by
        rw [findIdx_arr]
        exact findIdx_born s2 h2
      have hmod : es.modify j (fun e => { e with val := val }) = es.modify j (fun e' => { e' with key := key, val := val }) := by
        apply Array.ext'
        rw [Array.toList_modify, Array.toList_modify, modify_eq_set _ _ _ _ h2, modify_eq_set _ _ _ _ h2, ← h3]
      simp [Instr.entryStore, MapKept.run_getObj_map hw2, asInt, asIntOf, goInt, hidx, hmod, MapKept.run_setObj_map _ hw2, Result.andThen, setBlock]
    · rw [hw1] at hw2
      have hmu : (Instr.mapUpdate t (.map (some b)) key val).run P w = .ok () (setBlock w b (.map (es.modify j (fun e' => { e' with key := key, val := val })) clock)) := by
        simp [Instr.mapUpdate, run_underlying ht, MapKept.run_getObj_map hb, K.check w false hkey, h1, hj, h3, K.stays w hkey, MapKept.run_setObj_map _ hb, Result.andThen, setBlock]
      obtain ⟨w', hr, ho, _⟩ := h0.update K ht hn hkey hv
      rw [hmu] at hr
      cases hr
      refine ownsMap_block ho ?_
      rw [heap_setBlock_same hw2, heap_setBlock_same hb]
    · rw [hw1] at hw2
      exact setBlock_grown _ hw2
end
end Go.Proofs.YtkkhjlomicokgaaGreatDoor

/- A map from strings to their places in a list. No program. -/
namespace Go.Proofs.YtkkhjlomicokgaaGreatDoor
open Go.RowKit Go.Maps
/-- The map that has each of ks at its place, from place i on. -/
def idxFrom (D : DataW Unit) : Nat → List (List UInt8) → DataW Unit
  | _, [] => D
  | i, s :: ks => idxFrom (D.put (.string s) (.lit (.int .i64 i))) (i + 1) ks
def idxD (ks : List (List UInt8)) : DataW Unit := idxFrom (.map []) 0 ks
theorem idxFrom_snoc : ∀ (ks : List (List UInt8)) (D : DataW Unit) (i : Nat) (s : List UInt8), idxFrom D i (ks ++ [s]) = (idxFrom D i ks).put (.string s) (.lit (.int .i64 ((i + ks.length : Nat) : Int)))
  | [], D, i, s => by simp [idxFrom]
  | x :: ks, D, i, s => by
    rw [List.cons_append, idxFrom, idxFrom_snoc ks, idxFrom, List.length_cons, show i + 1 + ks.length = i + (ks.length + 1) by omega]
theorem idxD_snoc (ks : List (List UInt8)) (s : List UInt8) : idxD (ks ++ [s]) = (idxD ks).put (.string s) (.lit (.int .i64 (ks.length : Nat))) := by
  unfold idxD; rw [idxFrom_snoc, Nat.zero_add]
theorem isMap_idxD (ks : List (List UInt8)) : IsMap (idxD ks) :=
  snoc_ind (P := fun ks => IsMap (idxD ks)) isMap_empty (fun l x ih => by rw [idxD_snoc]; exact ih.put _ _) ks
theorem idxD_has (ks : List (List UInt8)) (s : List UInt8) : Maps.has (idxD ks) (.string s) = ks.contains s := by
  refine snoc_ind (P := fun ks => Maps.has (idxD ks) (.string s) = ks.contains s) rfl (fun l x ih => ?_) ks
  rw [idxD_snoc]
  by_cases h : s = x
  · subst h
    rw [has_put_same (isMap_idxD l) (show WideAt.IsKeyLit (Lit.string s) from trivial)]
    simp
  · rw [has_put_other (by intro e; injection e with e; exact h e), ih]
    simp [h]
theorem idxD_at (ks : List (List UInt8)) (s : List UInt8) (z : DataW Unit) (hn : ks.Nodup) : ∀ i, ks[i]? = some s → (idxD ks).atKey (.string s) z = .lit (.int .i64 (i : Nat)) := by
  revert hn
  refine snoc_ind (P := fun ks => ks.Nodup → ∀ i, ks[i]? = some s → (idxD ks).atKey (.string s) z = .lit (.int .i64 (i : Nat))) (fun _ i h => by simp at h) (fun l x ih hn i hi => ?_) ks
  rw [idxD_snoc]
  rw [List.nodup_append] at hn
  by_cases h : s = x
  · subst h
    rw [atKey_put_same (isMap_idxD l) (show WideAt.IsKeyLit (Lit.string s) from trivial)]
    by_cases hl : i < l.length
    · rw [List.getElem?_append_left hl] at hi
      exact absurd rfl (hn.2.2 s (List.mem_of_getElem? hi) s (by simp))
    · by_cases hl2 : i = l.length
      · subst hl2; rfl
      · rw [List.getElem?_eq_none (by simp; omega)] at hi; cases hi
  · rw [atKey_put_other (by intro e; injection e with e; exact h e)]
    refine ih hn.1 i ?_
    by_cases hl : i < l.length
    · rwa [List.getElem?_append_left hl] at hi
    · by_cases hl2 : i = l.length
      · subst hl2; simp at hi; exact absurd hi.symm h
      · rw [List.getElem?_eq_none (by simp; omega)] at hi; cases hi
end Go.Proofs.YtkkhjlomicokgaaGreatDoor

/- What a call keeps: all blocks outside its own. No program. -/
namespace Go.Proofs.YtkkhjlomicokgaaGreatDoor
open Go.RowKit
set_option linter.unusedVariables false
structure ButAt (c : Nat) (w w' : World) : Prop where
  be : Below c w w'
  keep : ∀ k o, w.heap[k]? = some o → k ≠ c → w'.heap[k]? = some o
theorem ButAt.refl (c : Nat) (w : World) : ButAt c w w := ⟨Below.refl _ _, fun _ _ h _ => h⟩
theorem ButAt.trans {c : Nat} {w w1 w2 : World} (h : ButAt c w w1) (h' : ButAt c w1 w2) : ButAt c w w2 := ⟨h.be.trans h'.be, fun k o e ne => h'.keep k o (h.keep k o e ne) ne⟩
theorem ButAt.of_below {c : Nat} {w w' : World} (h : Below w.heap.size w w') (hc : c ≤ w.heap.size) : ButAt c w w' := ⟨h.mono hc, fun k o e _ => block_below e h⟩
theorem ButAt.set {c : Nat} (w : World) (i : Nat) (u : Value) : ButAt c w (w.setCell ⟨c, i, none⟩ u) := ⟨(Below.refl _ _).setCell (p := ⟨c, i, none⟩) (Nat.le_refl _) _, fun k o e ne => block_set_other e _ _ ne⟩
theorem ButAt.set2 {c : Nat} (w : World) (i j : Nat) (u v : Value) : ButAt c w ((w.setCell ⟨c, i, none⟩ u).setCell ⟨c, j, none⟩ v) := (ButAt.set w i u).trans (ButAt.set _ j v)
structure Keep (B : Nat) (P : Nat → Prop) (w w' : World) : Prop where
  be : Below B w w'
  keep : ∀ k o, w.heap[k]? = some o → ¬ P k → w'.heap[k]? = some o
theorem Keep.refl (B : Nat) (P : Nat → Prop) (w : World) : Keep B P w w := ⟨Below.refl _ _, fun _ _ h _ => h⟩
theorem Keep.trans {B : Nat} {P : Nat → Prop} {w w1 w2 : World} (h : Keep B P w w1) (h' : Keep B P w1 w2) : Keep B P w w2 := ⟨h.be.trans h'.be, fun k o e ne => h'.keep k o (h.keep k o e ne) ne⟩
theorem Keep.mono {B B' : Nat} {P P' : Nat → Prop} {w w' : World} (h : Keep B P w w') (hB : B' ≤ B) (hP : ∀ k, P k → P' k) : Keep B' P' w w' := ⟨h.be.mono hB, fun k o e ne => h.keep k o e (fun hp => ne (hP k hp))⟩
theorem Keep.of_but {B c : Nat} {P : Nat → Prop} {w w' : World} (h : ButAt c w w') (hB : B ≤ c) (hP : P c) : Keep B P w w' := ⟨h.be.mono hB, fun k o e ne => h.keep k o e (fun hk => ne (hk ▸ hP))⟩
theorem Keep.of_below {B : Nat} {P : Nat → Prop} {w w' : World} (h : Below w.heap.size w w') (hB : B ≤ w.heap.size) : Keep B P w w' := ⟨h.mono hB, fun k o e _ => block_below e h⟩
theorem Keep.set {B c : Nat} {P : Nat → Prop} (w : World) (i : Nat) (u : Value) (hB : B ≤ c) (hP : P c) : Keep B P w (w.setCell ⟨c, i, none⟩ u) := Keep.of_but (ButAt.set w i u) hB hP
theorem Keep.grown {B : Nat} {P : Nat → Prop} {w w2 : World} {o : Obj} {r : Option Nat} (hg : (w.alloc o).grownBy w2 r) (hB : B ≤ w.heap.size) (hr : ∀ k, r = some k → B ≤ k ∧ P k) : Keep B P w w2 :=
  ⟨((Below.refl _ _).alloc hB o).grown hg (by simp; omega) (fun k hk => (hr k hk).1), fun k ob e ne => by
    have h1 := block_below e ((Below.refl _ _).alloc (Nat.le_refl _) o)
    exact (hg.block k (lt_of_block h1) (fun e => ne (hr k e.symm).2)).trans h1⟩
theorem Keep.own {B : Nat} {P : Nat → Prop} {w w' : World} {base sz n : Nat} {e : TypeId} {v : Value} {xs : List Value} (h : Keep B P w w') (ho : w.ownsRow base e sz v n xs) (hv : ∀ k, v.ownBlock = some k → ¬ P k) : w'.ownsRow base e sz v n xs := by
  refine ⟨ho.1, ?_⟩
  rcases ho.2 with h1 | ⟨g, cap, cur, q1, q2, q3, q4⟩
  · exact .inl h1
  · exact .inr ⟨g, cap, cur, q1, q2, h.keep g _ q3 (hv g (by rw [q1]; rfl)), q4⟩
theorem str_ne {s t : ByteArray} (h : s ≠ t) : (s.toList == t.toList) = false ∧ ¬ s.toList = t.toList := by
  have h1 : ¬ s.toList = t.toList := by
    rw [ByteArray.toList_eq, ByteArray.toList_eq]
    intro e
    apply h
    obtain ⟨⟨l⟩⟩ := s
    obtain ⟨⟨m⟩⟩ := t
    simp at e
    rw [e]
  exact ⟨by simpa using h1, h1⟩
end Go.Proofs.YtkkhjlomicokgaaGreatDoor

/- Numbers in digits. No program. -/
namespace Go.Proofs.YtkkhjlomicokgaaGreatDoor
/-- A digit of a base up to 16. -/
def hexc (u : Nat) : UInt8 := if u < 10 then UInt8.ofNat (48 + u) else UInt8.ofNat (87 + u)
/-- The digits of a number, the first ahead. -/
def digs (b u : Nat) : List UInt8 := if _h : u < b ∨ b < 2 then [hexc u] else digs b (u / b) ++ [hexc (u % b)]
termination_by u
decreasing_by exact Nat.div_lt_self (by omega) (by omega)
theorem digs_small {b u : Nat} (h : u < b) : digs b u = [hexc u] := by rw [digs, dif_pos (.inl h)]
theorem digs_big {b u : Nat} (h : b ≤ u) (h2 : 2 ≤ b) : digs b u = digs b (u / b) ++ [hexc (u % b)] := by rw [digs, dif_neg (by omega)]
theorem digs_dec (u : Nat) : Lib.decDigits u = digs 10 u := by
  induction u using Nat.strongRecOn with
  | ind u ih =>
    rw [Lib.decDigits]
    by_cases h : u < 10
    · rw [dif_pos h, digs_small h, hexc, if_pos h]
    · rw [dif_neg h, digs_big (by omega) (by decide), ih (u / 10) (by omega), hexc, if_pos (by omega)]
theorem digs_len (b : Nat) (hb : 2 ≤ b) : ∀ (k u : Nat), u < b ^ k → 1 ≤ k → (digs b u).length ≤ k
  | 0, u, _, h => by omega
  | k + 1, u, h, _ => by
    by_cases hu : u < b
    · rw [digs_small hu]; simp
    · rw [digs_big (by omega) hb, List.length_append, List.length_singleton]
      cases k with
      | zero => simp at h; omega
      | succ k =>
        have h2 : u / b < b ^ (k + 1) := by rw [Nat.div_lt_iff_lt_mul (by omega)]; rw [Nat.pow_succ] at h; exact h
        have := digs_len b hb (k + 1) (u / b) h2 (by omega)
        omega
/-- A number that is not negative, in digits. -/
def toldL (n : Int) : List UInt8 := digs 10 n.toNat
theorem itoa_told {n : Int} (h : 0 ≤ n) : Lib.itoa n = toldL n := by rw [Lib.itoa, if_neg (by omega), digs_dec]; rfl
/-- Any number, in digits. -/
def toldZ (n : Int) : List UInt8 := if 0 ≤ n then digs 10 n.toNat else 45 :: digs 10 (-n).toNat
theorem itoa_toldZ (n : Int) : Lib.itoa n = toldZ n := by
  unfold toldZ Lib.itoa
  by_cases h : 0 ≤ n
  · rw [if_pos h, if_neg (by omega), digs_dec]
  · rw [if_neg h, if_pos (by omega), digs_dec, show n.natAbs = (-n).toNat by omega]
end Go.Proofs.YtkkhjlomicokgaaGreatDoor

/- A region that draws its order, in a round of a loop over an iterator: by the laws of the plain walk. No program. -/
namespace Go.Proofs.YtkkhjlomicokgaaGreatDoor
def notDefer (o : Oper) : Bool := match o.op with | .defer _ => false | _ => true
theorem notDefer_spec {o : Oper} (h : notDefer o = true) : ∀ c, o.op ≠ .defer c := fun c e => by
  unfold notDefer at h
  rw [e] at h
  cases h
section
variable {P : Program} {Q : Exit → Act → World → Prop} {lp n : Nat}
theorem rowsIn_round {row : String} {args : Array Value} {w : World} {R : Value → World → Prop} (h : Rows P row args w R) : RowsIn (Fence.wide.inRound lp) n P row args w R := fun c cs _ => by
  obtain ⟨v, w', r, s⟩ := h c cs
  exact ⟨v, w', r, stepsIn_wide.2 s⟩
theorem opIn_round {o : Oper} {a : Act} {w : World} {K : Act → World → Prop} (hd : notDefer o = true) (h : o.wp P a w K Q) : o.wpIn (Fence.wide.inRound lp) n P a w K Q := by
  refine ⟨fun _ _ => trivial, ?_⟩
  rw [Oper.semAt_eq _ _ _ (notDefer_spec hd)]
  unfold Oper.wp at h
  generalize (execOp a.eval o).run P w = r at *
  cases r with
  | ok x w' =>
    cases x <;> simp only [Oper.upon, Oper.uponIn] at h ⊢ <;>
      first
        | exact h
        | exact ⟨fun hh => (by cases hh), CallsIn.inRound lp (callsIn_wide.2 h)⟩
        | exact ⟨fun hh => (by cases hh), rowsIn_round h⟩
  | halt x w' => cases x <;> simp only [Oper.upon, Oper.uponIn] at h ⊢ <;> exact h
theorem wpOpIn_round {ops : Array Oper} {i : Nat} {a : Act} {w : World} {K : Act → World → Prop} (hq : ¬ LetsOut Q) (hd : ops.toList.all notDefer = true) (h : wpOp P ops Q i K a w) : wpOpIn (Fence.wide.inRound lp) n P ops Q i K a w := by
  unfold wpOpIn
  unfold Go.wpOp at h
  cases ho : ops[i]? with
  | none => simp only [ho] at h ⊢; exact h
  | some o =>
    simp only [ho] at h ⊢
    have hm : o ∈ ops.toList := by rw [Array.mem_toList_iff]; exact Array.mem_of_getElem? ho
    split
    · rename_i hw
      simp only [hw, if_true] at h
      exact opIn_round (List.all_eq_true.1 hd o hm) (h.resolve_right fun e => hq e.2)
    · rename_i hw
      simp only [hw] at h
      exact ⟨fun _ _ => trivial, h⟩
theorem wpAnyIn_round {md : Region.Mode} {ops : Array Oper} (hq : ¬ LetsOut Q) (hd : ops.toList.all notDefer = true) : ∀ (fuel : Nat) (listed : Array Bool) (a : Act) (w : World), wpAny P md ops Q fuel listed a w → wpAnyIn (Fence.wide.inRound lp) n P md ops Q fuel listed a w
  | 0, _, _, _, h => h
  | fuel + 1, _, _, _, h => ⟨h.1, fun i hi => wpOpIn_mono (fun a' w' h' => wpAnyIn_round hq hd fuel _ a' w' h') (wpOpIn_round hq hd (h.2 i hi))⟩
theorem wpIn_region_chain {l : List Oper} {id N : Nat} {a : Act} {w : World} (S : World → Prop) (k : Nat) (hm : P.follows .mixedOrders = true) (hq : ¬ LetsOut Q) (hd : l.all notDefer = true) (hN : l.length = N)
    (h : Shut .any l.toArray (Array.replicate l.toArray.size false) → wpAnyC P .any l.toArray Q S k N (Array.replicate l.toArray.size false) a w.drew) : (Code.region id l.toArray true).wpIn (Fence.wide.inRound lp) n P Q a w := by
  refine wpIn_region_any hm (wpAnyIn_round hq (by simpa using hd) _ _ _ _ (wpAny_of_C (S := S) (k := k) _ _ _ _ ?_))
  have e : l.toArray.size = N := by simpa using hN
  have := h (fun j o _ hl => by rw [getD_replicate_false] at hl; cases hl)
  rw [← e] at this
  exact this
end
end Go.Proofs.YtkkhjlomicokgaaGreatDoor
