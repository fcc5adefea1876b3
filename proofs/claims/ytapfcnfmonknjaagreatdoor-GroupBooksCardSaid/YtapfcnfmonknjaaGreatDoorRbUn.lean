/- The reference's book: Undo, History. -/
import Derived.Test.YtapfcnfmonknjaaGreatDoorRbMe
import Derived.Test.YtapfcnfmonknjaaGreatDoorBkUn
namespace Go.Proofs.YtapfcnfmonknjaaGreatDoor.Bk
open Go.RowKit Go.Maps Go.Sort
set_option linter.unusedVariables false
set_option linter.unusedSimpArgs false
theorem RS.pop {B q : Nat} {given : Int} {lv : Value} {lr : List Pr} {ss : List Stp} {w w' : World} {st : Stp} {g sc : Nat} (h : RS B w q lv given (.slice (some ⟨g, 0, none⟩) (ss.length + 1) sc) lr (ss ++ [st]))
    (hbox : w'.heap[q]? = some (.cells #[lv, .int .i64 given, .slice (some ⟨g, 0, none⟩) ss.length sc] 29 (0, 0))) (hk : ∀ k o, w.heap[k]? = some o → k ≠ q → w'.heap[k]? = some o) :
    RS B w' q lv given (.slice (some ⟨g, 0, none⟩) ss.length sc) lr ss := by
  refine ⟨h.rm.box2 _ _ hbox fun k o hb ne e => hk k o e ne, ?_, fun s hs => own_stayB (h.ps s (List.mem_append_left _ hs)) fun k o e eo => hk k o eo (fun e2 => (h.ps_ne (List.mem_append_left _ hs) e).1 (.inl e2))⟩
  have h1 := h.row
  rw [List.length_append, List.length_singleton, List.flatMap_append, List.flatMap_singleton] at h1
  have hl : (ss.flatMap Stp.cs).length = ss.length * 4 := fm_len (f := Stp.cs) (sz := 4) (fun _ => rfl) ss
  refine ⟨hl, ?_⟩
  rcases h1.2 with ⟨e, _⟩ | ⟨g', cap, cur, e, q1, q2, q3, q4, q5, q6⟩
  · cases e
  · cases e
    refine .inr ⟨g, sc, cur, rfl, q1, hk _ _ q2 (fun e2 => h.row_ne rfl (.inl e2)), by omega, q4, q5, ?_⟩
    have e3 : List.take (ss.length * 4) (List.take ((ss.length + 1) * 4) cur.toList) = List.take (ss.length * 4) cur.toList := by rw [List.take_take]; congr 1; omega
    rw [← e3, q6, ← hl]
    exact List.take_left
theorem RUndo_none {B q : Nat} {given : Int} {lv sv : Value} {lr : List Pr} {w : World} (h : RS B w q lv given sv lr []) :
    Calls Tryz.prog 12 #[.pointer (some ⟨q, 0, none⟩)] w fun e w' => e = .returned (.bool false) ∧ w' = w := by
  obtain ⟨A, c, rfl⟩ := own_sl h.row
  have z2 : w.cell? ⟨q, 2, none⟩ = some (.slice A 0 c) := (block_cell h.rm.box 2).trans rfl
  clear h
  go_enter Tryz.func12, Tryz.ntmps12
  go_wp2_with (fail)
  go_ret
  exact ⟨rfl, rfl⟩
theorem RHistory_any {B q : Nat} {given : Int} {lv sv : Value} {lr : List Pr} {ss : List Stp} {w : World} (h : RS B w q lv given sv lr ss) :
    Calls Tryz.prog 21 #[.pointer (some ⟨q, 0, none⟩)] w fun e w' => e = .returned sv ∧ w' = w := by
  obtain ⟨A, c, rfl⟩ := own_sl h.row
  have z2 : w.cell? ⟨q, 2, none⟩ = some (.slice A ss.length c) := (block_cell h.rm.box 2).trans rfl
  clear h
  go_enter Tryz.func21, Tryz.ntmps21
  go_wp2_with (fail)
  go_ret
  exact ⟨rfl, rfl⟩
set_option maxRecDepth 100000 in
set_option maxHeartbeats 8000000 in
theorem RUndo_ok {B q : Nat} {given : Int} {lv sv : Value} {lr : List Pr} {ss : List Stp} {st : Stp} {w : World} (h : RS B w q lv given sv lr (ss ++ [st])) (hkd : st.kind = 1 ∨ st.kind = 2)
    (hps : st.ps.length ≤ 1000) (hl : lr.length ≤ 1000) (hss : ss.length < 400) (hBz : B ≤ w.heap.size) :
    Calls Tryz.prog 12 #[.pointer (some ⟨q, 0, none⟩)] w fun e w' => e = .returned (.bool true) ∧ ∃ sv', RS B w' q lv given sv' (undL st lr) ss ∧ sv'.ownBlock = sv.ownBlock ∧ Keep B (RSB q lv sv (ss ++ [st])) w w' := by
  have hrow := h.row
  rw [List.length_append, List.length_singleton] at hrow
  obtain ⟨g, sc, cur, rfl, _⟩ := own_blk hrow (by omega)
  have hpr := h.ps st (by simp)
  have hn : st.n = st.ps.length := by
    obtain ⟨_, _, e⟩ := own_sl hpr
    simp only [Stp.sl, Value.slice.injEq] at e
    exact e.2.1
  have z2 : w.cell? ⟨q, 2, none⟩ = some (.slice (some ⟨g, 0, none⟩) (ss.length + 1) sc) := (block_cell h.rm.box 2).trans rfl
  have f2 : w.frozen? ⟨q, 2, none⟩ = false := block_free h.rm.box 2
  have hcl : ∀ (j : Nat) v, st.cs[j]? = some v → w.cell? ⟨g, ss.length * 4 + j, none⟩ = some v := fun j v e => own_cell hrow _ v (flat_at ss st j v e)
  have hpne := (h.ps_ne (s := st) (by simp) (k := q))
  obtain ⟨kd, a, b, A, n, c, ps⟩ := st
  simp only at hkd hps hn
  subst hn
  have e0 : w.cell? ⟨g, ss.length * 4, none⟩ = some (.int .i64 kd) := hcl 0 _ rfl
  have e1 : w.cell? ⟨g, ss.length * 4 + 1, none⟩ = some (.int .i64 a) := hcl 1 _ rfl
  have e2 : w.cell? ⟨g, ss.length * 4 + 2, none⟩ = some (.int .i64 b) := hcl 2 _ rfl
  have e3 : w.cell? ⟨g, ss.length * 4 + 3, none⟩ = some (.slice A ps.length c) := hcl 3 _ rfl
  obtain ⟨wa, hwa⟩ : ∃ wa, w.alloc (.cells #[.int .i64 kd, .int .i64 a, .int .i64 b, .slice A ps.length c] 49) = wa := ⟨_, rfl⟩
  have hba : Below w.heap.size w wa := hwa ▸ (Below.refl _ _).alloc (Nat.le_refl _) _
  have hna : wa.heap[w.heap.size]? = some (.cells #[.int .i64 kd, .int .i64 a, .int .i64 b, .slice A ps.length c] 49 (0, 0)) := hwa ▸ heap_alloc_new w _
  have hSa := h.below hba
  have hqz := lt_of_block h.rm.box
  obtain ⟨w2, hw2⟩ : ∃ w2, wa.setCell ⟨q, 2, none⟩ (.slice (some ⟨g, 0, none⟩) ss.length sc) = w2 := ⟨_, rfl⟩
  have hk2 : ∀ k o, wa.heap[k]? = some o → k ≠ q → w2.heap[k]? = some o := fun k o e ne => hw2 ▸ block_set_other e _ _ ne
  have hS2 : RS B w2 q lv given (.slice (some ⟨g, 0, none⟩) ss.length sc) lr ss := hSa.pop (hw2 ▸ block_set hSa.rm.box _) hk2
  have hz2 : w2.heap.size = wa.heap.size := by rw [← hw2]; simp
  have hza := hba.size
  have hpr2 : w2.ownsRow B 9 1 (.slice A ps.length c) ps.length (ps.map encStr) := own_stayB (own_below hpr hba) fun k o e eo => hk2 k o eo (fun e9 => (h.ps_ne (s := ⟨kd, a, b, A, ps.length, c, ps⟩) (by simp) (k := k) e).1 (.inl e9))
  have hn2 := hk2 _ _ hna (by omega)
  have K2 := hide (show Keep B (RSB q lv (.slice (some ⟨g, 0, none⟩) (ss.length + 1) sc) (ss ++ [⟨kd, a, b, A, ps.length, c, ps⟩])) w w2 from (Keep.of_below hba hBz).trans (hw2 ▸ Keep.set _ 2 _ h.rm.lo (.inl (.inl rfl))))
  have x0 : wa.cell? ⟨q, 2, none⟩ = some (.slice (some ⟨g, 0, none⟩) (ss.length + 1) sc) := (block_cell hSa.rm.box 2).trans rfl
  have g2 : wa.frozen? ⟨q, 2, none⟩ = false := block_free hSa.rm.box 2
  have y0 : w2.cell? ⟨w.heap.size, 0, none⟩ = some (.int .i64 kd) := (block_cell hn2 0).trans rfl
  have y1 : w2.cell? ⟨w.heap.size, 1, none⟩ = some (.int .i64 a) := (block_cell hn2 1).trans rfl
  have y2 : w2.cell? ⟨w.heap.size, 2, none⟩ = some (.int .i64 b) := (block_cell hn2 2).trans rfl
  have y3 : w2.cell? ⟨w.heap.size, 3, none⟩ = some (.slice A ps.length c) := (block_cell hn2 3).trans rfl
  have CM := hide (fun id : Int => RMove_any hS2.rm id A ps.length c ps (rowS hpr2 rfl) (fun _ b o e hp => rrowY hpr2 hS2.rm (k := b) (by rw [e]; rfl) (.inr hp)) (by omega) hl (by omega))
  have HS2 := hide hS2
  have fin : ∀ (id : Int) (w3 : World), id = (if kd = 1 then b else a) → RM B w3 q lv given (.slice (some ⟨g, 0, none⟩) ss.length sc) (mvL ps id lr) → Keep B (fun k => lv.ownBlock = some k) w2 w3 →
      ∃ sv', RS B w3 q lv given sv' (undL ⟨kd, a, b, A, ps.length, c, ps⟩ lr) ss ∧ sv'.ownBlock = (Value.slice (some ⟨g, 0, none⟩) (ss.length + 1) sc).ownBlock ∧ Keep B (RSB q lv (.slice (some ⟨g, 0, none⟩) (ss.length + 1) sc) (ss ++ [⟨kd, a, b, A, ps.length, c, ps⟩])) w w3 := fun id w3 hid hm hk => by
    have h9 := HS2.out.book hm (fun k o e u => hk.keep k o e u) (fun k hp => .inr hp)
    rw [hid] at h9
    exact ⟨_, h9, rfl, K2.out.trans (hk.mono (Nat.le_refl _) (fun k hp => .inl (.inr hp)))⟩
  have FIN := hide fin
  clear fin hcl hrow hpr h hba hna hSa hk2 hS2 hpr2 hn2 hpne
  rcases hkd with rfl | rfl
  · go_enter Tryz.func12, Tryz.ntmps12
    go_wp2_with (go_at_call 34; refine (CM.out b).mono ?_; rintro e w3 ⟨rfl, hm3, hk3⟩; have HM3 := hide hm3; have HK3 := hide hk3; clear hm3 hk3)
    go_ret
    exact ⟨rfl, FIN.out b w3 (by simp) HM3.out HK3.out⟩
  · go_enter Tryz.func12, Tryz.ntmps12
    go_wp2_with (go_at_call 34; refine (CM.out a).mono ?_; rintro e w3 ⟨rfl, hm3, hk3⟩; have HM3 := hide hm3; have HK3 := hide hk3; clear hm3 hk3)
    go_ret
    exact ⟨rfl, FIN.out a w3 (by simp) HM3.out HK3.out⟩
end Go.Proofs.YtapfcnfmonknjaaGreatDoor.Bk
