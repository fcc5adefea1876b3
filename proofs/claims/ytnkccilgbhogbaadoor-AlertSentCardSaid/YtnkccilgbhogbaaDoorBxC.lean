/- Posts copied: slices.Clone of notices, copy, the tests. -/
import Derived.Test.YtnkccilgbhogbaaDoorBxW
import Derived.Lib.SliceRun
import Derived.Maps.AppendAt
namespace Go.Proofs.YtnkccilgbhogbaaDoor
open Go.RowKit Go.Maps
set_option linter.unusedVariables false
set_option linter.unusedSimpArgs false
theorem info_parts9 {i : Option TypeInfo} {z : Option Value} {s b : Nat} (h : i.map (fun i => (i.zero, i.size, i.bytes)) = some (z, s, b)) : ∃ i0, i = some i0 ∧ i0.zero = z ∧ i0.size = s ∧ i0.bytes = b := by
  cases i with
  | none => cases h
  | some i0 =>
    simp at h
    exact ⟨i0, rfl, h⟩
theorem info_nt : (Tryd.prog.info? 51).map (fun i => (i.zero, i.size, i.bytes)) = some (some (.agg #[.int .i64 0, .string ByteArray.empty, .int .i64 0, .int .i64 0]), 4, 40) := by kernel_rfl
theorem info_pst : (Tryd.prog.info? 41).map (fun i => (i.zero, i.size, i.bytes)) = some (some (.agg #[.int .i64 0, .slice none 0 0, .int .i64 0, .int .i64 0]), 4, 48) := by kernel_rfl
theorem nt_news {w : World} {B n : Nat} {ad : Addr} {l : List Nt} (h : Sl w B Nt.cs 4 (some ad) n l) : ∀ j u, (l.flatMap Nt.cs)[j]? = some u → w.cell? (ad.add j) = some u := by
  rcases Nat.eq_zero_or_pos n with h0 | h0
  · have : l = [] := List.eq_nil_of_length_eq_zero (by rw [h.len]; exact h0)
    subst this
    intro j u hu
    simp at hu
  · obtain ⟨b, o, e, _⟩ := h.cells h0
    obtain rfl := Option.some.inj e
    exact Sl.news (fun _ => rfl) h
theorem nt_one (l : List Nt) : ∀ u ∈ l.flatMap Nt.cs, u.oneCell' = true := by
  intro u hu
  obtain ⟨x, _, hx⟩ := List.mem_flatMap.1 hu
  simp [Nt.cs] at hx
  rcases hx with rfl | rfl | rfl | rfl <;> rfl
theorem own_base9 {b b' sz n : Nat} {e : TypeId} {v : Value} {xs : List Value} {w : World} (h : w.ownsRow b e sz v n xs) (hb : b' ≤ b) : w.ownsRow b' e sz v n xs := by
  refine ⟨h.1, ?_⟩
  rcases h.2 with h0 | ⟨g, cap, cur, h1, h2, h3⟩
  · exact .inl h0
  · exact .inr ⟨g, cap, cur, h1, Nat.le_trans hb h2, h3⟩
set_option maxRecDepth 100000 in
set_option maxHeartbeats 1000000 in
theorem CloneNt_any (A : Option Addr) (n c : Nat) (l : List Nt) (w : World) (hn : n ≤ 1000000) (hl : Sl w w.heap.size Nt.cs 4 A n l) :
    Calls Tryd.prog 30 #[.slice A n c] w fun e w' => ∃ v, e = .returned v ∧ w'.ownsRow w.heap.size 51 4 v n (l.flatMap Nt.cs) ∧ Below w.heap.size w w' := by
  have HL := hide hl.len
  have q : ∀ (w : World) (a : Option Addr) (n c n' c' : Nat), (binOp .eql 32 (.slice a n c) (.slice none n' c')).run Tryd.prog w = .ok (.bool a.isNone) w := fun w a n c n' c' => Lib.run_eql_slice_nil w _ _ a n c n' c' Tryd.underlying32
  obtain ⟨i0, hi0, iz0, iz1, iz2⟩ := info_parts9 info_nt
  cases A with
  | none =>
    have h0 : n = 0 := by
      rcases Nat.eq_zero_or_pos n with h0 | h0
      · exact h0
      · obtain ⟨b, o, e, _⟩ := hl.cells h0; cases e
    subst h0
    obtain rfl : l = [] := List.eq_nil_of_length_eq_zero HL.out
    go_enter Tryd.func30, Tryd.ntmps30
    go_wp2_with (fail)
    go_ret
    exact ⟨_, rfl, World.ownsRow_nil _ _ _ _, Below.refl _ _⟩
  | some ad =>
    have hnew := hide (nt_news (Sl.up hl ((Below.refl _ _).alloc (Nat.le_refl _) (.cells #[] 51))))
    have hB : Below w.heap.size w (w.alloc (.cells #[] 51)) := (Below.refl _ _).alloc (Nat.le_refl _) _
    have HB := hide hB
    clear hB
    go_enter Tryd.func30, Tryd.ntmps30
    go_wp2_with (at_builtin; refine wpList_append_own _ rfl (.tmp 5) (.tmp 6) 32 rfl w.heap.size 51 i0 (.agg #[.int .i64 0, .string ByteArray.empty, .int .i64 0, .int .i64 0]) 4 40 Tryd.underlying32 hi0 iz0 iz1 iz2 rfl (by decide) _ 0 _ (by rfl) (World.ownsRow_lit w #[] 0 (Nat.le_refl _) (Nat.zero_le _) rfl) ad n _ (l.flatMap Nt.cs) (by rfl) (by rw [flatMap_len (sz := 4) (fun _ => rfl), HL.out]) hnew.out (nt_one _) (by unfold maxLen; omega) (by omega) HB.out.size ?_; intro v' w5 hown5 hg5 _; have hB5 : Below w.heap.size w w5 := Below.grown HB.out hg5 HB.out.size (fun j hj => by simp [Value.ownBlock] at hj; omega); clear hg5)
    go_ret
    have hown6 : w5.ownsRow w.heap.size 51 4 v' n (l.flatMap Nt.cs) := by simpa using hown5
    exact ⟨v', rfl, hown6, hB5⟩
set_option maxRecDepth 100000 in
set_option maxHeartbeats 2000000 in
theorem copy_any {w : World} {b o n c : Nat} {A : Option Addr} {l : List Nt} {no tr nx : Int} (hn : n ≤ 1000000) (hl : Sl w w.heap.size Nt.cs 4 A n l) (hb : b < w.heap.size)
    (c0 : w.cell? ⟨b, o, none⟩ = some (.int .i64 no)) (c1 : w.cell? ⟨b, o + 1, none⟩ = some (.slice A n c)) (c2 : w.cell? ⟨b, o + 2, none⟩ = some (.int .i64 tr)) (c3 : w.cell? ⟨b, o + 3, none⟩ = some (.int .i64 nx)) :
    Calls Tryd.prog 40 #[.pointer (some ⟨b, o, none⟩)] w fun e w' => ∃ v, e = .returned (.agg #[.int .i64 no, v, .int .i64 tr, .int .i64 nx]) ∧ w'.ownsRow w.heap.size 51 4 v n (l.flatMap Nt.cs) ∧ Below w.heap.size w w' := by
  obtain ⟨w1, hw1⟩ : ∃ w1, w.alloc (.cells #[.int .i64 0, .slice none 0 0, .int .i64 0, .int .i64 0] 41) = w1 := ⟨_, rfl⟩
  have hb1 : Below w.heap.size w w1 := hw1 ▸ (Below.refl _ _).alloc (Nat.le_refl _) _
  have hm1 : w1.heap[w.heap.size]? = some (.cells #[.int .i64 0, .slice none 0 0, .int .i64 0, .int .i64 0] 41 (0, 0)) := hw1 ▸ heap_alloc_new w _
  have hs1 : w1.heap.size = w.heap.size + 1 := by rw [← hw1]; simp
  obtain ⟨k, hk⟩ : ∃ k, w.heap.size + 1 = k := ⟨_, rfl⟩
  obtain ⟨w2, hw2⟩ : ∃ w2, w1.alloc (.cells #[.int .i64 no, .slice A n c, .int .i64 tr, .int .i64 nx] 41) = w2 := ⟨_, rfl⟩
  have hb2 : Below w1.heap.size w1 w2 := hw2 ▸ (Below.refl _ _).alloc (Nat.le_refl _) _
  have hm2 : w2.heap[k]? = some (.cells #[.int .i64 no, .slice A n c, .int .i64 tr, .int .i64 nx] 41 (0, 0)) := by rw [← hk, ← hs1, ← hw2]; exact heap_alloc_new w1 _
  have hbb2 : Below w.heap.size w w2 := hb1.trans (hb2.mono (by omega))
  have hm1b := block_below hm1 hb2
  have hz2 := hbb2.size
  have d1 : w2.cell? ⟨b, o + 1, none⟩ = some (.slice A n c) := (hbb2.cell (p := ⟨b, o + 1, none⟩) hb).trans c1
  have CC := hide (CloneNt_any A n c l w2 hn (Sl.up hl hbb2))
  have HB2 := hide hbb2
  have HM2 := hide hm2
  have HM1 := hide hm1b
  have HW1 := hide hw1
  have HW2 := hide hw2
  have HS1 := hide hs1
  have HK := hide hk
  have hkn : w.heap.size ≠ k := by omega
  have hkl : w.heap.size ≤ k := by omega
  clear hb1 hm1 hs1 hw1 hw2 hb2 hm2 hbb2 hm1b hl hk
  go_enter Tryd.func40, Tryd.ntmps40
  go_wp2_with (fail)
  rw [HK.out, HW1.out, HW2.out]
  refine CC.out.mono ?_
  rintro e w3 ⟨v, rfl, hown, hb3⟩
  obtain ⟨A', c', rfl⟩ := own_sl hown
  have hbl3 := HB2.out.trans (hb3.mono hz2)
  have hm3 := block_below HM2.out hb3
  have hm1 := block_below HM1.out hb3
  have e1 : w3.cell? ⟨k, 1, none⟩ = some (.slice A n c) := (block_cell hm3 1).trans rfl
  have f1 : w3.frozen? ⟨k, 1, none⟩ = false := block_free hm3 1
  have hm4 : (w3.setCell ⟨k, 1, none⟩ (.slice A' n c')).heap[k]? = some (.cells #[.int .i64 no, .slice A' n c', .int .i64 tr, .int .i64 nx] 41 (0, 0)) := block_set hm3 _
  have hr4 : (w3.setCell ⟨k, 1, none⟩ (.slice A' n c')).heap[w.heap.size]? = some (.cells #[.int .i64 0, .slice none 0 0, .int .i64 0, .int .i64 0] 41 (0, 0)) := block_set_other hm1 ⟨k, 1, none⟩ _ hkn
  have k0 : (w3.setCell ⟨k, 1, none⟩ (.slice A' n c')).cell? ⟨k, 0, none⟩ = some (.int .i64 no) := (block_cell hm4 0).trans rfl
  have k1 : (w3.setCell ⟨k, 1, none⟩ (.slice A' n c')).cell? ⟨k, 1, none⟩ = some (.slice A' n c') := (block_cell hm4 1).trans rfl
  have k2 : (w3.setCell ⟨k, 1, none⟩ (.slice A' n c')).cell? ⟨k, 2, none⟩ = some (.int .i64 tr) := (block_cell hm4 2).trans rfl
  have k3 : (w3.setCell ⟨k, 1, none⟩ (.slice A' n c')).cell? ⟨k, 3, none⟩ = some (.int .i64 nx) := (block_cell hm4 3).trans rfl
  have g0 : (w3.setCell ⟨k, 1, none⟩ (.slice A' n c')).cell? ⟨w.heap.size, 0, none⟩ = some (.int .i64 0) := (block_cell hr4 0).trans rfl
  have y0 : (w3.setCell ⟨k, 1, none⟩ (.slice A' n c')).frozen? ⟨w.heap.size, 0, none⟩ = false := block_free hr4 0
  have g1 : (w3.setCell ⟨k, 1, none⟩ (.slice A' n c')).cell? ⟨w.heap.size, 1, none⟩ = some (.slice none 0 0) := (block_cell hr4 1).trans rfl
  have y1 : (w3.setCell ⟨k, 1, none⟩ (.slice A' n c')).frozen? ⟨w.heap.size, 1, none⟩ = false := block_free hr4 1
  have g2 : (w3.setCell ⟨k, 1, none⟩ (.slice A' n c')).cell? ⟨w.heap.size, 2, none⟩ = some (.int .i64 0) := (block_cell hr4 2).trans rfl
  have y2 : (w3.setCell ⟨k, 1, none⟩ (.slice A' n c')).frozen? ⟨w.heap.size, 2, none⟩ = false := block_free hr4 2
  have g3 : (w3.setCell ⟨k, 1, none⟩ (.slice A' n c')).cell? ⟨w.heap.size, 3, none⟩ = some (.int .i64 0) := (block_cell hr4 3).trans rfl
  have y3 : (w3.setCell ⟨k, 1, none⟩ (.slice A' n c')).frozen? ⟨w.heap.size, 3, none⟩ = false := block_free hr4 3
  have HB4 := hide (show Below w.heap.size w (w3.setCell ⟨k, 1, none⟩ (.slice A' n c')) from below_set hbl3 hkl _)
  have HO4 := hide (show (w3.setCell ⟨k, 1, none⟩ (.slice A' n c')).ownsRow w.heap.size 51 4 (.slice A' n c') n (l.flatMap Nt.cs) from ownsRow_setCell_other (own_base9 hown hz2) (a := ⟨k, 1, none⟩) (own_other' hown hm3 (by decide)) _)
  have HR4 := hide hr4
  clear hbl3 hm3 hm1 hm4 hr4 hown hb3 CC
  go_wp2_with (fail)
  have hR := block_set (i := 3) (block_set (i := 2) (block_set (i := 1) (block_set (i := 0) HR4.out (.int .i64 no)) (.slice A' n c')) (.int .i64 tr)) (.int .i64 nx)
  have z0 : (((((w3.setCell ⟨k, 1, none⟩ (.slice A' n c')).setCell ⟨w.heap.size, 0, none⟩ (.int .i64 no)).setCell ⟨w.heap.size, 1, none⟩ (.slice A' n c')).setCell ⟨w.heap.size, 2, none⟩ (.int .i64 tr)).setCell ⟨w.heap.size, 3, none⟩ (.int .i64 nx)).cell? ⟨w.heap.size, 0, none⟩ = some (.int .i64 no) := (block_cell hR 0).trans rfl
  have z1 : (((((w3.setCell ⟨k, 1, none⟩ (.slice A' n c')).setCell ⟨w.heap.size, 0, none⟩ (.int .i64 no)).setCell ⟨w.heap.size, 1, none⟩ (.slice A' n c')).setCell ⟨w.heap.size, 2, none⟩ (.int .i64 tr)).setCell ⟨w.heap.size, 3, none⟩ (.int .i64 nx)).cell? ⟨w.heap.size, 1, none⟩ = some (.slice A' n c') := (block_cell hR 1).trans rfl
  have z2 : (((((w3.setCell ⟨k, 1, none⟩ (.slice A' n c')).setCell ⟨w.heap.size, 0, none⟩ (.int .i64 no)).setCell ⟨w.heap.size, 1, none⟩ (.slice A' n c')).setCell ⟨w.heap.size, 2, none⟩ (.int .i64 tr)).setCell ⟨w.heap.size, 3, none⟩ (.int .i64 nx)).cell? ⟨w.heap.size, 2, none⟩ = some (.int .i64 tr) := (block_cell hR 2).trans rfl
  have z3 : (((((w3.setCell ⟨k, 1, none⟩ (.slice A' n c')).setCell ⟨w.heap.size, 0, none⟩ (.int .i64 no)).setCell ⟨w.heap.size, 1, none⟩ (.slice A' n c')).setCell ⟨w.heap.size, 2, none⟩ (.int .i64 tr)).setCell ⟨w.heap.size, 3, none⟩ (.int .i64 nx)).cell? ⟨w.heap.size, 3, none⟩ = some (.int .i64 nx) := (block_cell hR 3).trans rfl
  have HF := hide (show (((((w3.setCell ⟨k, 1, none⟩ (.slice A' n c')).setCell ⟨w.heap.size, 0, none⟩ (.int .i64 no)).setCell ⟨w.heap.size, 1, none⟩ (.slice A' n c')).setCell ⟨w.heap.size, 2, none⟩ (.int .i64 tr)).setCell ⟨w.heap.size, 3, none⟩ (.int .i64 nx)).ownsRow w.heap.size 51 4 (.slice A' n c') n (l.flatMap Nt.cs) from
    ownsRow_setCell_other (ownsRow_setCell_other (ownsRow_setCell_other (ownsRow_setCell_other HO4.out (a := ⟨w.heap.size, 0, none⟩) (own_other' HO4.out HR4.out (by decide)) _) (a := ⟨w.heap.size, 1, none⟩) (own_other' HO4.out HR4.out (by decide)) _) (a := ⟨w.heap.size, 2, none⟩) (own_other' HO4.out HR4.out (by decide)) _) (a := ⟨w.heap.size, 3, none⟩) (own_other' HO4.out HR4.out (by decide)) _)
  have HBF := hide (show Below w.heap.size w (((((w3.setCell ⟨k, 1, none⟩ (.slice A' n c')).setCell ⟨w.heap.size, 0, none⟩ (.int .i64 no)).setCell ⟨w.heap.size, 1, none⟩ (.slice A' n c')).setCell ⟨w.heap.size, 2, none⟩ (.int .i64 tr)).setCell ⟨w.heap.size, 3, none⟩ (.int .i64 nx)) from below_set (below_set (below_set (below_set HB4.out (Nat.le_refl _) _) (Nat.le_refl _) _) (Nat.le_refl _) _) (Nat.le_refl _) _)
  obtain ⟨wf, hwf⟩ : ∃ wf, (((((w3.setCell ⟨k, 1, none⟩ (.slice A' n c')).setCell ⟨w.heap.size, 0, none⟩ (.int .i64 no)).setCell ⟨w.heap.size, 1, none⟩ (.slice A' n c')).setCell ⟨w.heap.size, 2, none⟩ (.int .i64 tr)).setCell ⟨w.heap.size, 3, none⟩ (.int .i64 nx)) = wf := ⟨_, rfl⟩
  rw [hwf] at z0 z1 z2 z3 HF HBF ⊢
  clear hwf hR
  refine bodyPost_ret (by simp [results, Tryd.results40, go_sem, z0, z1, z2, z3]; try rfl) rfl ?_
  exact ⟨.slice A' n c', rfl, HF.out, HBF.out⟩
def dueT (g t : Int) (no nx : Int) : Bool := decide (no ≠ g) && decide (nx ≤ t)
theorem openT_any (v : Value) (w : World) : Calls Tryd.prog 39 #[v] w fun e w' => e = .returned (.bool true) ∧ w = w' := by
  go_enter Tryd.func39, Tryd.ntmps39
  go_wp2_with (fail)
  go_ret
  exact ⟨rfl, rfl⟩
set_option maxRecDepth 100000 in
set_option maxHeartbeats 2000000 in
theorem dueT_any {w : World} {b k1 k2 p : Nat} {no nx g t : Int} (c0 : w.cell? ⟨b, 0, none⟩ = some (.int .i64 no)) (c3 : w.cell? ⟨b, 3, none⟩ = some (.int .i64 nx)) (x5 : w.cell? ⟨p, 5, none⟩ = some (.int .i64 g))
    (a1 : w.cell? ⟨k1, 0, none⟩ = some (.pointer (some ⟨p, 0, none⟩))) (a2 : w.cell? ⟨k2, 0, none⟩ = some (.int .i64 t)) :
    Calls Tryd.prog 34 #[.pointer (some ⟨b, 0, none⟩), .pointer (some ⟨k1, 0, none⟩), .pointer (some ⟨k2, 0, none⟩)] w fun e w' => e = .returned (.bool (dueT g t no nx)) ∧ Below w.heap.size w w' := by
  by_cases h1 : no = g
  · have E := hide (show dueT g t no nx = false by unfold dueT; simp [h1])
    have e1 : (no == g) = true := by simp [h1]
    have e2 : (no != g) = false := by simp [h1]
    have HH := hide h1
    clear h1
    go_enter Tryd.func34, Tryd.ntmps34
    go_wp2_with (first | go_quiet (fail))
    go_ret
    exact ⟨by rw [E.out]; rfl, below_drewN (Below.refl _ _) _⟩
  · have e1 : (no == g) = false := by simpa using h1
    have e2 : (no != g) = true := by simpa using h1
    by_cases h2 : nx ≤ t
    · have E := hide (show dueT g t no nx = true by unfold dueT; simp [h1, h2])
      go_enter Tryd.func34, Tryd.ntmps34
      go_wp2_with (first | go_quiet (fail))
      go_ret
      exact ⟨by rw [E.out]; rfl, below_drewN (Below.refl _ _) _⟩
    · have E := hide (show dueT g t no nx = false by unfold dueT; simp [h2])
      have h2' : decide (nx ≤ t) = false := by simpa using h2
      go_enter Tryd.func34, Tryd.ntmps34
      go_wp2_with (first | go_quiet (fail))
      go_ret
      exact ⟨by rw [E.out]; rfl, below_drewN (Below.refl _ _) _⟩
end Go.Proofs.YtnkccilgbhogbaaDoor
