/- The law AlertChecks. -/
import Derived.Test.YtpjfihdbbgencaaDoorAlLno
import Derived.Test.YtpjfihdbbgencaaDoorAlPln
import Derived.Test.YtpjfihdbbgencaaDoorAlRul
import Derived.Test.YtpjfihdbbgencaaDoorAlErr
import Derived.Test.YtpjfihdbbgencaaDoorAlSil
import Derived.Test.YtpjfihdbbgencaaDoorAlOpn
import Derived.Test.YtpjfihdbbgencaaDoorRows
import Derived.LaidMore
import Derived.Stop.LaidErr
import Derived.MakeChecks
namespace Go.Proofs.YtpjfihdbbgencaaDoor
open Go.RowKit
set_option linter.unusedVariables false
set_option linter.unusedSimpArgs false
set_option linter.unusedSectionVars false
theorem Equal_strs {w : World} {B1 B2 k : Nat} {l : List ByteArray} {v1 v2 : Value} (hk : l.length = k) (hkm : k ≤ 9223372036854775807) (h1 : w.ownsRow B1 9 1 v1 k (l.flatMap cs)) (h2 : w.ownsRow B2 9 1 v2 k (l.flatMap cs)) :
    Calls Tryd.prog 12 #[v1, v2] w fun e w' => e = .returned (.bool true) ∧ Below w.heap.size w w' := by
  obtain ⟨A1, c1, rfl, hs1, _⟩ := sl_of_own (f := cs) (fun _ => rfl) hk h1
  obtain ⟨A2, c2, rfl, hs2, _⟩ := sl_of_own (f := cs) (fun _ => rfl) hk h2
  by_cases h0 : k = 0
  · subst h0
    refine (Tryd.slices_Equal_string_empty A1 A2 c1 0 c2 w (by decide)).mono ?_
    rintro e w' ⟨rfl, rfl⟩
    exact ⟨rfl, Below.refl _ _⟩
  · obtain ⟨b1, o1, rfl, _, _⟩ := hs1.cells (by omega)
    obtain ⟨b2, o2, rfl, _, _⟩ := hs2.cells (by omega)
    refine (Tryd.slices_Equal_string b1 o1 k c1 b2 o2 k c2 l l w (by omega) (by omega) hkm hkm (sl_strs hs1) (sl_strs hs2)).mono ?_
    rintro e w' ⟨rfl, q, rfl⟩
    exact ⟨by simp, below_drewN (Below.refl _ _) q⟩
theorem flat_lines (l : List Sm) : (l.flatMap fun s => [Value.string (lineB s)]) = (l.map lineB).flatMap cs := by
  rw [List.flatMap_map]; rfl
theorem pow10_of {W : World} (hL : laidMetH Tryd.prog Rows.alertChecksRow.laid W) : Lib.TabIs Tryd.prog W "internal/strconv.uint64pow10" .u64 Lib.pow10Tab := by
  rw [MakeChecks.laidMetH_plain _ _ _ (by kernel_rfl)] at hL
  exact Lib.tabIs_of_head (n := 20) (t := 131) (e := 117) (g := 3) (by kernel_rfl) (by kernel_rfl) (by kernel_rfl) (by kernel_rfl) (by kernel_rfl) (by kernel_rfl) (laidMet.tail (laidMet.tail hL))
/-- What the two boxes hold. -/
def ChS (B : Nat) (mo wa ag tr no : Int) (v : Value) (t3 nx : Int) (w : World) : Prop :=
  w.cell? ⟨B, 0, none⟩ = some (.int .i64 mo) ∧ w.cell? ⟨B, 1, none⟩ = some (.int .i64 wa) ∧ w.cell? ⟨B, 2, none⟩ = some (.int .i64 ag) ∧ w.cell? ⟨B, 3, none⟩ = some (.int .i64 tr) ∧
  w.cell? ⟨B + 1, 0, none⟩ = some (.int .i64 no) ∧ w.cell? ⟨B + 1, 1, none⟩ = some v ∧ w.cell? ⟨B + 1, 2, none⟩ = some (.int .i64 t3) ∧ w.cell? ⟨B + 1, 3, none⟩ = some (.int .i64 nx)
theorem chs {B : Nat} {mo wa ag tr no : Int} {v : Value} {t3 nx : Int} {w : World} {t u : TypeId} {f g : Nat × Nat}
    (h : w.heap[B]? = some (.cells #[.int .i64 mo, .int .i64 wa, .int .i64 ag, .int .i64 tr] t f)) (h' : w.heap[B + 1]? = some (.cells #[.int .i64 no, v, .int .i64 t3, .int .i64 nx] u g)) : ChS B mo wa ag tr no v t3 nx w :=
  ⟨block_cell h 0, block_cell h 1, block_cell h 2, block_cell h 3, block_cell h' 0, block_cell h' 1, block_cell h' 2, block_cell h' 3⟩
namespace alertChecks
set_option maxRecDepth 100000 in
set_option maxHeartbeats 4000000 in
theorem walk {H : Type} {enc : TypeId × Value → H} {d0 d1 d2 d3 : DataW H} {p0 p1 p2 p3 : List MemPlace} {base : Nat} {W : World}
    (v0 : Value) (k0 : DataW.Trod enc Tryd.prog W 0 (fun _ => true) true 22 v0 d0 p0) (ok0 : Value.okWide Tryd.prog W .any base 22 v0)
    (z0 : ∀ el sp, d0 = .slice el sp → (el.length + sp.length) * Tryd.prog.bytesOf 56 ≤ reachBytes)
    (v1 : Value) (k1 : DataW.Trod enc Tryd.prog W 0 (fun _ => true) true 23 v1 d1 p1) (ok1 : Value.okWide Tryd.prog W .any base 23 v1)
    (z1 : ∀ el sp, d1 = .slice el sp → (el.length + sp.length) * Tryd.prog.bytesOf 64 ≤ reachBytes)
    (v2 : Value) (k2 : DataW.Trod enc Tryd.prog W 0 (fun _ => true) true 25 v2 d2 p2) (ok2 : Value.okWide Tryd.prog W .any base 25 v2) (t2 : Wt 25 d2)
    (v3 : Value) (k3 : DataW.Trod enc Tryd.prog W 0 (fun _ => true) true 28 v3 d3 p3) (ok3 : Value.okWide Tryd.prog W .any base 28 v3) (t3 : Wt 28 d3)
    (hL : laidMetH Tryd.prog Rows.alertChecksRow.laid W) :
    Calls Tryd.prog 3 #[v0, v1, v2, v3] W fun e w' => e = .returned (.bool true) ∧ Below W.heap.size W w' := by
  have ht := pow10_of hL
  obtain ⟨A0, n0, c0, l0, rfl, hl0, hnc0, hcm0, hf0⟩ := open_rules ok0 k0
  obtain ⟨A1, n1, c1, l1, rfl, hl1, hnc1, hcm1, hf1⟩ := open_sils ok1 k1
  obtain ⟨mo, wa, ag, tr, rfl⟩ := open_plan ok2 k2
  obtain ⟨no, tr3, nx, A3, n3, c3, l3, rfl, hl3, hnc3, hcm3, hnb3, hf3⟩ := open_post ok3 k3 t3
  have hn3 : n3 ≤ 3518437208780 := by
    rw [show Tryd.prog.bytesOf 47 = 40 from by kernel_rfl] at hnb3
    unfold reachBytes at hnb3
    omega
  have hk3 : (smL l3).length ≤ 9223372036854775807 := by
    have := ruN_len l3
    have := hl3.len
    unfold smL; rw [List.length_map]; omega
  clear k0 ok0 z0 k1 ok1 z1 k2 ok2 t2 k3 ok3 t3 hL hnb3
  obtain ⟨B, hB⟩ : ∃ B, W.heap.size = B := ⟨_, rfl⟩
  have HT := hide ht
  have H0 := hide hl0
  have H1 := hide hl1
  have H3 := hide hl3
  clear ht hl0 hl1 hl3
  go_enter Tryd.func3, Tryd.ntmps3
  go_wp2_with (fail)
  have hA : Below W.heap.size W ((W.alloc (.cells #[.int .i64 mo, .int .i64 wa, .int .i64 ag, .int .i64 tr] 25)).alloc (.cells #[.int .i64 no, .slice A3 n3 c3, .int .i64 tr3, .int .i64 nx] 28)) := ((Below.refl _ _).alloc (Nat.le_refl _) _).alloc (by simp) _
  have hX := block_below (heap_alloc_new W (.cells #[.int .i64 mo, .int .i64 wa, .int .i64 ag, .int .i64 tr] 25)) ((Below.refl (W.alloc (.cells #[.int .i64 mo, .int .i64 wa, .int .i64 ag, .int .i64 tr] 25)).heap.size (W.alloc (.cells #[.int .i64 mo, .int .i64 wa, .int .i64 ag, .int .i64 tr] 25))).alloc (Nat.le_refl _) (.cells #[.int .i64 no, .slice A3 n3 c3, .int .i64 tr3, .int .i64 nx] 28))
  have hY := heap_alloc_new (W.alloc (.cells #[.int .i64 mo, .int .i64 wa, .int .i64 ag, .int .i64 tr] 25)) (.cells #[.int .i64 no, .slice A3 n3 c3, .int .i64 tr3, .int .i64 nx] 28)
  rw [show (W.alloc (.cells #[.int .i64 mo, .int .i64 wa, .int .i64 ag, .int .i64 tr] 25)).heap.size = W.heap.size + 1 from by simp] at hY
  obtain ⟨w1, hw1⟩ : ∃ w1, (W.alloc (.cells #[.int .i64 mo, .int .i64 wa, .int .i64 ag, .int .i64 tr] 25)).alloc (.cells #[.int .i64 no, .slice A3 n3 c3, .int .i64 tr3, .int .i64 nx] 28) = w1 := ⟨_, rfl⟩
  rw [hw1] at hA hX hY ⊢
  rw [hB] at hX hY
  have HB1 := hide hA.drew
  have HX1 := hide (show w1.drew.heap[B]? = _ from hX)
  have HY1 := hide (show w1.drew.heap[B + 1]? = _ from hY)
  have hm0 : n0 ≤ maxLen := Nat.le_trans hnc0 hcm0
  have hm1 : n1 ≤ maxLen := Nat.le_trans hnc1 hcm1
  clear hw1 hA hX hY
  -- walk
  refine wp_region_chain (ChS B mo wa ag tr no (.slice A3 n3 c3) tr3 nx) 25 (by as_aux_lemma => kernel_rfl) (N := 27) (by as_aux_lemma => kernel_rfl) ?_; intro hsh
  have HS := chs HX1.out HY1.out
  refine wpAnyC_take0 (i := 0) (k := 25) (v := ?_) (d := some 9) rfl (by rfl) (by as_aux_lemma => kernel_rfl) (by as_aux_lemma => kernel_rfl) (by as_aux_lemma => kernel_rfl) hsh (by decide) (by intro _ _ _ h; exact h) (by assumption) (Or.inl ⟨by rfl, ?hy⟩) ?_; (case hy => (intro W _; go_simp; (try with_reducible rfl))); clear hsh; intro hsh
  refine wpAnyC_take0 (i := 2) (k := 25) (v := ?_) (d := some 11) rfl (by rfl) (by as_aux_lemma => kernel_rfl) (by as_aux_lemma => kernel_rfl) (by as_aux_lemma => kernel_rfl) hsh (by decide) (by intro _ _ _ h; exact h) (by assumption) (Or.inl ⟨by rfl, ?hy⟩) ?_; (case hy => (intro W _; go_simp; (try with_reducible rfl))); clear hsh; intro hsh
  refine wpAnyC_ready (rs := [1]) (by as_aux_lemma => kernel_rfl) (by simp) ?_; refine AllC.cons (i := 1) rfl (by as_aux_lemma => kernel_rfl) hsh (fun K hK => ?_) AllC.nil
  go_simp
  go_at_call 6
  refine (CheckRules_any A0 n0 c0 l0 _ hm0 (Sl.up H0.out HB1.out) hf0).mono ?_
  rintro e w2 ⟨rfl, hw⟩
  have HX2 := hide (block_below (show w1.drew.heap[B]? = _ from HX1.out) hw)
  have HY2 := hide (block_below (show w1.drew.heap[(B + 1)]? = _ from HY1.out) hw)
  have HB2 := hide (HB1.out.trans (hw.mono HB1.out.size))
  clear hw
  try go_simp
  refine hK _ _ (fun _ => chs HX2.out HY2.out) ?_
  clear hK K hsh HS
  intro hsh
  have HS := chs HX2.out HY2.out
  refine wpAnyC_ready (rs := [3]) (by as_aux_lemma => kernel_rfl) (by simp) ?_; refine AllC.cons (i := 3) rfl (by as_aux_lemma => kernel_rfl) hsh (fun K hK => ?_) AllC.nil
  go_simp
  go_at_call 7
  refine (AlertRulesError_any A0 n0 c0 l0 _ hm0 hnc0 (Sl.up H0.out HB2.out) hf0).mono ?_
  rintro e w3 ⟨rfl, hw⟩
  have HX3 := hide (block_below (show w2.heap[B]? = _ from HX2.out) hw)
  have HY3 := hide (block_below (show w2.heap[(B + 1)]? = _ from HY2.out) hw)
  have HB3 := hide (HB2.out.trans (hw.mono HB2.out.size))
  clear hw
  try go_simp
  refine hK _ _ (fun _ => chs HX3.out HY3.out) ?_
  clear hK K hsh HS
  intro hsh
  have HS := chs HX3.out HY3.out
  refine wpAnyC_take0 (i := 4) (k := 25) (v := ?_) (d := some 13) rfl (by rfl) (by as_aux_lemma => kernel_rfl) (by as_aux_lemma => kernel_rfl) (by as_aux_lemma => kernel_rfl) hsh (by decide) (by intro _ _ _ h; exact h) (by assumption) (Or.inl ⟨by rfl, ?hy⟩) ?_; (case hy => (intro W _; go_simp; (try with_reducible rfl))); clear hsh; intro hsh
  refine wpAnyC_take0 (i := 5) (k := 25) (v := ?_) (d := some 14) rfl (by rfl) (by as_aux_lemma => kernel_rfl) (by as_aux_lemma => kernel_rfl) (by as_aux_lemma => kernel_rfl) hsh (by decide) (by intro _ _ _ h; exact h) (by assumption) (Or.inl ⟨by rfl, ?hy⟩) ?_; (case hy => (intro W _; go_simp; (try with_reducible rfl))); clear hsh; intro hsh
  refine wpAnyC_take0 (i := 6) (k := 25) (v := ?_) (d := some 15) rfl (by rfl) (by as_aux_lemma => kernel_rfl) (by as_aux_lemma => kernel_rfl) (by as_aux_lemma => kernel_rfl) hsh (by decide) (by intro _ _ _ h; exact h) (by assumption) (Or.inl ⟨(by as_aux_lemma => kernel_rfl), ?hy⟩) ?_; (case hy => (intro W _; go_simp; (try with_reducible rfl))); clear hsh; intro hsh
  refine wpAnyC_take0 (i := 8) (k := 25) (v := ?_) (d := some 17) rfl (by rfl) (by as_aux_lemma => kernel_rfl) (by as_aux_lemma => kernel_rfl) (by as_aux_lemma => kernel_rfl) hsh (by decide) (by intro _ _ _ h; exact h) (by assumption) (Or.inl ⟨(by as_aux_lemma => kernel_rfl), ?hy⟩) ?_; (case hy => (intro W _; go_simp; (try with_reducible rfl))); clear hsh; intro hsh
  refine wpAnyC_ready (rs := [7]) (by as_aux_lemma => kernel_rfl) (by simp) ?_; refine AllC.cons (i := 7) rfl (by as_aux_lemma => kernel_rfl) hsh (fun K hK => ?_) AllC.nil
  go_simp
  go_at_call 8
  refine (nSils_any A1 n1 c1 l1 _ hm1 (Sl.up H1.out HB3.out) hf1).mono ?_
  rintro e w4 ⟨rfl, hw⟩
  have HX4 := hide (block_below (show w3.heap[B]? = _ from HX3.out) hw)
  have HY4 := hide (block_below (show w3.heap[(B + 1)]? = _ from HY3.out) hw)
  have HB4 := hide (HB3.out.trans (hw.mono HB3.out.size))
  clear hw
  try go_simp
  refine hK _ _ (fun _ => chs HX4.out HY4.out) ?_
  clear hK K hsh HS
  intro hsh
  have HS := chs HX4.out HY4.out
  refine wpAnyC_ready (rs := [9]) (by as_aux_lemma => kernel_rfl) (by simp) ?_; refine AllC.cons (i := 9) rfl (by as_aux_lemma => kernel_rfl) hsh (fun K hK => ?_) AllC.nil
  go_simp
  go_at_call 9
  refine (rSils_any A1 n1 c1 l1 _ hm1 (Sl.up H1.out HB4.out) hf1).mono ?_
  rintro e w5 ⟨rfl, hw⟩
  have HX5 := hide (block_below (show w4.heap[B]? = _ from HX4.out) hw)
  have HY5 := hide (block_below (show w4.heap[(B + 1)]? = _ from HY4.out) hw)
  have HB5 := hide (HB4.out.trans (hw.mono HB4.out.size))
  clear hw
  try go_simp
  refine hK _ _ (fun _ => chs HX5.out HY5.out) ?_
  clear hK K hsh HS
  intro hsh
  have HS := chs HX5.out HY5.out
  refine wpAnyC_take0 (i := 10) (k := 25) (v := ?_) (d := some 19) rfl (by rfl) (by as_aux_lemma => kernel_rfl) (by as_aux_lemma => kernel_rfl) (by as_aux_lemma => kernel_rfl) hsh (by decide) (by intro _ _ _ h; exact h) (by assumption) (Or.inl ⟨(by as_aux_lemma => kernel_rfl), ?hy⟩) ?_; (case hy => (intro W _; go_simp; (try with_reducible rfl))); clear hsh; intro hsh
  refine wpAnyC_take0 (i := 11) (k := 25) (v := ?_) (d := some 20) rfl (by rfl) (by as_aux_lemma => kernel_rfl) (by as_aux_lemma => kernel_rfl) (by as_aux_lemma => kernel_rfl) hsh (by decide) (by intro _ _ _ h; exact h) (by assumption) (Or.inl ⟨by rfl, ?hy⟩) ?_; (case hy => (intro W _; go_simp; (try with_reducible rfl))); clear hsh; intro hsh
  refine wpAnyC_take0 (i := 12) (k := 25) (v := ?_) (d := some 21) rfl (by rfl) (by as_aux_lemma => kernel_rfl) (by as_aux_lemma => kernel_rfl) (by as_aux_lemma => kernel_rfl) hsh (by decide) (by intro _ _ _ h; exact h) (by assumption) (Or.inl ⟨by rfl, ?hy⟩) ?_; (case hy => (intro W _; go_simp; (try with_reducible rfl))); clear hsh; intro hsh
  refine wpAnyC_take (i := 13) (k := 25) (f := 40) (v := ?_) (d := some 22) rfl (by rfl) (by as_aux_lemma => kernel_rfl) (by as_aux_lemma => kernel_rfl) (by as_aux_lemma => kernel_rfl) hsh (by decide) (by as_aux_lemma => kernel_rfl) (by intro _ _ _ h; exact h) (by assumption) (Or.inl ⟨(by as_aux_lemma => kernel_rfl), ?hy⟩) ?_; (case hy => (rintro W ⟨p0, p1, p2, p3, q0, q1, q2, q3⟩; go_simp; (try with_reducible rfl))); clear hsh; intro hsh
  refine wpAnyC_take (i := 15) (k := 25) (f := 40) (v := ?_) (d := some 24) rfl (by rfl) (by as_aux_lemma => kernel_rfl) (by as_aux_lemma => kernel_rfl) (by as_aux_lemma => kernel_rfl) hsh (by decide) (by as_aux_lemma => kernel_rfl) (by intro _ _ _ h; exact h) (by assumption) (Or.inl ⟨(by as_aux_lemma => kernel_rfl), ?hy⟩) ?_; (case hy => (rintro W ⟨p0, p1, p2, p3, q0, q1, q2, q3⟩; go_simp; (try with_reducible rfl))); clear hsh; intro hsh
  refine wpAnyC_ready (rs := [14]) (by as_aux_lemma => kernel_rfl) (by simp) ?_; refine AllC.cons (i := 14) rfl (by as_aux_lemma => kernel_rfl) hsh (fun K hK => ?_) AllC.nil
  go_simp
  go_at_call 10
  refine (CheckPlan_any mo wa ag tr _).mono ?_
  rintro e w6 ⟨rfl, hw⟩
  have HX6 := hide (block_below (show w5.heap[B]? = _ from HX5.out) hw)
  have HY6 := hide (block_below (show w5.heap[(B + 1)]? = _ from HY5.out) hw)
  have HB6 := hide (HB5.out.trans (hw.mono HB5.out.size))
  clear hw
  try go_simp
  refine hK _ _ (fun _ => chs HX6.out HY6.out) ?_
  clear hK K hsh HS
  intro hsh
  have HS := chs HX6.out HY6.out
  refine wpAnyC_ready (rs := [16]) (by as_aux_lemma => kernel_rfl) (by simp) ?_; refine AllC.cons (i := 16) rfl (by as_aux_lemma => kernel_rfl) hsh (fun K hK => ?_) AllC.nil
  go_simp
  go_at_call 11
  refine (PlanError_any mo wa ag tr _).mono ?_
  rintro e w7 ⟨rfl, hw⟩
  have HX7 := hide (block_below (show w6.heap[B]? = _ from HX6.out) hw)
  have HY7 := hide (block_below (show w6.heap[(B + 1)]? = _ from HY6.out) hw)
  have HB7 := hide (HB6.out.trans (hw.mono HB6.out.size))
  clear hw
  try go_simp
  refine hK _ _ (fun _ => chs HX7.out HY7.out) ?_
  clear hK K hsh HS
  intro hsh
  have HS := chs HX7.out HY7.out
  refine wpAnyC_take0 (i := 17) (k := 25) (v := ?_) (d := some 26) rfl (by rfl) (by as_aux_lemma => kernel_rfl) (by as_aux_lemma => kernel_rfl) (by as_aux_lemma => kernel_rfl) hsh (by decide) (by intro _ _ _ h; exact h) (by assumption) (Or.inl ⟨(by as_aux_lemma => kernel_rfl), ?hy⟩) ?_; (case hy => (intro W _; go_simp; (try with_reducible rfl))); clear hsh; intro hsh
  refine wpAnyC_take0 (i := 18) (k := 25) (v := ?_) (d := some 27) rfl (by rfl) (by as_aux_lemma => kernel_rfl) (by as_aux_lemma => kernel_rfl) (by as_aux_lemma => kernel_rfl) hsh (by decide) (by intro _ _ _ h; exact h) (by assumption) (Or.inl ⟨by rfl, ?hy⟩) ?_; (case hy => (intro W _; go_simp; (try with_reducible rfl))); clear hsh; intro hsh
  refine wpAnyC_take0 (i := 19) (k := 25) (v := ?_) (d := some 28) rfl (by rfl) (by as_aux_lemma => kernel_rfl) (by as_aux_lemma => kernel_rfl) (by as_aux_lemma => kernel_rfl) hsh (by decide) (by intro _ _ _ h; exact h) (by assumption) (Or.inl ⟨by rfl, ?hy⟩) ?_; (case hy => (intro W _; go_simp; (try with_reducible rfl))); clear hsh; intro hsh
  refine wpAnyC_take (i := 20) (k := 25) (f := 40) (v := ?_) (d := some 29) rfl (by rfl) (by as_aux_lemma => kernel_rfl) (by as_aux_lemma => kernel_rfl) (by as_aux_lemma => kernel_rfl) hsh (by decide) (by as_aux_lemma => kernel_rfl) (by intro _ _ _ h; exact h) (by assumption) (Or.inl ⟨(by as_aux_lemma => kernel_rfl), ?hy⟩) ?_; (case hy => (rintro W ⟨p0, p1, p2, p3, q0, q1, q2, q3⟩; go_simp; (try with_reducible rfl))); clear hsh; intro hsh
  refine wpAnyC_take (i := 22) (k := 25) (f := 40) (v := ?_) (d := some 31) rfl (by rfl) (by as_aux_lemma => kernel_rfl) (by as_aux_lemma => kernel_rfl) (by as_aux_lemma => kernel_rfl) hsh (by decide) (by as_aux_lemma => kernel_rfl) (by intro _ _ _ h; exact h) (by assumption) (Or.inl ⟨(by as_aux_lemma => kernel_rfl), ?hy⟩) ?_; (case hy => (rintro W ⟨p0, p1, p2, p3, q0, q1, q2, q3⟩; go_simp; (try with_reducible rfl))); clear hsh; intro hsh
  refine wpAnyC_ready (rs := [21]) (by as_aux_lemma => kernel_rfl) (by simp) ?_; refine AllC.cons (i := 21) rfl (by as_aux_lemma => kernel_rfl) hsh (fun K hK => ?_) AllC.nil
  go_simp
  go_at_call 13
  refine (Lines_any no tr3 nx A3 n3 c3 l3 _ hn3 (Sl.up H3.out HB7.out) hf3 (tab_below HT.out HB7.out)).mono ?_
  rintro e w8 ⟨v1, rfl, hr1, hw⟩
  have HX8 := hide (block_below (show w7.heap[B]? = _ from HX7.out) hw)
  have HY8 := hide (block_below (show w7.heap[(B + 1)]? = _ from HY7.out) hw)
  have HB8 := hide (HB7.out.trans (hw.mono HB7.out.size))
  have HR1 := hide hr1
  clear hr1
  clear hw
  try go_simp
  refine hK _ _ (fun _ => chs HX8.out HY8.out) ?_
  clear hK K hsh HS
  intro hsh
  have HS := chs HX8.out HY8.out
  refine wpAnyC_ready (rs := [23]) (by as_aux_lemma => kernel_rfl) (by simp) ?_; refine AllC.cons (i := 23) rfl (by as_aux_lemma => kernel_rfl) hsh (fun K hK => ?_) AllC.nil
  go_simp
  go_at_call 14
  refine (LinesOf_any no tr3 nx A3 n3 c3 l3 _ hn3 (Sl.up H3.out HB8.out) hf3).mono ?_
  rintro e w9 ⟨v2, rfl, hr2, hw⟩
  have HX9 := hide (block_below (show w8.heap[B]? = _ from HX8.out) hw)
  have HY9 := hide (block_below (show w8.heap[(B + 1)]? = _ from HY8.out) hw)
  have HB9 := hide (HB8.out.trans (hw.mono HB8.out.size))
  have HR2 := hide hr2
  have HR3 := hide (own_below HR1.out hw)
  clear hr2
  clear hw
  try go_simp
  refine hK _ _ (fun _ => chs HX9.out HY9.out) ?_
  clear hK K hsh HS
  intro hsh
  have HS := chs HX9.out HY9.out
  refine wpAnyC_ready (rs := [24]) (by as_aux_lemma => kernel_rfl) (by simp) ?_; refine AllC.cons (i := 24) rfl (by as_aux_lemma => kernel_rfl) hsh (fun K hK => ?_) AllC.nil
  go_simp
  go_at_call 12
  refine (Equal_strs (l := (smL l3).map lineB) (by rw [List.length_map]) hk3 (flat_lines _ ▸ HR3.out) (flat_lines _ ▸ HR2.out)).mono ?_
  rintro e w10 ⟨rfl, hw⟩
  have HX10 := hide (block_below (show w9.heap[B]? = _ from HX9.out) hw)
  have HY10 := hide (block_below (show w9.heap[(B + 1)]? = _ from HY9.out) hw)
  have HB10 := hide (HB9.out.trans (hw.mono HB9.out.size))
  clear hw
  try go_simp
  refine hK _ _ (fun _ => chs HX10.out HY10.out) ?_
  clear hK K hsh HS
  intro hsh
  have HS := chs HX10.out HY10.out
  refine wpAnyC_tail (by as_aux_lemma => kernel_rfl) (by simp) (by as_aux_lemma => kernel_rfl) ?_; simp only [List.drop_succ_cons, List.drop_zero]; clear hsh
  go_wp2_with (fail)
  go_ret
  exact ⟨rfl, HB10.out⟩
end alertChecks
end Go.Proofs.YtpjfihdbbgencaaDoor
