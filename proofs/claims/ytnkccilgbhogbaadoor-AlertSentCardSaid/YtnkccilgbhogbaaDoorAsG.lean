/- AlLin, MapI, AlRul, AlLnsK, AlAwK: texts of one's own, in one file. -/
import Derived.Test.YtnkccilgbhogbaaDoorAlLnL
import Derived.Test.YtnkccilgbhogbaaDoorNumb
import Derived.Test.YtnkccilgbhogbaaDoorRegChain
import Derived.Test.YtnkccilgbhogbaaDoorMapB
import Derived.Test.YtnkccilgbhogbaaDoorAlErr
import Derived.Test.YtnkccilgbhogbaaDoorKeepP
import Derived.Maps.AppendAt
import Derived.Deep.Onto
/- The line of a rule: its text, and the walk of line. -/
namespace Go.Proofs.YtnkccilgbhogbaaDoor
open Go.RowKit
set_option linter.unusedVariables false
set_option linter.unusedSimpArgs false
def wordsL (f l : Bool) : List UInt8 := if f && l then [32, 98, 101, 103, 97, 110] else if f then [32, 98, 101, 103, 97, 110, 32, 97, 110, 100, 32, 105, 115, 32, 111, 118, 101, 114] else if l then [32, 105, 115, 32, 111, 118, 101, 114, 32, 97, 110, 100, 32, 98, 101, 103, 97, 110, 32, 97, 103, 97, 105, 110] else [32, 111, 118, 101, 114]
def lineB (s : Sm) : ByteArray := ⟨(s.rule.data.toList ++ (wordsL s.first s.last ++ ([32, 40] ++ (toldZ s.value ++ [41])))).toArray⟩
theorem tab_below {w w' : World} {name : String} {k : IntKind} {zs : List Int} (h : Lib.TabIs Tryd.prog w name k zs) (hb : Below w.heap.size w w') : Lib.TabIs Tryd.prog w' name k zs := by
  unfold Lib.TabIs World.var? at h ⊢
  cases hg : Tryd.prog.globalNamed name with
  | none => rw [hg] at h; simp at h
  | some g =>
    rw [hg] at h
    simp only [Option.bind_some] at h ⊢
    cases hh : w.heap[g]? with
    | none => rw [hh] at h; simp at h
    | some o => rw [hh] at h; rw [hb.block g (lt_of_block hh), hh]; exact h
theorem bytes_eq {a : ByteArray} {l : List UInt8} (h : a.data.toList = l) : a = ⟨l.toArray⟩ := by rw [← h]
set_option maxRecDepth 100000 in
set_option maxHeartbeats 4000000 in
theorem line_any (s : Sm) (w : World) (hr : s.rule.size ≤ 4611686018427387904) (h0 : -9223372036854775808 ≤ s.value) (h1 : s.value ≤ 9223372036854775807) (htab : Lib.TabIs Tryd.prog w "internal/strconv.uint64pow10" .u64 Lib.pow10Tab) :
    Calls Tryd.prog 50 #[.agg #[.string s.rule, .bool s.first, .bool s.last, .int .i64 s.value]] w fun e w' => e = .returned (.string (lineB s)) ∧ Below w.heap.size w w' := by
  obtain ⟨ru, f, l, v⟩ := s
  simp only at hr h0 h1 ⊢
  have hb : Below w.heap.size w (w.alloc (.cells #[.string ru, .bool f, .bool l, .int .i64 v] 89)) := (Below.refl _ _).alloc (Nat.le_refl _) _
  have HT := hide (Itoa_all v (w.alloc (.cells #[.string ru, .bool f, .bool l, .int .i64 v] 89)).drew h0 h1 (tab_below htab hb.drew))
  have HB := hide hb
  have HBX := hide (heap_alloc_new w (.cells #[.string ru, .bool f, .bool l, .int .i64 v] 89))
  have hlen := toldZ_len v h0 h1
  obtain ⟨tz, htz⟩ : ∃ tz : ByteArray, ⟨(toldZ v).toArray⟩ = tz := ⟨_, rfl⟩
  have htl : tz.size ≤ 65 := by rw [← htz]; simpa [ByteArray.size] using hlen
  have HE := hide (show tz.data.toList = toldZ v by rw [← htz])
  rw [htz] at HT
  clear hb htab htz hlen
  go_enter Tryd.func50, Tryd.ntmps50
  cases f
  · cases l
    · go_wp2_with (fail)
      obtain ⟨w1, hw1⟩ : ∃ w1, w.alloc (.cells #[.string ru, .bool false, .bool false, .int .i64 v] 89) = w1 := ⟨_, rfl⟩
      rw [hw1] at HT HB HBX ⊢
      have z1 : w1.cell? ⟨w.heap.size, 0, none⟩ = some (.string ru) := block_cell HBX.out 0
      have z2 : w1.cell? ⟨w.heap.size, 3, none⟩ = some (.int .i64 v) := block_cell HBX.out 3
      clear hw1
      have hs1 : (⟨#[32, 111, 118, 101, 114]⟩ : ByteArray).size = 5 := rfl
      have hs2 : (⟨#[32, 40]⟩ : ByteArray).size = 2 := rfl
      have hs3 : (⟨#[41]⟩ : ByteArray).size = 1 := rfl
      have hq1 : (ru ++ (⟨#[32, 111, 118, 101, 114]⟩ : ByteArray)).size = ru.size + 5 := by rw [ByteArray.size_append, hs1]
      have nb1 : ¬ 9223372036854775807 < ru.size + 5 := by omega
      have nb2 : ¬ 9223372036854775807 < ru.size + 5 + 2 := by omega
      have nb3 : ¬ 9223372036854775807 < ru.size + 7 := by omega
      have nb4 : ¬ 9223372036854775807 < ru.size + 5 + 2 + tz.size := by omega
      have nb5 : ¬ 9223372036854775807 < ru.size + 7 + tz.size := by omega
      have nb6 : ¬ 9223372036854775807 < ru.size + 5 + 2 + tz.size + 1 := by omega
      have hq2 : (ru ++ (⟨#[32, 111, 118, 101, 114]⟩ : ByteArray) ++ (⟨#[32, 40]⟩ : ByteArray)).size = ru.size + 7 := by rw [ByteArray.size_append, hq1, hs2]
      have hq3 : (ru ++ (⟨#[32, 111, 118, 101, 114]⟩ : ByteArray) ++ (⟨#[32, 40]⟩ : ByteArray) ++ tz).size ≤ ru.size + 72 := by rw [ByteArray.size_append, hq2]; omega
      refine wp_region_chain (fun W => W.cell? ⟨w.heap.size, 0, none⟩ = some (.string ru) ∧ W.cell? ⟨w.heap.size, 3, none⟩ = some (.int .i64 v)) 8 (by as_aux_lemma => kernel_rfl) (N := 11) (by as_aux_lemma => kernel_rfl) ?_; intro hsh
      have HS : w1.drew.cell? ⟨w.heap.size, 0, none⟩ = some (.string ru) ∧ w1.drew.cell? ⟨w.heap.size, 3, none⟩ = some (.int .i64 v) := ⟨z1, z2⟩
      refine wpAnyC_take0 (i := 0) (k := 8) (v := ?_) (d := some 17) rfl (by rfl) (by as_aux_lemma => kernel_rfl) (by as_aux_lemma => kernel_rfl) (by as_aux_lemma => kernel_rfl) hsh (by decide) (by intro _ _ _ h; exact h) (by assumption) (Or.inl ⟨by rfl, ?hy⟩) ?_; (case hy => (intro W _; go_simp; (try with_reducible rfl))); clear hsh; intro hsh
      refine wpAnyC_take (i := 1) (k := 8) (f := 40) (v := ?_) (d := some 18) rfl (by rfl) (by as_aux_lemma => kernel_rfl) (by as_aux_lemma => kernel_rfl) (by as_aux_lemma => kernel_rfl) hsh (by decide) (by as_aux_lemma => kernel_rfl) (by intro _ _ _ h; exact h) (by assumption) (Or.inl ⟨by rfl, ?hy⟩) ?_; (case hy => (rintro W ⟨y1, y2⟩; go_simp; (try with_reducible rfl))); clear hsh; intro hsh
      refine wpAnyC_take0 (i := 2) (k := 8) (v := ?_) (d := some 19) rfl (by rfl) (by as_aux_lemma => kernel_rfl) (by as_aux_lemma => kernel_rfl) (by as_aux_lemma => kernel_rfl) hsh (by decide) (by intro _ _ _ h; exact h) (by assumption) (Or.inl ⟨by rfl, ?hy⟩) ?_; (case hy => (intro W _; go_simp; (try with_reducible rfl))); clear hsh; intro hsh
      refine wpAnyC_take0 (i := 3) (k := 8) (v := ?_) (d := some 20) rfl (by rfl) (by as_aux_lemma => kernel_rfl) (by as_aux_lemma => kernel_rfl) (by as_aux_lemma => kernel_rfl) hsh (by decide) (by intro _ _ _ h; exact h) (by assumption) (Or.inl ⟨by rfl, ?hy⟩) ?_; (case hy => (intro W _; go_simp; (try with_reducible rfl))); clear hsh; intro hsh
      refine wpAnyC_take0 (i := 4) (k := 8) (v := ?_) (d := some 21) rfl (by rfl) (by as_aux_lemma => kernel_rfl) (by as_aux_lemma => kernel_rfl) (by as_aux_lemma => kernel_rfl) hsh (by decide) (by intro _ _ _ h; exact h) (by assumption) (Or.inl ⟨by rfl, ?hy⟩) ?_; (case hy => (intro W _; go_simp; (try with_reducible rfl))); clear hsh; intro hsh
      refine wpAnyC_take0 (i := 5) (k := 8) (v := ?_) (d := some 22) rfl (by rfl) (by as_aux_lemma => kernel_rfl) (by as_aux_lemma => kernel_rfl) (by as_aux_lemma => kernel_rfl) hsh (by decide) (by intro _ _ _ h; exact h) (by assumption) (Or.inl ⟨by rfl, ?hy⟩) ?_; (case hy => (intro W _; go_simp; (try with_reducible rfl))); clear hsh; intro hsh
      refine wpAnyC_take (i := 6) (k := 8) (f := 40) (v := ?_) (d := some 23) rfl (by rfl) (by as_aux_lemma => kernel_rfl) (by as_aux_lemma => kernel_rfl) (by as_aux_lemma => kernel_rfl) hsh (by decide) (by as_aux_lemma => kernel_rfl) (by intro _ _ _ h; exact h) (by assumption) (Or.inl ⟨by rfl, ?hy⟩) ?_; (case hy => (rintro W ⟨y1, y2⟩; go_simp; (try with_reducible rfl))); clear hsh; intro hsh
      refine wpAnyC_ready (rs := [7]) (by as_aux_lemma => kernel_rfl) (by simp) ?_; refine AllC.cons (i := 7) rfl (by as_aux_lemma => kernel_rfl) hsh (fun K hK => ?_) AllC.nil
      go_simp
      go_at_call 56
      refine HT.out.mono ?_
      rintro e w2 ⟨rfl, hw2⟩
      have HX2 := hide (block_below (show w1.drew.heap[w.heap.size]? = _ from HBX.out) hw2)
      have HB2 := hide (HB.out.drew.trans (hw2.mono (by have := HB.out.size; simpa using this)))
      try go_simp
      refine hK _ _ (fun _ => ⟨block_cell HX2.out 0, block_cell HX2.out 3⟩) ?_
      clear hK K hsh HS hw2
      intro hsh
      refine wpAnyC_tail (by as_aux_lemma => kernel_rfl) (by simp) (by as_aux_lemma => kernel_rfl) ?_; simp only [List.drop_succ_cons, List.drop_zero]; clear hsh
      go_wp2_with (fail)
      go_ret
      refine ⟨congrArg (fun x => Ending.returned (Value.string x)) ?_, HB2.out⟩
      refine bytes_eq ?_
      simp only [app_toList, HE.out, lineB]
      simp [wordsL]
    · go_wp2_with (fail)
      obtain ⟨w1, hw1⟩ : ∃ w1, w.alloc (.cells #[.string ru, .bool false, .bool true, .int .i64 v] 89) = w1 := ⟨_, rfl⟩
      rw [hw1] at HT HB HBX ⊢
      have z1 : w1.cell? ⟨w.heap.size, 0, none⟩ = some (.string ru) := block_cell HBX.out 0
      have z2 : w1.cell? ⟨w.heap.size, 3, none⟩ = some (.int .i64 v) := block_cell HBX.out 3
      clear hw1
      have hs1 : (⟨#[32, 105, 115, 32, 111, 118, 101, 114, 32, 97, 110, 100, 32, 98, 101, 103, 97, 110, 32, 97, 103, 97, 105, 110]⟩ : ByteArray).size = 24 := rfl
      have hs2 : (⟨#[32, 40]⟩ : ByteArray).size = 2 := rfl
      have hs3 : (⟨#[41]⟩ : ByteArray).size = 1 := rfl
      have hq1 : (ru ++ (⟨#[32, 105, 115, 32, 111, 118, 101, 114, 32, 97, 110, 100, 32, 98, 101, 103, 97, 110, 32, 97, 103, 97, 105, 110]⟩ : ByteArray)).size = ru.size + 24 := by rw [ByteArray.size_append, hs1]
      have nb1 : ¬ 9223372036854775807 < ru.size + 24 := by omega
      have nb2 : ¬ 9223372036854775807 < ru.size + 24 + 2 := by omega
      have nb3 : ¬ 9223372036854775807 < ru.size + 26 := by omega
      have nb4 : ¬ 9223372036854775807 < ru.size + 24 + 2 + tz.size := by omega
      have nb5 : ¬ 9223372036854775807 < ru.size + 26 + tz.size := by omega
      have nb6 : ¬ 9223372036854775807 < ru.size + 24 + 2 + tz.size + 1 := by omega
      have hq2 : (ru ++ (⟨#[32, 105, 115, 32, 111, 118, 101, 114, 32, 97, 110, 100, 32, 98, 101, 103, 97, 110, 32, 97, 103, 97, 105, 110]⟩ : ByteArray) ++ (⟨#[32, 40]⟩ : ByteArray)).size = ru.size + 26 := by rw [ByteArray.size_append, hq1, hs2]
      have hq3 : (ru ++ (⟨#[32, 105, 115, 32, 111, 118, 101, 114, 32, 97, 110, 100, 32, 98, 101, 103, 97, 110, 32, 97, 103, 97, 105, 110]⟩ : ByteArray) ++ (⟨#[32, 40]⟩ : ByteArray) ++ tz).size ≤ ru.size + 91 := by rw [ByteArray.size_append, hq2]; omega
      refine wp_region_chain (fun W => W.cell? ⟨w.heap.size, 0, none⟩ = some (.string ru) ∧ W.cell? ⟨w.heap.size, 3, none⟩ = some (.int .i64 v)) 8 (by as_aux_lemma => kernel_rfl) (N := 11) (by as_aux_lemma => kernel_rfl) ?_; intro hsh
      have HS : w1.drew.cell? ⟨w.heap.size, 0, none⟩ = some (.string ru) ∧ w1.drew.cell? ⟨w.heap.size, 3, none⟩ = some (.int .i64 v) := ⟨z1, z2⟩
      refine wpAnyC_take0 (i := 0) (k := 8) (v := ?_) (d := some 17) rfl (by rfl) (by as_aux_lemma => kernel_rfl) (by as_aux_lemma => kernel_rfl) (by as_aux_lemma => kernel_rfl) hsh (by decide) (by intro _ _ _ h; exact h) (by assumption) (Or.inl ⟨by rfl, ?hy⟩) ?_; (case hy => (intro W _; go_simp; (try with_reducible rfl))); clear hsh; intro hsh
      refine wpAnyC_take (i := 1) (k := 8) (f := 40) (v := ?_) (d := some 18) rfl (by rfl) (by as_aux_lemma => kernel_rfl) (by as_aux_lemma => kernel_rfl) (by as_aux_lemma => kernel_rfl) hsh (by decide) (by as_aux_lemma => kernel_rfl) (by intro _ _ _ h; exact h) (by assumption) (Or.inl ⟨by rfl, ?hy⟩) ?_; (case hy => (rintro W ⟨y1, y2⟩; go_simp; (try with_reducible rfl))); clear hsh; intro hsh
      refine wpAnyC_take0 (i := 2) (k := 8) (v := ?_) (d := some 19) rfl (by rfl) (by as_aux_lemma => kernel_rfl) (by as_aux_lemma => kernel_rfl) (by as_aux_lemma => kernel_rfl) hsh (by decide) (by intro _ _ _ h; exact h) (by assumption) (Or.inl ⟨by rfl, ?hy⟩) ?_; (case hy => (intro W _; go_simp; (try with_reducible rfl))); clear hsh; intro hsh
      refine wpAnyC_take0 (i := 3) (k := 8) (v := ?_) (d := some 20) rfl (by rfl) (by as_aux_lemma => kernel_rfl) (by as_aux_lemma => kernel_rfl) (by as_aux_lemma => kernel_rfl) hsh (by decide) (by intro _ _ _ h; exact h) (by assumption) (Or.inl ⟨by rfl, ?hy⟩) ?_; (case hy => (intro W _; go_simp; (try with_reducible rfl))); clear hsh; intro hsh
      refine wpAnyC_take0 (i := 4) (k := 8) (v := ?_) (d := some 21) rfl (by rfl) (by as_aux_lemma => kernel_rfl) (by as_aux_lemma => kernel_rfl) (by as_aux_lemma => kernel_rfl) hsh (by decide) (by intro _ _ _ h; exact h) (by assumption) (Or.inl ⟨by rfl, ?hy⟩) ?_; (case hy => (intro W _; go_simp; (try with_reducible rfl))); clear hsh; intro hsh
      refine wpAnyC_take0 (i := 5) (k := 8) (v := ?_) (d := some 22) rfl (by rfl) (by as_aux_lemma => kernel_rfl) (by as_aux_lemma => kernel_rfl) (by as_aux_lemma => kernel_rfl) hsh (by decide) (by intro _ _ _ h; exact h) (by assumption) (Or.inl ⟨by rfl, ?hy⟩) ?_; (case hy => (intro W _; go_simp; (try with_reducible rfl))); clear hsh; intro hsh
      refine wpAnyC_take (i := 6) (k := 8) (f := 40) (v := ?_) (d := some 23) rfl (by rfl) (by as_aux_lemma => kernel_rfl) (by as_aux_lemma => kernel_rfl) (by as_aux_lemma => kernel_rfl) hsh (by decide) (by as_aux_lemma => kernel_rfl) (by intro _ _ _ h; exact h) (by assumption) (Or.inl ⟨by rfl, ?hy⟩) ?_; (case hy => (rintro W ⟨y1, y2⟩; go_simp; (try with_reducible rfl))); clear hsh; intro hsh
      refine wpAnyC_ready (rs := [7]) (by as_aux_lemma => kernel_rfl) (by simp) ?_; refine AllC.cons (i := 7) rfl (by as_aux_lemma => kernel_rfl) hsh (fun K hK => ?_) AllC.nil
      go_simp
      go_at_call 56
      refine HT.out.mono ?_
      rintro e w2 ⟨rfl, hw2⟩
      have HX2 := hide (block_below (show w1.drew.heap[w.heap.size]? = _ from HBX.out) hw2)
      have HB2 := hide (HB.out.drew.trans (hw2.mono (by have := HB.out.size; simpa using this)))
      try go_simp
      refine hK _ _ (fun _ => ⟨block_cell HX2.out 0, block_cell HX2.out 3⟩) ?_
      clear hK K hsh HS hw2
      intro hsh
      refine wpAnyC_tail (by as_aux_lemma => kernel_rfl) (by simp) (by as_aux_lemma => kernel_rfl) ?_; simp only [List.drop_succ_cons, List.drop_zero]; clear hsh
      go_wp2_with (fail)
      go_ret
      refine ⟨congrArg (fun x => Ending.returned (Value.string x)) ?_, HB2.out⟩
      refine bytes_eq ?_
      simp only [app_toList, HE.out, lineB]
      simp [wordsL]
  · cases l
    · go_wp2_with (fail)
      obtain ⟨w1, hw1⟩ : ∃ w1, w.alloc (.cells #[.string ru, .bool true, .bool false, .int .i64 v] 89) = w1 := ⟨_, rfl⟩
      rw [hw1] at HT HB HBX ⊢
      have z1 : w1.cell? ⟨w.heap.size, 0, none⟩ = some (.string ru) := block_cell HBX.out 0
      have z2 : w1.cell? ⟨w.heap.size, 3, none⟩ = some (.int .i64 v) := block_cell HBX.out 3
      clear hw1
      have hs1 : (⟨#[32, 98, 101, 103, 97, 110, 32, 97, 110, 100, 32, 105, 115, 32, 111, 118, 101, 114]⟩ : ByteArray).size = 18 := rfl
      have hs2 : (⟨#[32, 40]⟩ : ByteArray).size = 2 := rfl
      have hs3 : (⟨#[41]⟩ : ByteArray).size = 1 := rfl
      have hq1 : (ru ++ (⟨#[32, 98, 101, 103, 97, 110, 32, 97, 110, 100, 32, 105, 115, 32, 111, 118, 101, 114]⟩ : ByteArray)).size = ru.size + 18 := by rw [ByteArray.size_append, hs1]
      have nb1 : ¬ 9223372036854775807 < ru.size + 18 := by omega
      have nb2 : ¬ 9223372036854775807 < ru.size + 18 + 2 := by omega
      have nb3 : ¬ 9223372036854775807 < ru.size + 20 := by omega
      have nb4 : ¬ 9223372036854775807 < ru.size + 18 + 2 + tz.size := by omega
      have nb5 : ¬ 9223372036854775807 < ru.size + 20 + tz.size := by omega
      have nb6 : ¬ 9223372036854775807 < ru.size + 18 + 2 + tz.size + 1 := by omega
      have hq2 : (ru ++ (⟨#[32, 98, 101, 103, 97, 110, 32, 97, 110, 100, 32, 105, 115, 32, 111, 118, 101, 114]⟩ : ByteArray) ++ (⟨#[32, 40]⟩ : ByteArray)).size = ru.size + 20 := by rw [ByteArray.size_append, hq1, hs2]
      have hq3 : (ru ++ (⟨#[32, 98, 101, 103, 97, 110, 32, 97, 110, 100, 32, 105, 115, 32, 111, 118, 101, 114]⟩ : ByteArray) ++ (⟨#[32, 40]⟩ : ByteArray) ++ tz).size ≤ ru.size + 85 := by rw [ByteArray.size_append, hq2]; omega
      refine wp_region_chain (fun W => W.cell? ⟨w.heap.size, 0, none⟩ = some (.string ru) ∧ W.cell? ⟨w.heap.size, 3, none⟩ = some (.int .i64 v)) 8 (by as_aux_lemma => kernel_rfl) (N := 11) (by as_aux_lemma => kernel_rfl) ?_; intro hsh
      have HS : w1.drew.cell? ⟨w.heap.size, 0, none⟩ = some (.string ru) ∧ w1.drew.cell? ⟨w.heap.size, 3, none⟩ = some (.int .i64 v) := ⟨z1, z2⟩
      refine wpAnyC_take0 (i := 0) (k := 8) (v := ?_) (d := some 17) rfl (by rfl) (by as_aux_lemma => kernel_rfl) (by as_aux_lemma => kernel_rfl) (by as_aux_lemma => kernel_rfl) hsh (by decide) (by intro _ _ _ h; exact h) (by assumption) (Or.inl ⟨by rfl, ?hy⟩) ?_; (case hy => (intro W _; go_simp; (try with_reducible rfl))); clear hsh; intro hsh
      refine wpAnyC_take (i := 1) (k := 8) (f := 40) (v := ?_) (d := some 18) rfl (by rfl) (by as_aux_lemma => kernel_rfl) (by as_aux_lemma => kernel_rfl) (by as_aux_lemma => kernel_rfl) hsh (by decide) (by as_aux_lemma => kernel_rfl) (by intro _ _ _ h; exact h) (by assumption) (Or.inl ⟨by rfl, ?hy⟩) ?_; (case hy => (rintro W ⟨y1, y2⟩; go_simp; (try with_reducible rfl))); clear hsh; intro hsh
      refine wpAnyC_take0 (i := 2) (k := 8) (v := ?_) (d := some 19) rfl (by rfl) (by as_aux_lemma => kernel_rfl) (by as_aux_lemma => kernel_rfl) (by as_aux_lemma => kernel_rfl) hsh (by decide) (by intro _ _ _ h; exact h) (by assumption) (Or.inl ⟨by rfl, ?hy⟩) ?_; (case hy => (intro W _; go_simp; (try with_reducible rfl))); clear hsh; intro hsh
      refine wpAnyC_take0 (i := 3) (k := 8) (v := ?_) (d := some 20) rfl (by rfl) (by as_aux_lemma => kernel_rfl) (by as_aux_lemma => kernel_rfl) (by as_aux_lemma => kernel_rfl) hsh (by decide) (by intro _ _ _ h; exact h) (by assumption) (Or.inl ⟨by rfl, ?hy⟩) ?_; (case hy => (intro W _; go_simp; (try with_reducible rfl))); clear hsh; intro hsh
      refine wpAnyC_take0 (i := 4) (k := 8) (v := ?_) (d := some 21) rfl (by rfl) (by as_aux_lemma => kernel_rfl) (by as_aux_lemma => kernel_rfl) (by as_aux_lemma => kernel_rfl) hsh (by decide) (by intro _ _ _ h; exact h) (by assumption) (Or.inl ⟨by rfl, ?hy⟩) ?_; (case hy => (intro W _; go_simp; (try with_reducible rfl))); clear hsh; intro hsh
      refine wpAnyC_take0 (i := 5) (k := 8) (v := ?_) (d := some 22) rfl (by rfl) (by as_aux_lemma => kernel_rfl) (by as_aux_lemma => kernel_rfl) (by as_aux_lemma => kernel_rfl) hsh (by decide) (by intro _ _ _ h; exact h) (by assumption) (Or.inl ⟨by rfl, ?hy⟩) ?_; (case hy => (intro W _; go_simp; (try with_reducible rfl))); clear hsh; intro hsh
      refine wpAnyC_take (i := 6) (k := 8) (f := 40) (v := ?_) (d := some 23) rfl (by rfl) (by as_aux_lemma => kernel_rfl) (by as_aux_lemma => kernel_rfl) (by as_aux_lemma => kernel_rfl) hsh (by decide) (by as_aux_lemma => kernel_rfl) (by intro _ _ _ h; exact h) (by assumption) (Or.inl ⟨by rfl, ?hy⟩) ?_; (case hy => (rintro W ⟨y1, y2⟩; go_simp; (try with_reducible rfl))); clear hsh; intro hsh
      refine wpAnyC_ready (rs := [7]) (by as_aux_lemma => kernel_rfl) (by simp) ?_; refine AllC.cons (i := 7) rfl (by as_aux_lemma => kernel_rfl) hsh (fun K hK => ?_) AllC.nil
      go_simp
      go_at_call 56
      refine HT.out.mono ?_
      rintro e w2 ⟨rfl, hw2⟩
      have HX2 := hide (block_below (show w1.drew.heap[w.heap.size]? = _ from HBX.out) hw2)
      have HB2 := hide (HB.out.drew.trans (hw2.mono (by have := HB.out.size; simpa using this)))
      try go_simp
      refine hK _ _ (fun _ => ⟨block_cell HX2.out 0, block_cell HX2.out 3⟩) ?_
      clear hK K hsh HS hw2
      intro hsh
      refine wpAnyC_tail (by as_aux_lemma => kernel_rfl) (by simp) (by as_aux_lemma => kernel_rfl) ?_; simp only [List.drop_succ_cons, List.drop_zero]; clear hsh
      go_wp2_with (fail)
      go_ret
      refine ⟨congrArg (fun x => Ending.returned (Value.string x)) ?_, HB2.out⟩
      refine bytes_eq ?_
      simp only [app_toList, HE.out, lineB]
      simp [wordsL]
    · go_wp2_with (fail)
      obtain ⟨w1, hw1⟩ : ∃ w1, w.alloc (.cells #[.string ru, .bool true, .bool true, .int .i64 v] 89) = w1 := ⟨_, rfl⟩
      rw [hw1] at HT HB HBX ⊢
      have z1 : w1.cell? ⟨w.heap.size, 0, none⟩ = some (.string ru) := block_cell HBX.out 0
      have z2 : w1.cell? ⟨w.heap.size, 3, none⟩ = some (.int .i64 v) := block_cell HBX.out 3
      clear hw1
      have hs1 : (⟨#[32, 98, 101, 103, 97, 110]⟩ : ByteArray).size = 6 := rfl
      have hs2 : (⟨#[32, 40]⟩ : ByteArray).size = 2 := rfl
      have hs3 : (⟨#[41]⟩ : ByteArray).size = 1 := rfl
      have hq1 : (ru ++ (⟨#[32, 98, 101, 103, 97, 110]⟩ : ByteArray)).size = ru.size + 6 := by rw [ByteArray.size_append, hs1]
      have nb1 : ¬ 9223372036854775807 < ru.size + 6 := by omega
      have nb2 : ¬ 9223372036854775807 < ru.size + 6 + 2 := by omega
      have nb3 : ¬ 9223372036854775807 < ru.size + 8 := by omega
      have nb4 : ¬ 9223372036854775807 < ru.size + 6 + 2 + tz.size := by omega
      have nb5 : ¬ 9223372036854775807 < ru.size + 8 + tz.size := by omega
      have nb6 : ¬ 9223372036854775807 < ru.size + 6 + 2 + tz.size + 1 := by omega
      have hq2 : (ru ++ (⟨#[32, 98, 101, 103, 97, 110]⟩ : ByteArray) ++ (⟨#[32, 40]⟩ : ByteArray)).size = ru.size + 8 := by rw [ByteArray.size_append, hq1, hs2]
      have hq3 : (ru ++ (⟨#[32, 98, 101, 103, 97, 110]⟩ : ByteArray) ++ (⟨#[32, 40]⟩ : ByteArray) ++ tz).size ≤ ru.size + 73 := by rw [ByteArray.size_append, hq2]; omega
      refine wp_region_chain (fun W => W.cell? ⟨w.heap.size, 0, none⟩ = some (.string ru) ∧ W.cell? ⟨w.heap.size, 3, none⟩ = some (.int .i64 v)) 8 (by as_aux_lemma => kernel_rfl) (N := 11) (by as_aux_lemma => kernel_rfl) ?_; intro hsh
      have HS : w1.drew.cell? ⟨w.heap.size, 0, none⟩ = some (.string ru) ∧ w1.drew.cell? ⟨w.heap.size, 3, none⟩ = some (.int .i64 v) := ⟨z1, z2⟩
      refine wpAnyC_take0 (i := 0) (k := 8) (v := ?_) (d := some 17) rfl (by rfl) (by as_aux_lemma => kernel_rfl) (by as_aux_lemma => kernel_rfl) (by as_aux_lemma => kernel_rfl) hsh (by decide) (by intro _ _ _ h; exact h) (by assumption) (Or.inl ⟨by rfl, ?hy⟩) ?_; (case hy => (intro W _; go_simp; (try with_reducible rfl))); clear hsh; intro hsh
      refine wpAnyC_take (i := 1) (k := 8) (f := 40) (v := ?_) (d := some 18) rfl (by rfl) (by as_aux_lemma => kernel_rfl) (by as_aux_lemma => kernel_rfl) (by as_aux_lemma => kernel_rfl) hsh (by decide) (by as_aux_lemma => kernel_rfl) (by intro _ _ _ h; exact h) (by assumption) (Or.inl ⟨by rfl, ?hy⟩) ?_; (case hy => (rintro W ⟨y1, y2⟩; go_simp; (try with_reducible rfl))); clear hsh; intro hsh
      refine wpAnyC_take0 (i := 2) (k := 8) (v := ?_) (d := some 19) rfl (by rfl) (by as_aux_lemma => kernel_rfl) (by as_aux_lemma => kernel_rfl) (by as_aux_lemma => kernel_rfl) hsh (by decide) (by intro _ _ _ h; exact h) (by assumption) (Or.inl ⟨by rfl, ?hy⟩) ?_; (case hy => (intro W _; go_simp; (try with_reducible rfl))); clear hsh; intro hsh
      refine wpAnyC_take0 (i := 3) (k := 8) (v := ?_) (d := some 20) rfl (by rfl) (by as_aux_lemma => kernel_rfl) (by as_aux_lemma => kernel_rfl) (by as_aux_lemma => kernel_rfl) hsh (by decide) (by intro _ _ _ h; exact h) (by assumption) (Or.inl ⟨by rfl, ?hy⟩) ?_; (case hy => (intro W _; go_simp; (try with_reducible rfl))); clear hsh; intro hsh
      refine wpAnyC_take0 (i := 4) (k := 8) (v := ?_) (d := some 21) rfl (by rfl) (by as_aux_lemma => kernel_rfl) (by as_aux_lemma => kernel_rfl) (by as_aux_lemma => kernel_rfl) hsh (by decide) (by intro _ _ _ h; exact h) (by assumption) (Or.inl ⟨by rfl, ?hy⟩) ?_; (case hy => (intro W _; go_simp; (try with_reducible rfl))); clear hsh; intro hsh
      refine wpAnyC_take0 (i := 5) (k := 8) (v := ?_) (d := some 22) rfl (by rfl) (by as_aux_lemma => kernel_rfl) (by as_aux_lemma => kernel_rfl) (by as_aux_lemma => kernel_rfl) hsh (by decide) (by intro _ _ _ h; exact h) (by assumption) (Or.inl ⟨by rfl, ?hy⟩) ?_; (case hy => (intro W _; go_simp; (try with_reducible rfl))); clear hsh; intro hsh
      refine wpAnyC_take (i := 6) (k := 8) (f := 40) (v := ?_) (d := some 23) rfl (by rfl) (by as_aux_lemma => kernel_rfl) (by as_aux_lemma => kernel_rfl) (by as_aux_lemma => kernel_rfl) hsh (by decide) (by as_aux_lemma => kernel_rfl) (by intro _ _ _ h; exact h) (by assumption) (Or.inl ⟨by rfl, ?hy⟩) ?_; (case hy => (rintro W ⟨y1, y2⟩; go_simp; (try with_reducible rfl))); clear hsh; intro hsh
      refine wpAnyC_ready (rs := [7]) (by as_aux_lemma => kernel_rfl) (by simp) ?_; refine AllC.cons (i := 7) rfl (by as_aux_lemma => kernel_rfl) hsh (fun K hK => ?_) AllC.nil
      go_simp
      go_at_call 56
      refine HT.out.mono ?_
      rintro e w2 ⟨rfl, hw2⟩
      have HX2 := hide (block_below (show w1.drew.heap[w.heap.size]? = _ from HBX.out) hw2)
      have HB2 := hide (HB.out.drew.trans (hw2.mono (by have := HB.out.size; simpa using this)))
      try go_simp
      refine hK _ _ (fun _ => ⟨block_cell HX2.out 0, block_cell HX2.out 3⟩) ?_
      clear hK K hsh HS hw2
      intro hsh
      refine wpAnyC_tail (by as_aux_lemma => kernel_rfl) (by simp) (by as_aux_lemma => kernel_rfl) ?_; simp only [List.drop_succ_cons, List.drop_zero]; clear hsh
      go_wp2_with (fail)
      go_ret
      refine ⟨congrArg (fun x => Ending.returned (Value.string x)) ?_, HB2.out⟩
      refine bytes_eq ?_
      simp only [app_toList, HE.out, lineB]
      simp [wordsL]
end Go.Proofs.YtnkccilgbhogbaaDoor

/- A map from strings to their places in a list. No program. -/
namespace Go.Proofs.YtnkccilgbhogbaaDoor
open Go.RowKit Go.Maps
/-- The map that has each of ks at its place, from place i on. -/
def idxFrom (D : DataW Unit) : Nat → List (List UInt8) → DataW Unit
  | _, [] => D
  | i, s :: ks => idxFrom (D.put (.string s) (.lit (.int .i64 i))) (i + 1) ks
def idxD (ks : List (List UInt8)) : DataW Unit := idxFrom (.map []) 0 ks
theorem idxFrom_snoc : ∀ (ks : List (List UInt8)) (D : DataW Unit) (i : Nat) (s : List UInt8), idxFrom D i (ks ++ [s]) = (idxFrom D i ks).put (.string s) (.lit (.int .i64 ((i + ks.length : Nat) : Int)))
  | [], D, i, s => by simp [idxFrom]
  | x :: ks, D, i, s => by
    rw [List.cons_append, idxFrom, idxFrom_snoc ks, idxFrom, List.length_cons, show i + 1 + ks.length = i + (ks.length + 1) by omega]
theorem idxD_snoc (ks : List (List UInt8)) (s : List UInt8) : idxD (ks ++ [s]) = (idxD ks).put (.string s) (.lit (.int .i64 (ks.length : Nat))) := by
  unfold idxD; rw [idxFrom_snoc, Nat.zero_add]
theorem isMap_idxD (ks : List (List UInt8)) : IsMap (idxD ks) :=
  snoc_ind (P := fun ks => IsMap (idxD ks)) isMap_empty (fun l x ih => by rw [idxD_snoc]; exact ih.put _ _) ks
theorem idxD_has (ks : List (List UInt8)) (s : List UInt8) : Maps.has (idxD ks) (.string s) = ks.contains s := by
  refine snoc_ind (P := fun ks => Maps.has (idxD ks) (.string s) = ks.contains s) rfl (fun l x ih => ?_) ks
  rw [idxD_snoc]
  by_cases h : s = x
  · subst h
    rw [has_put_same (isMap_idxD l) (show WideAt.IsKeyLit (Lit.string s) from trivial)]
    simp
  · rw [has_put_other (by intro e; injection e with e; exact h e), ih]
    simp [h]
theorem idxD_at (ks : List (List UInt8)) (s : List UInt8) (z : DataW Unit) (hn : ks.Nodup) : ∀ i, ks[i]? = some s → (idxD ks).atKey (.string s) z = .lit (.int .i64 (i : Nat)) := by
  revert hn
  refine snoc_ind (P := fun ks => ks.Nodup → ∀ i, ks[i]? = some s → (idxD ks).atKey (.string s) z = .lit (.int .i64 (i : Nat))) (fun _ i h => by simp at h) (fun l x ih hn i hi => ?_) ks
  rw [idxD_snoc]
  rw [List.nodup_append] at hn
  by_cases h : s = x
  · subst h
    rw [atKey_put_same (isMap_idxD l) (show WideAt.IsKeyLit (Lit.string s) from trivial)]
    by_cases hl : i < l.length
    · rw [List.getElem?_append_left hl] at hi
      exact absurd rfl (hn.2.2 s (List.mem_of_getElem? hi) s (by simp))
    · by_cases hl2 : i = l.length
      · subst hl2; rfl
      · rw [List.getElem?_eq_none (by simp; omega)] at hi; cases hi
  · rw [atKey_put_other (by intro e; injection e with e; exact h e)]
    refine ih hn.1 i ?_
    by_cases hl : i < l.length
    · rwa [List.getElem?_append_left hl] at hi
    · by_cases hl2 : i = l.length
      · subst hl2; simp at hi; exact absurd hi.symm h
      · rw [List.getElem?_eq_none (by simp; omega)] at hi; cases hi
end Go.Proofs.YtnkccilgbhogbaaDoor

/- Walk of CheckRules (printed by gen_a2.py). -/
namespace Go.Proofs.YtnkccilgbhogbaaDoor
open Go.RowKit Go.Maps
set_option linter.unusedVariables false
theorem law_str : Keyed Tryd.prog 9 := string_keyed Tryd.underlying9
theorem zero_bool (w : World) : (zeroValue 4).run Tryd.prog w = .ok (.bool false) w := by kernel_rfl
/-- The first k names lie in the map at block B. -/
def HasNames (w : World) (B : Nat) (l : List Rl) (k : Nat) : Prop := w.ownsMap (H := Unit) Tryd.prog 9 (plainElem Tryd.prog 4) B k (seenD (rlKeys (l.take k)))
theorem rlKeys_snoc {l : List Rl} {k : Nat} {x : Rl} (hx : l[k]? = some x) : rlKeys (l.take (k + 1)) = rlKeys (l.take k) ++ [x.name.data.toList] := by
  rw [take_succ_get hx]; simp [rlKeys]
theorem key_of (s : ByteArray) (h : s.size ≤ maxLen) : keyOf Tryd.prog 9 (.string s) = some (.string s.data.toList) := Go.WideMaps.keyOf_string_mk Tryd.underlying9 h
theorem grown_of_below {w w' : World} (h : Below w.heap.size w w') : w.grownBy w' none := ⟨h.os, h.tape, h.output, h.size, fun k hk _ => h.block k hk⟩
end Go.Proofs.YtnkccilgbhogbaaDoor

/- Walk of the program's Lines. -/
namespace Go.Proofs.YtnkccilgbhogbaaDoor
open Go.RowKit
set_option linter.unusedVariables false
set_option linter.unusedSimpArgs false
/-- The keys of a map of names. -/
def kyL (l : List ByteArray) : List (List UInt8) := l.map fun s => s.data.toList
theorem ky_inj {a b : ByteArray} (h : a.data.toList = b.data.toList) : a = b := by rw [bytes_eq h]
theorem ky_nodup {l : List ByteArray} (h : l.Nodup) : (kyL l).Nodup := by
  unfold kyL
  rw [List.nodup_iff_pairwise_ne] at h ⊢
  rw [List.pairwise_map]
  exact h.imp fun hne e => hne (ky_inj e)
theorem ky_mem {l : List ByteArray} {s : ByteArray} : (kyL l).contains s.data.toList = true ↔ s ∈ l := by
  unfold kyL
  rw [List.contains_iff_mem, List.mem_map]
  constructor
  · rintro ⟨a, ha, h⟩; rw [← ky_inj h]; exact ha
  · intro h; exact ⟨s, h, rfl⟩
theorem info_summed : (Tryd.prog.info? 89).map (fun i => (i.zero, i.size, i.bytes)) = some (some (.agg #[.string ByteArray.empty, .bool false, .bool false, .int .i64 0]), 4, 32) := by kernel_rfl
theorem info_strA : (Tryd.prog.info? 9).map (fun i => (i.zero, i.size, i.bytes)) = some (some (.string ByteArray.empty), 1, 16) := by kernel_rfl
def NtFit (l : List Nt) : Prop := ∀ x ∈ l, x.rule.size ≤ 4611686018427387904 ∧ -9223372036854775808 ≤ x.value ∧ x.value ≤ 9223372036854775807
theorem smO_fit (r : ByteArray) (l : List Nt) : NtFit l → ∀ s, smO r l = some s → s.rule.size ≤ 4611686018427387904 ∧ -9223372036854775808 ≤ s.value ∧ s.value ≤ 9223372036854775807 := by
  refine mem_ind (P := fun l => NtFit l → ∀ s, smO r l = some s → s.rule.size ≤ 4611686018427387904 ∧ -9223372036854775808 ≤ s.value ∧ s.value ≤ 9223372036854775807) (by simp [smO, ofR]) (fun l x ih hf s hs => ?_) l
  have hx := hf x (by simp)
  have ih := ih (fun y hy => hf y (by simp [hy]))
  rw [smO_snoc] at hs
  split at hs
  · unfold smAcc at hs
    split at hs
    · simp at hs; rw [← hs]; exact hx
    · rename_i s' hs'
      have := ih _ hs'
      simp at hs; rw [← hs]
      refine ⟨this.1, ?_, ?_⟩ <;> (simp only; omega)
  · exact ih _ hs
theorem smL_fit {l : List Nt} (hf : NtFit l) : ∀ s ∈ smL l, s.rule.size ≤ 4611686018427387904 ∧ -9223372036854775808 ≤ s.value ∧ s.value ≤ 9223372036854775807 := by
  intro s hs
  obtain ⟨r, hr, rfl⟩ := List.mem_map.1 hs
  obtain ⟨s, hs⟩ := smO_some r l hr
  rw [smOf, hs]
  exact smO_fit r l hf s hs
theorem zero_intM (w : World) : (zeroValue 3).run Tryd.prog w = .ok (.int .i64 0) w := by kernel_rfl
/-- What Lines has in memory when j notices are done: the row of sums, the map of places, the box of the post. -/
structure LnI (B : Nat) (A : Option Addr) (n cap : Nat) (no tr nx : Int) (l : List Nt) (w0 : World) (j : Nat) (lv : Value) (w : World) : Prop where
  box : w.heap[B]? = some (.cells #[.int .i64 no, .slice A n cap, .int .i64 tr, .int .i64 nx] 41 (0, 0))
  map_ : w.ownsMap (H := Unit) Tryd.prog 9 (plainElem Tryd.prog 3) (B + 1) (ruN (l.take j)).length (idxD (kyL (ruN (l.take j))))
  row : w.ownsRow (B + 2) 89 4 lv (ruN (l.take j)).length ((smL (l.take j)).flatMap Sm.cs)
  be : Below B w0 w
section
variable {B : Nat} {A : Option Addr} {n cap : Nat} {no tr nx : Int} {l : List Nt} {w0 w w' : World} {j : Nat} {lv : Value}
theorem LnI.below (h : LnI B A n cap no tr nx l w0 j lv w) (hB : B ≤ w.heap.size) (hb : Below w.heap.size w w') : LnI B A n cap no tr nx l w0 j lv w' :=
  ⟨block_below h.box hb, h.map_.kept (grown_of_below hb) (by simp), own_below h.row hb, h.be.trans (hb.mono hB)⟩
end
theorem map_made {H : Type} {P : Program} {k : TypeId} {R : Value → Option (DataW H × List MemPlace)} (w : World) (b : Nat) (D : DataW H) (hb : b = w.heap.size) (hD : D = .map [] := by rfl) : (w.alloc (.map #[] 0)).ownsMap P k R b 0 D := by
  subst hb; subst hD; exact World.ownsMap_made w P k R
theorem ownsMap_but {H : Type} {P : Program} {k : TypeId} {R : Value → Option (DataW H × List MemPlace)} {b n c : Nat} {D : DataW H} {w w' : World} (h : w.ownsMap P k R b n D) (hb : ButAt c w w') (hne : b ≠ c) : w'.ownsMap P k R b n D := by
  obtain ⟨es, ck, h1, h2⟩ := h
  exact ⟨es, ck, hb.keep _ _ h1 hne, h2⟩
theorem ButAt.drew {c : Nat} {w w' : World} (h : ButAt c w w') : ButAt c w w'.drew := ⟨h.be.drew, h.keep⟩
theorem LnI.step {B : Nat} {A : Option Addr} {n cap : Nat} {no tr nx : Int} {l : List Nt} {w0 w w' : World} {j rb k oc : Nat} (h : LnI B A n cap no tr nx l w0 j (.slice (some ⟨rb, 0, none⟩) k oc) w) (hb : ButAt rb w w') (hrb : ∃ cur, w.heap[rb]? = some (.cells cur 89 (0, 0))) (hB : B ≤ rb)
    (hr : w'.ownsRow (B + 2) 89 4 (.slice (some ⟨rb, 0, none⟩) k oc) (ruN (l.take (j + 1))).length ((smL (l.take (j + 1))).flatMap Sm.cs)) (hn : ruN (l.take (j + 1)) = ruN (l.take j)) : LnI B A n cap no tr nx l w0 (j + 1) (.slice (some ⟨rb, 0, none⟩) k oc) w' := by
  obtain ⟨cur, hc⟩ := hrb
  refine ⟨hb.keep _ _ h.box (fun e => ?_), ?_, hr, h.be.trans (hb.be.mono hB)⟩
  · have h1 := h.box
    rw [e, hc] at h1
    simp at h1
  · rw [hn]
    refine ownsMap_but h.map_ hb (fun e => ?_)
    obtain ⟨es, ck, h1, _⟩ := h.map_
    rw [e, hc] at h1
    simp at h1
theorem sm_set (l : List Sm) (i : Nat) (x : Sm) (hx : l[i]? = some x) (b : Bool) (v : Int) : (l.set i ⟨x.rule, x.first, b, v⟩).flatMap Sm.cs = ((l.flatMap Sm.cs).set (i * 4 + 2) (.bool b)).set (i * 4 + 3) (.int .i64 v) := by
  have hf : ∀ a : Sm, a.cs.length = 4 := fun _ => rfl
  have hi : i < l.length := (List.getElem?_eq_some_iff.1 hx).1
  have h1 := fm_set hf l i 2 x ⟨x.rule, x.first, b, x.value⟩ (.bool b) (by omega) hx rfl
  have h2 := fm_set hf (l.set i ⟨x.rule, x.first, b, x.value⟩) i 3 ⟨x.rule, x.first, b, x.value⟩ ⟨x.rule, x.first, b, v⟩ (.int .i64 v) (by omega) (by simp [hi]) rfl
  rw [List.set_set] at h2
  rw [h2, h1]
theorem sm_cells {m : List Sm} {i : Nat} {y : Sm} (hy : m[i]? = some y) (r : Nat) (hr : r < 4) : (m.flatMap Sm.cs)[i * 4 + r]? = y.cs[r]? := by
  have hf : ∀ a : Sm, a.cs.length = 4 := fun _ => rfl
  rw [fm_get hf m i r hr, hy]; rfl
set_option maxRecDepth 100000 in
set_option maxHeartbeats 8000000 in
theorem Lines_any (no tr nx : Int) (A : Option Addr) (n cap : Nat) (l : List Nt) (w : World) (hn : n ≤ 3518437208780) (hl : Sl w w.heap.size Nt.cs 4 A n l) (hf : ∀ x ∈ l, x.rule.size ≤ 4611686018427387904 ∧ -9223372036854775808 ≤ x.value ∧ x.value ≤ 9223372036854775807) (htab : Lib.TabIs Tryd.prog w "internal/strconv.uint64pow10" .u64 Lib.pow10Tab) :
    Calls Tryd.prog 41 #[.agg #[.int .i64 no, .slice A n cap, .int .i64 tr, .int .i64 nx]] w fun e w' => ∃ v, e = .returned v ∧ w'.ownsRow w.heap.size 9 1 v (smL l).length ((smL l).flatMap fun s => [.string (lineB s)]) ∧ Below w.heap.size w w' := by
  obtain ⟨i0, hi0, iz0, iz1, iz2⟩ := info_parts info_summed
  obtain ⟨j0, hj0, jz0, jz1, jz2⟩ := info_parts info_strA
  have HL := hide hl.len
  have HSL := hide hl
  have HF := hide hf
  have HT := hide htab
  clear hl hf htab
  have hmm := @run_makeMap Tryd.prog
  go_enter Tryd.func41, Tryd.ntmps41
  go_wp2_with (fail)
  clear hmm
  go_loopw [4, 16] (fun lv i wr => ∃ j : Nat, j ≤ n ∧ i = .int .i64 j ∧ LnI w.heap.size A n cap no tr nx l w j lv wr) (fun _ i _ => n - (intOf i).toNat)
  case atStart => exact ⟨0, Nat.zero_le _, rfl, ⟨block_below (heap_alloc_new w _) ((Below.refl _ _).alloc (Nat.le_refl _) _), map_made _ _ _ (by simp), World.ownsRow_nil _ _ _ _, ((Below.refl _ _).alloc (Nat.le_refl _) _).alloc (by simp) _⟩⟩
  case round =>
    obtain ⟨j, hj, rfl, hI⟩ := hrel
    have hz := hI.be.size
    have hbz := lt_of_block hI.box
    by_cases hlt : j < n
    · obtain ⟨bb, oo, ⟨nt, ru, kd, va⟩, rfl, hbb, hx, hc⟩ := (HSL.out.below hI.be).at_ hlt
      have c0 : wr.cell? ⟨bb, oo + j * 4, none⟩ = some (.int .i64 nt) := by simpa using hc 0 _ rfl
      have c1 : wr.cell? ⟨bb, oo + j * 4 + 1, none⟩ = some (.string ru) := hc 1 _ rfl
      have c2 : wr.cell? ⟨bb, oo + j * 4 + 2, none⟩ = some (.int .i64 kd) := hc 2 _ rfl
      have c3 : wr.cell? ⟨bb, oo + j * 4 + 3, none⟩ = some (.int .i64 va) := hc 3 _ rfl
      obtain ⟨hru, hv0, hv1⟩ := HF.out _ (List.mem_of_getElem? hx)
      simp only at hru hv0 hv1
      obtain ⟨b, hkb⟩ : ∃ b, (kd == 1) = b := ⟨_, rfl⟩
      have hbg : began ⟨nt, ru, kd, va⟩ = b := by rw [← hkb]; unfold began; cases h : (kd == 1) <;> simp_all
      have hba : Below wr.heap.size wr (wr.alloc (.cells #[.int .i64 nt, .string ru, .int .i64 kd, .int .i64 va] 51)) := (Below.refl _ _).alloc (Nat.le_refl _) _
      have HN := hide (heap_alloc_new wr (.cells #[.int .i64 nt, .string ru, .int .i64 kd, .int .i64 va] 51))
      have HI := hide (hI.below (by omega) hba)
      have HTK := hide (take_succ_get hx)
      have hrm : ru.size ≤ maxLen := by unfold maxLen; omega
      have HKY := hide (key_of ru hrm)
      obtain ⟨ao, oc, hlv⟩ := own_sl hI.row
      subst hlv
      clear hI hc hx hba
      by_cases hmem : ru ∈ ruN (l.take j)
      · obtain ⟨i, hi⟩ := List.getElem?_of_mem hmem
        obtain ⟨s, hsi, hsr, hso, hnn⟩ := smL_old (l.take j) ⟨nt, ru, kd, va⟩ i hi
        rw [hbg] at hso
        have hil := (List.getElem?_eq_some_iff.1 hi).1
        have HHAS := hide (show Maps.has (idxD (kyL (ruN (l.take j)))) (.string ru.data.toList) = true by rw [idxD_has]; exact ky_mem.2 hmem)
        have HAT := hide (show ∀ c : Int, (idxD (kyL (ruN (l.take j)))).atKey (.string ru.data.toList) (.lit (.int .i64 0)) = .lit (.int .i64 c) → c = (i : Int) from fun c h => by
          rw [idxD_at _ _ _ (ky_nodup (nodup_ruN _)) i (by unfold kyL; rw [List.getElem?_map, hi]; rfl)] at h
          injection h with h; injection h with h1 h2; exact h2.symm)
        obtain ⟨rb, cap', cur, hv, hbr, hblk, _⟩ := own_blk HI.out.row (by omega)
        simp only [Value.slice.injEq, true_and] at hv
        obtain ⟨rfl, rfl⟩ := hv
        have q := fun (r : Nat) (hr : r < 4) (u : Value) (hu : s.cs[r]? = some u) => own_cell HI.out.row _ _ ((sm_cells hsi r hr).trans hu)
        have r2 : (wr.alloc (.cells #[.int .i64 nt, .string ru, .int .i64 kd, .int .i64 va] 51)).cell? ⟨rb, i * 4 + 2, none⟩ = some (.bool s.last) := q 2 (by omega) _ rfl
        have r3 : (wr.alloc (.cells #[.int .i64 nt, .string ru, .int .i64 kd, .int .i64 va] 51)).cell? ⟨rb, i * 4 + 3, none⟩ = some (.int .i64 s.value) := q 3 (by omega) _ rfl
        have f2 : (wr.alloc (.cells #[.int .i64 nt, .string ru, .int .i64 kd, .int .i64 va] 51)).frozen? ⟨rb, i * 4 + 2, none⟩ = false := own_free HI.out.row _
        have hik : (i : Int) < ((ruN (l.take j)).length : Int) := by omega
        have HSI := hide hsi
        have HSO := hide hso
        have HNN := hide hnn
        have HBLK := hide hblk
        clear q hsi hso hnn hblk hi hmem hsr
        go_wp2_with (at_lookup; refine Go.wpList_lookup_own_ok_int _ rfl _ _ 85 rfl 9 3 .i64 law_str Tryd.underlying85 Tryd.underlying3 (zero_intM _) (w.heap.size + 1) _ _ rfl HI.out.map_ (.string ru) _ rfl HKY.out ?_; intro c hat hwc; obtain rfl := HAT.out c hat; rw [HHAS.out])
        have HI2 := hide (show ButAt rb (wr.alloc (.cells #[.int .i64 nt, .string ru, .int .i64 kd, .int .i64 va] 51)) ((wr.alloc (.cells #[.int .i64 nt, .string ru, .int .i64 kd, .int .i64 va] 51)).setCell ⟨rb, i * 4 + 2, none⟩ (.bool b)) from ButAt.set _ _ _)
        have HR2 := hide (own_set HI.out.row (i * 4 + 2) (.bool b))
        have hne : wr.heap.size ≠ rb := by have := lt_of_block HBLK.out; intro e; have h1 := HN.out; rw [e] at h1; have h2 := HBLK.out; rw [h1] at h2; simp at h2
        have HN2 := hide (block_set_other HN.out ⟨rb, i * 4 + 2, none⟩ (.bool b) hne)
        have x3 : ((wr.alloc (.cells #[.int .i64 nt, .string ru, .int .i64 kd, .int .i64 va] 51)).setCell ⟨rb, i * 4 + 2, none⟩ (.bool b)).cell? ⟨rb, i * 4 + 3, none⟩ = some (.int .i64 s.value) := by
          rw [World.cell?_setCell_other _ _ _ _ (by simp)]; exact r3
        have xf : ((wr.alloc (.cells #[.int .i64 nt, .string ru, .int .i64 kd, .int .i64 va] 51)).setCell ⟨rb, i * 4 + 2, none⟩ (.bool b)).frozen? ⟨rb, i * 4 + 3, none⟩ = false := own_free HR2.out _
        obtain ⟨w2, hw2⟩ : ∃ w2, (wr.alloc (.cells #[.int .i64 nt, .string ru, .int .i64 kd, .int .i64 va] 51)).setCell ⟨rb, i * 4 + 2, none⟩ (.bool b) = w2 := ⟨_, rfl⟩
        rw [hw2] at HI2 HR2 HN2 x3 xf ⊢
        clear hw2 r2 r3 f2 c0 c1 c2 c3
        refine wp_region_chain (fun W => W.cell? ⟨rb, i * 4 + 3, none⟩ = some (.int .i64 s.value) ∧ W.cell? ⟨wr.heap.size, 3, none⟩ = some (.int .i64 va)) 12 (by as_aux_lemma => kernel_rfl) (N := 13) (by as_aux_lemma => kernel_rfl) ?_; intro hsh
        have HS : w2.drew.cell? ⟨rb, i * 4 + 3, none⟩ = some (.int .i64 s.value) ∧ w2.drew.cell? ⟨wr.heap.size, 3, none⟩ = some (.int .i64 va) := ⟨x3, block_cell HN2.out 3⟩
        refine wpAnyC_take0 (i := 0) (k := 12) (v := ?_) (d := some 53) rfl (by rfl) (by as_aux_lemma => kernel_rfl) (by as_aux_lemma => kernel_rfl) (by as_aux_lemma => kernel_rfl) hsh (by decide) (by intro _ _ _ h; exact h) (by assumption) (Or.inl ⟨by rfl, ?hy⟩) ?_; (case hy => (intro W _; go_simp; (try with_reducible rfl))); clear hsh; intro hsh
        refine wpAnyC_take0 (i := 1) (k := 12) (v := ?_) (d := some 54) rfl (by rfl) (by as_aux_lemma => kernel_rfl) (by as_aux_lemma => kernel_rfl) (by as_aux_lemma => kernel_rfl) hsh (by decide) (by intro _ _ _ h; exact h) (by assumption) (Or.inl ⟨by rfl, ?hy⟩) ?_; (case hy => (intro W _; go_simp; (try with_reducible rfl))); clear hsh; intro hsh
        refine wpAnyC_take0 (i := 2) (k := 12) (v := ?_) (d := some 55) rfl (by rfl) (by as_aux_lemma => kernel_rfl) (by as_aux_lemma => kernel_rfl) (by as_aux_lemma => kernel_rfl) hsh (by decide) (by intro _ _ _ h; exact h) (by assumption) (Or.inl ⟨by rfl, ?hy⟩) ?_; (case hy => (intro W _; go_simp; (try with_reducible rfl))); clear hsh; intro hsh
        refine wpAnyC_take0 (i := 3) (k := 12) (v := ?_) (d := some 56) rfl (by rfl) (by as_aux_lemma => kernel_rfl) (by as_aux_lemma => kernel_rfl) (by as_aux_lemma => kernel_rfl) hsh (by decide) (by intro _ _ _ h; exact h) (by assumption) (Or.inl ⟨by rfl, ?hy⟩) ?_; (case hy => (intro W _; go_simp; (try with_reducible rfl))); clear hsh; intro hsh
        refine wpAnyC_take0 (i := 4) (k := 12) (v := ?_) (d := some 57) rfl (by rfl) (by as_aux_lemma => kernel_rfl) (by as_aux_lemma => kernel_rfl) (by as_aux_lemma => kernel_rfl) hsh (by decide) (by intro _ _ _ h; exact h) (by assumption) (Or.inl ⟨by rfl, ?hy⟩) ?_; (case hy => (intro W _; go_simp; (try with_reducible rfl))); clear hsh; intro hsh
        refine wpAnyC_take0 (i := 5) (k := 12) (v := ?_) (d := some 58) rfl (by rfl) (by as_aux_lemma => kernel_rfl) (by as_aux_lemma => kernel_rfl) (by as_aux_lemma => kernel_rfl) hsh (by decide) (by intro _ _ _ h; exact h) (by assumption) (Or.inl ⟨by rfl, ?hy⟩) ?_; (case hy => (intro W _; go_simp; (try with_reducible rfl))); clear hsh; intro hsh
        refine wpAnyC_take (i := 6) (k := 12) (f := 40) (v := ?_) (d := some 59) rfl (by rfl) (by as_aux_lemma => kernel_rfl) (by as_aux_lemma => kernel_rfl) (by as_aux_lemma => kernel_rfl) hsh (by decide) (by as_aux_lemma => kernel_rfl) (by intro _ _ _ h; exact h) (by assumption) (Or.inl ⟨by rfl, ?hy⟩) ?_; (case hy => (rintro W ⟨y0, y1⟩; go_simp; (try with_reducible rfl))); clear hsh; intro hsh
        refine wpAnyC_take0 (i := 7) (k := 12) (v := ?_) (d := some 60) rfl (by rfl) (by as_aux_lemma => kernel_rfl) (by as_aux_lemma => kernel_rfl) (by as_aux_lemma => kernel_rfl) hsh (by decide) (by intro _ _ _ h; exact h) (by assumption) (Or.inl ⟨by rfl, ?hy⟩) ?_; (case hy => (intro W _; go_simp; (try with_reducible rfl))); clear hsh; intro hsh
        refine wpAnyC_take (i := 8) (k := 12) (f := 40) (v := ?_) (d := some 61) rfl (by rfl) (by as_aux_lemma => kernel_rfl) (by as_aux_lemma => kernel_rfl) (by as_aux_lemma => kernel_rfl) hsh (by decide) (by as_aux_lemma => kernel_rfl) (by intro _ _ _ h; exact h) (by assumption) (Or.inl ⟨by rfl, ?hy⟩) ?_; (case hy => (rintro W ⟨y0, y1⟩; go_simp; (try with_reducible rfl))); clear hsh; intro hsh
        refine wpAnyC_take0 (i := 9) (k := 12) (v := ?_) (d := some 62) rfl (by rfl) (by as_aux_lemma => kernel_rfl) (by as_aux_lemma => kernel_rfl) (by as_aux_lemma => kernel_rfl) hsh (by decide) (by intro _ _ _ h; exact h) (by assumption) (Or.inl ⟨by rfl, ?hy⟩) ?_; (case hy => (intro W _; go_simp; (try with_reducible rfl))); clear hsh; intro hsh
        refine wpAnyC_take0 (i := 10) (k := 12) (v := ?_) (d := some 63) rfl (by rfl) (by as_aux_lemma => kernel_rfl) (by as_aux_lemma => kernel_rfl) (by as_aux_lemma => kernel_rfl) hsh (by decide) (by intro _ _ _ h; exact h) (by assumption) (Or.inl ⟨by rfl, ?hy⟩) ?_; (case hy => (intro W _; go_simp; (try with_reducible rfl))); clear hsh; intro hsh
        refine wpAnyC_take0 (i := 11) (k := 12) (v := ?_) (d := some 64) rfl (by rfl) (by as_aux_lemma => kernel_rfl) (by as_aux_lemma => kernel_rfl) (by as_aux_lemma => kernel_rfl) hsh (by decide) (by intro _ _ _ h; exact h) (by assumption) (Or.inl ⟨by rfl, ?hy⟩) ?_; (case hy => (intro W _; go_simp; (try with_reducible rfl))); clear hsh; intro hsh
        refine wpAnyC_tail (by as_aux_lemma => kernel_rfl) (by simp) (by as_aux_lemma => kernel_rfl) ?_; simp only [List.drop_succ_cons, List.drop_zero]; clear hsh
        have y3 : w2.drew.cell? ⟨rb, i * 4 + 3, none⟩ = some (.int .i64 s.value) := x3
        have yf : w2.drew.frozen? ⟨rb, i * 4 + 3, none⟩ = false := xf
        go_wp2_with (fail)
        go_roundw
        case rel =>
          refine ⟨j + 1, by omega, by go_num, LnI.step HI.out (HI2.out.trans (ButAt.set w2 (i * 4 + 3) _)).drew ⟨_, HBLK.out⟩ (by omega) ?_ (by rw [HTK.out]; exact HNN.out)⟩
          rw [HTK.out, HNN.out, HSO.out, sm_set _ _ _ HSI.out]
          exact own_set HR2.out (i * 4 + 3) _
        case measure => simp [intOf]; omega
      · have hkn : (ruN (l.take j)).length ≤ j := Nat.le_trans (ruN_len _) (by rw [List.length_take]; omega)
        obtain ⟨hso, hnn⟩ := smL_new (l.take j) ⟨nt, ru, kd, va⟩ hmem
        rw [hbg] at hso
        have HHAS := hide (show Maps.has (idxD (kyL (ruN (l.take j)))) (.string ru.data.toList) = false by
          rw [idxD_has, Bool.eq_false_iff]; exact fun h => hmem (ky_mem.1 h))
        have hlr : (smL (l.take j)).length = (ruN (l.take j)).length := by unfold smL; rw [List.length_map]
        obtain ⟨k, hk⟩ : ∃ k, (ruN (l.take j)).length = k := ⟨_, rfl⟩
        have HSO := hide hso
        have HNN := hide hnn
        have hmap := HI.out.map_
        have hrow := HI.out.row
        have hbox := HI.out.box
        have hbe := HI.out.be
        rw [hk] at hmap hrow hkn hlr ⊢
        have HMP := hide hmap
        have HRW := hide hrow
        have HBX := hide hbox
        have HBE := hide hbe
        have hbm := World.ownsMap.lt HMP.out
        have hbm2 : w.heap.size + 1 < wr.heap.size := by
          rcases Nat.lt_or_ge (w.heap.size + 1) wr.heap.size with h | h
          · exact h
          · have h0 : wr.heap.size = w.heap.size + 1 := by simp at hbm; omega
            obtain ⟨es, ck, h1, _⟩ := HMP.out
            have h2 := HN.out
            rw [h0, h1] at h2
            simp at h2
        have hwf : (Lit.int .i64 (k : Int)).wf = true := by
          rw [Lit.wf]
          simp only [Bool.and_eq_true, decide_eq_true_eq]
          exact ⟨show (-9223372036854775808 : Int) ≤ _ by omega, show _ ≤ (9223372036854775807 : Int) by omega⟩
        clear hso hnn hmem hmap hrow hbox hbe HI
        go_wp2_with (first | (at_lookup; refine Go.wpList_lookup_own_ok_int _ rfl _ _ 85 rfl 9 3 .i64 law_str Tryd.underlying85 Tryd.underlying3 (zero_intM _) (w.heap.size + 1) _ _ rfl HMP.out (.string ru) _ rfl HKY.out ?_; intro c hat hwc; rw [HHAS.out]) | (at_mapUpdate; refine wpList_mapUpdate_own _ rfl _ _ _ 85 rfl 9 3 law_str Tryd.underlying85 _ (w.heap.size + 1) k _ rfl HMP.out (by unfold maxLen; omega) _ _ _ rfl rfl HKY.out _ [] (Go.plainElem_int Tryd.underlying3 hwf) ?_; intro w2 hown2 hg2; have HM2 := hide hown2; have HB2 := hide (show w2.heap[w.heap.size]? = _ from (hg2.block w.heap.size (lt_of_block HBX.out) (by simp)).trans HBX.out); have HN2 := hide ((hg2.block wr.heap.size (lt_of_block HN.out) (by simp; omega)).trans HN.out); have HR2 := hide (HRW.out.kept hg2 (.inr (fun e => by have := (HRW.out.lt _ e).1; omega))); have HE2 := hide (HBE.out.grown hg2 (by simp; omega) (fun k hk => by cases hk; omega)); have n1 : w2.cell? ⟨wr.heap.size, 1, none⟩ = some (.string ru) := block_cell HN2.out 1; have n2 : w2.cell? ⟨wr.heap.size, 2, none⟩ = some (.int .i64 kd) := block_cell HN2.out 2; have n3 : w2.cell? ⟨wr.heap.size, 3, none⟩ = some (.int .i64 va) := block_cell HN2.out 3; clear hown2) | (at_builtin; refine wpList_append_own _ rfl (.tmp 35) (.tmp 44) 86 rfl (w.heap.size + 2) 89 i0 (.agg #[.string ByteArray.empty, .bool false, .bool false, .int .i64 0]) 4 32 Tryd.underlying86 hi0 iz0 iz1 iz2 rfl (by decide) _ k _ rfl (HR2.out.alloc _) ⟨w2.heap.size, 0, none⟩ 1 1 [.string ru, .bool b, .bool false, .int .i64 va] (by rfl) rfl (cells_at w2 [.string ru, .bool b, .bool false, .int .i64 va] _ _ rfl) (by intro u hu; simp at hu; rcases hu with rfl | rfl | rfl | rfl <;> rfl) (by unfold maxLen; omega) (by omega) (by simp; have := HE2.out.size; have := lt_of_block HN2.out; omega) ?_; intro v3 w3 hown3 hg3 _; obtain ⟨g3, q3, cur3, rfl, hb3, hblk3, _⟩ := own_blk hown3 (by omega); have hab := (Below.refl w2.heap.size w2).alloc (Nat.le_refl _) (.cells #[.string ru, .bool b, .bool false, .int .i64 va] 89); have HN3 := hide ((hg3.block wr.heap.size (lt_of_block (block_below HN2.out hab)) (fun e => own_other' (HR2.out.alloc _) (block_below HN2.out hab) (by decide) e.symm)).trans (block_below HN2.out hab)); have HB3 := hide ((hg3.block w.heap.size (lt_of_block (block_below HB2.out hab)) (fun e => own_other' (HR2.out.alloc _) (block_below HB2.out hab) (by decide) e.symm)).trans (block_below HB2.out hab)); have HM3 := hide ((HM2.out.alloc (.cells #[.string ru, .bool b, .bool false, .int .i64 va] 89)).kept hg3 (fun e => by have := ((HR2.out.alloc (.cells #[.string ru, .bool b, .bool false, .int .i64 va] 89)).lt _ e.symm).1; omega)); have HE3 := hide ((HE2.out.trans (hab.mono HE2.out.size)).grown hg3 (by simp; have := HE2.out.size; omega) (fun k hk => by have := ((HR2.out.alloc (.cells #[.string ru, .bool b, .bool false, .int .i64 va] 89)).lt _ hk).1; omega)); have ho3 : w3.ownsRow (w.heap.size + 2) 89 4 (.slice (some ⟨g3, 0, none⟩) (k + 1) q3) (k + 1) ((smL (l.take j) ++ [(⟨ru, b, false, va⟩ : Sm)]).flatMap Sm.cs) := (by simpa [Sm.cs] using hown3); have hgk : (smL (l.take j) ++ [(⟨ru, b, false, va⟩ : Sm)])[k]? = some ⟨ru, b, false, va⟩ := (by rw [← hlr]; simp); have q := fun (r : Nat) (hr : r < 4) (u : Value) (hu : (⟨ru, b, false, va⟩ : Sm).cs[r]? = some u) => own_cell ho3 _ _ ((sm_cells hgk r hr).trans hu); have m2 : w3.cell? ⟨wr.heap.size, 2, none⟩ = some (.int .i64 kd) := block_cell HN3.out 2; have m3 : w3.cell? ⟨wr.heap.size, 3, none⟩ = some (.int .i64 va) := block_cell HN3.out 3; have r2 : w3.cell? ⟨g3, k * 4 + 2, none⟩ = some (.bool false) := q 2 (by omega) _ rfl; have r3 : w3.cell? ⟨g3, k * 4 + 3, none⟩ = some (.int .i64 va) := q 3 (by omega) _ rfl; have f2 : w3.frozen? ⟨g3, k * 4 + 2, none⟩ = false := own_free ho3 _; have HO3 := hide ho3; have HBLK3 := hide hblk3; have HGK := hide hgk; have hik : (k : Int) < ((k + 1 : Nat) : Int) := (by omega); clear hown3 hblk3 ho3 hgk q hab))
        have HI2 := hide (show ButAt g3 w3 (w3.setCell ⟨g3, k * 4 + 2, none⟩ (.bool b)) from ButAt.set _ _ _)
        have HR3 := hide (own_set HO3.out (k * 4 + 2) (.bool b))
        have hne : wr.heap.size ≠ g3 := by intro e; have h1 := HN3.out; rw [e] at h1; have h2 := HBLK3.out; rw [h1] at h2; simp at h2
        have HN4 := hide (block_set_other HN3.out ⟨g3, k * 4 + 2, none⟩ (.bool b) hne)
        have x3 : (w3.setCell ⟨g3, k * 4 + 2, none⟩ (.bool b)).cell? ⟨g3, k * 4 + 3, none⟩ = some (.int .i64 va) := by
          rw [World.cell?_setCell_other _ _ _ _ (by simp)]; exact r3
        have xf : (w3.setCell ⟨g3, k * 4 + 2, none⟩ (.bool b)).frozen? ⟨g3, k * 4 + 3, none⟩ = false := own_free HR3.out _
        obtain ⟨w4, hw4⟩ : ∃ w4, w3.setCell ⟨g3, k * 4 + 2, none⟩ (.bool b) = w4 := ⟨_, rfl⟩
        rw [hw4] at HI2 HR3 HN4 x3 xf ⊢
        clear hw4 r2 r3 f2 c0 c1 c2 c3 n1 n2 n3 m2 m3
        have hik2 : (k : Int) < (k : Int) + 1 := by omega
        refine wp_region_chain (fun W => W.cell? ⟨g3, k * 4 + 3, none⟩ = some (.int .i64 va) ∧ W.cell? ⟨wr.heap.size, 3, none⟩ = some (.int .i64 va)) 12 (by as_aux_lemma => kernel_rfl) (N := 13) (by as_aux_lemma => kernel_rfl) ?_; intro hsh
        have HS : w4.drew.cell? ⟨g3, k * 4 + 3, none⟩ = some (.int .i64 va) ∧ w4.drew.cell? ⟨wr.heap.size, 3, none⟩ = some (.int .i64 va) := ⟨x3, block_cell HN4.out 3⟩
        refine wpAnyC_take0 (i := 0) (k := 12) (v := ?_) (d := some 53) rfl (by rfl) (by as_aux_lemma => kernel_rfl) (by as_aux_lemma => kernel_rfl) (by as_aux_lemma => kernel_rfl) hsh (by decide) (by intro _ _ _ h; exact h) (by assumption) (Or.inl ⟨by rfl, ?hy⟩) ?_; (case hy => (intro W _; go_simp; (try with_reducible rfl))); clear hsh; intro hsh
        refine wpAnyC_take0 (i := 1) (k := 12) (v := ?_) (d := some 54) rfl (by rfl) (by as_aux_lemma => kernel_rfl) (by as_aux_lemma => kernel_rfl) (by as_aux_lemma => kernel_rfl) hsh (by decide) (by intro _ _ _ h; exact h) (by assumption) (Or.inl ⟨by rfl, ?hy⟩) ?_; (case hy => (intro W _; go_simp; (try with_reducible rfl))); clear hsh; intro hsh
        refine wpAnyC_take0 (i := 2) (k := 12) (v := ?_) (d := some 55) rfl (by rfl) (by as_aux_lemma => kernel_rfl) (by as_aux_lemma => kernel_rfl) (by as_aux_lemma => kernel_rfl) hsh (by decide) (by intro _ _ _ h; exact h) (by assumption) (Or.inl ⟨by rfl, ?hy⟩) ?_; (case hy => (intro W _; go_simp; (try with_reducible rfl))); clear hsh; intro hsh
        refine wpAnyC_take0 (i := 3) (k := 12) (v := ?_) (d := some 56) rfl (by rfl) (by as_aux_lemma => kernel_rfl) (by as_aux_lemma => kernel_rfl) (by as_aux_lemma => kernel_rfl) hsh (by decide) (by intro _ _ _ h; exact h) (by assumption) (Or.inl ⟨by rfl, ?hy⟩) ?_; (case hy => (intro W _; go_simp; (try with_reducible rfl))); clear hsh; intro hsh
        refine wpAnyC_take0 (i := 4) (k := 12) (v := ?_) (d := some 57) rfl (by rfl) (by as_aux_lemma => kernel_rfl) (by as_aux_lemma => kernel_rfl) (by as_aux_lemma => kernel_rfl) hsh (by decide) (by intro _ _ _ h; exact h) (by assumption) (Or.inl ⟨by rfl, ?hy⟩) ?_; (case hy => (intro W _; go_simp; (try with_reducible rfl))); clear hsh; intro hsh
        refine wpAnyC_take0 (i := 5) (k := 12) (v := ?_) (d := some 58) rfl (by rfl) (by as_aux_lemma => kernel_rfl) (by as_aux_lemma => kernel_rfl) (by as_aux_lemma => kernel_rfl) hsh (by decide) (by intro _ _ _ h; exact h) (by assumption) (Or.inl ⟨by rfl, ?hy⟩) ?_; (case hy => (intro W _; go_simp; (try with_reducible rfl))); clear hsh; intro hsh
        refine wpAnyC_take (i := 6) (k := 12) (f := 40) (v := ?_) (d := some 59) rfl (by rfl) (by as_aux_lemma => kernel_rfl) (by as_aux_lemma => kernel_rfl) (by as_aux_lemma => kernel_rfl) hsh (by decide) (by as_aux_lemma => kernel_rfl) (by intro _ _ _ h; exact h) (by assumption) (Or.inl ⟨by rfl, ?hy⟩) ?_; (case hy => (rintro W ⟨y0, y1⟩; go_simp; (try with_reducible rfl))); clear hsh; intro hsh
        refine wpAnyC_take0 (i := 7) (k := 12) (v := ?_) (d := some 60) rfl (by rfl) (by as_aux_lemma => kernel_rfl) (by as_aux_lemma => kernel_rfl) (by as_aux_lemma => kernel_rfl) hsh (by decide) (by intro _ _ _ h; exact h) (by assumption) (Or.inl ⟨by rfl, ?hy⟩) ?_; (case hy => (intro W _; go_simp; (try with_reducible rfl))); clear hsh; intro hsh
        refine wpAnyC_take (i := 8) (k := 12) (f := 40) (v := ?_) (d := some 61) rfl (by rfl) (by as_aux_lemma => kernel_rfl) (by as_aux_lemma => kernel_rfl) (by as_aux_lemma => kernel_rfl) hsh (by decide) (by as_aux_lemma => kernel_rfl) (by intro _ _ _ h; exact h) (by assumption) (Or.inl ⟨by rfl, ?hy⟩) ?_; (case hy => (rintro W ⟨y0, y1⟩; go_simp; (try with_reducible rfl))); clear hsh; intro hsh
        refine wpAnyC_take0 (i := 9) (k := 12) (v := ?_) (d := some 62) rfl (by rfl) (by as_aux_lemma => kernel_rfl) (by as_aux_lemma => kernel_rfl) (by as_aux_lemma => kernel_rfl) hsh (by decide) (by intro _ _ _ h; exact h) (by assumption) (Or.inl ⟨by rfl, ?hy⟩) ?_; (case hy => (intro W _; go_simp; (try with_reducible rfl))); clear hsh; intro hsh
        refine wpAnyC_take0 (i := 10) (k := 12) (v := ?_) (d := some 63) rfl (by rfl) (by as_aux_lemma => kernel_rfl) (by as_aux_lemma => kernel_rfl) (by as_aux_lemma => kernel_rfl) hsh (by decide) (by intro _ _ _ h; exact h) (by assumption) (Or.inl ⟨by rfl, ?hy⟩) ?_; (case hy => (intro W _; go_simp; (try with_reducible rfl))); clear hsh; intro hsh
        refine wpAnyC_take0 (i := 11) (k := 12) (v := ?_) (d := some 64) rfl (by rfl) (by as_aux_lemma => kernel_rfl) (by as_aux_lemma => kernel_rfl) (by as_aux_lemma => kernel_rfl) hsh (by decide) (by intro _ _ _ h; exact h) (by assumption) (Or.inl ⟨by rfl, ?hy⟩) ?_; (case hy => (intro W _; go_simp; (try with_reducible rfl))); clear hsh; intro hsh
        refine wpAnyC_tail (by as_aux_lemma => kernel_rfl) (by simp) (by as_aux_lemma => kernel_rfl) ?_; simp only [List.drop_succ_cons, List.drop_zero]; clear hsh
        have y3 : w4.drew.cell? ⟨g3, k * 4 + 3, none⟩ = some (.int .i64 va) := x3
        have yf : w4.drew.frozen? ⟨g3, k * 4 + 3, none⟩ = false := xf
        go_wp2_with (fail)
        go_roundw
        case rel =>
          have hbut := HI2.out.trans (ButAt.set w4 (k * 4 + 3) (.int .i64 va)).drew
          have hru1 : ruN (l.take (j + 1)) = ruN (l.take j) ++ [ru] := by rw [HTK.out]; exact HNN.out
          have hlen : (ruN (l.take (j + 1))).length = k + 1 := by rw [hru1, List.length_append, hk]; rfl
          have hbx := (Below.refl w3.heap.size w3)
          refine ⟨j + 1, by omega, by go_num, ⟨?_, ?_, ?_, ?_⟩⟩
          · exact hbut.keep _ _ HB3.out (fun e => by have h1 := HB3.out; rw [e] at h1; have h2 := HBLK3.out; rw [h1] at h2; simp at h2)
          · rw [hlen, hru1, show kyL (ruN (l.take j) ++ [ru]) = kyL (ruN (l.take j)) ++ [ru.data.toList] by simp [kyL], idxD_snoc, show (kyL (ruN (l.take j))).length = k by rw [kyL, List.length_map, hk]]
            exact ownsMap_but HM3.out hbut (fun e => by obtain ⟨es, ck, h1, _⟩ := HM3.out; have h2 := HBLK3.out; rw [e, h2] at h1; simp at h1)
          · rw [hlen, HTK.out, HSO.out]
            have h1 := sm_set (smL (l.take j) ++ [(⟨ru, b, false, va⟩ : Sm)]) k _ HGK.out b va
            rw [show ((smL (l.take j) ++ [(⟨ru, b, false, va⟩ : Sm)]).set k ⟨ru, b, b, va⟩) = smL (l.take j) ++ [⟨ru, b, b, va⟩] by rw [← hlr, List.set_append, if_neg (by omega), Nat.sub_self]; rfl] at h1
            rw [h1]
            exact own_set HR3.out (k * 4 + 3) _
          · exact HE3.out.trans (hbut.be.mono (by omega))
        case measure => simp [intOf]; omega
    · obtain rfl : j = n := by omega
      have e1 : l.take j = l := take_len l (by rw [HL.out]; exact Nat.le_refl _)
      have hrow := hI.row
      have hbe := hI.be
      have hkn : (ruN l).length ≤ j := Nat.le_trans (ruN_len _) (by rw [HL.out]; exact Nat.le_refl _)
      have hlr : (smL l).length = (ruN l).length := by unfold smL; rw [List.length_map]
      rw [e1] at hrow
      obtain ⟨k, hk⟩ : ∃ k, (ruN l).length = k := ⟨_, rfl⟩
      rw [hk] at hrow hkn hlr
      obtain ⟨ao, oc, hlv⟩ := own_sl hrow
      subst hlv
      have HRW := hide hrow
      have HBE := hide hbe
      clear hI hrow hbe e1
      obtain ⟨wo, rfl⟩ : ∃ wo : World, wo = wr := ⟨_, rfl⟩
      have HFT := hide (smL_fit HF.out)
      go_wp2_with (fail)
      go_loopw [9, 68] (fun ov i wr => ∃ q : Nat, q ≤ k ∧ i = .int .i64 q ∧ wr.ownsRow wo.heap.size 9 1 ov q (((smL l).take q).flatMap fun s => [.string (lineB s)]) ∧ Below wo.heap.size wo wr) (fun _ i _ => k - (intOf i).toNat)
      case atStart => exact ⟨0, Nat.zero_le _, rfl, World.ownsRow_nil _ _ _ _, Below.refl _ _⟩
      case round =>
        obtain ⟨q, hq, rfl, hown, hB⟩ := hrel
        have hz2 := hB.size
        by_cases hqk : q < k
        · obtain ⟨s, hs⟩ : ∃ s, (smL l)[q]? = some s := ⟨_, List.getElem?_eq_getElem (by omega)⟩
          obtain ⟨g1, q1, cur1, hv, hb1, hblk1, _⟩ := own_blk HRW.out (by omega)
          simp only [Value.slice.injEq, true_and] at hv
          obtain ⟨rfl, rfl⟩ := hv
          have hrw2 := own_below HRW.out hB
          have qq := fun (r : Nat) (hr : r < 4) (u : Value) (hu : s.cs[r]? = some u) => own_cell hrw2 _ _ ((sm_cells hs r hr).trans hu)
          have c0 : wr.cell? ⟨g1, q * 4, none⟩ = some (.string s.rule) := qq 0 (by omega) _ rfl
          have c1 : wr.cell? ⟨g1, q * 4 + 1, none⟩ = some (.bool s.first) := qq 1 (by omega) _ rfl
          have c2 : wr.cell? ⟨g1, q * 4 + 2, none⟩ = some (.bool s.last) := qq 2 (by omega) _ rfl
          have c3 : wr.cell? ⟨g1, q * 4 + 3, none⟩ = some (.int .i64 s.value) := qq 3 (by omega) _ rfl
          have hfs := HFT.out s (List.mem_of_getElem? hs)
          have hba : Below wr.heap.size wr (wr.alloc (.cells #[.string s.rule, .bool s.first, .bool s.last, .int .i64 s.value] 89)) := (Below.refl _ _).alloc (Nat.le_refl _) _
          have CL := hide (line_any s (wr.alloc (.cells #[.string s.rule, .bool s.first, .bool s.last, .int .i64 s.value] 89)) hfs.1 hfs.2.1 hfs.2.2 (tab_below HT.out ((HBE.out.trans (hB.mono HBE.out.size)).trans (hba.mono (by have := HBE.out.size; omega)))))
          have HTK := hide (take_succ_get hs)
          have HOW := hide (own_below hown hba)
          have HB1 := hide (hB.trans (hba.mono hz2))
          obtain ⟨ls, hls⟩ : ∃ ls, lineB s = ls := ⟨_, rfl⟩
          have HLS := hide hls
          rw [hls] at CL
          clear qq hs hrw2 hba hown hls
          go_wp2_with (first | (go_at_call 50; refine CL.out.mono ?_; rintro e w1 ⟨rfl, hw1⟩; have HOW1 := hide (own_below HOW.out hw1); have HB2 := hide (HB1.out.trans (hw1.mono HB1.out.size)); clear hw1) | (at_builtin; refine wpList_append_own _ rfl (.tmp 72) (.tmp 75) 77 rfl wo.heap.size 9 j0 (.string ByteArray.empty) 1 16 Tryd.underlying77 hj0 jz0 jz1 jz2 rfl (by decide) _ q _ rfl (HOW1.out.alloc _) ⟨w1.heap.size, 0, none⟩ 1 1 [.string ls] (by rfl) rfl (cells_at w1 [.string ls] _ _ rfl) (by intro u hu; simp at hu; subst hu; rfl) (by unfold maxLen; omega) (by omega) (by simp; have := HB2.out.size; omega) ?_; intro v3 w3 hown3 hg3 _; have HO3 := hide hown3; have HB3 := hide ((HB2.out.alloc HB2.out.size (.cells #[.string ls] 9)).grown hg3 (by simp; have := HB2.out.size; omega) (fun k hk => (HOW1.out.lt k hk).1)); clear hown3 hg3))
          go_roundw
          case rel => exact ⟨q + 1, by omega, by go_num, by rw [HTK.out, List.flatMap_append]; simpa [HLS.out] using HO3.out, HB3.out⟩
          case measure => simp [intOf]; omega
        · obtain rfl : q = k := by omega
          have e2 : (smL l).take q = smL l := take_len _ (by omega)
          rw [e2] at hown
          go_wp2_with (fail)
          go_ret
          exact ⟨_, rfl, by rw [hlr]; exact World.ownsRow.mono hown (by have := HBE.out.size; omega), HBE.out.trans (hB.mono HBE.out.size)⟩
end Go.Proofs.YtnkccilgbhogbaaDoor

/- Walk of awakeAlert. -/
namespace Go.Proofs.YtnkccilgbhogbaaDoor
open Go.RowKit
set_option linter.unusedVariables false
set_option linter.unusedSimpArgs false
set_option maxRecDepth 100000 in
set_option maxHeartbeats 4000000 in
theorem awakeAlert_any (w : World) (htab : Lib.TabIs Tryd.prog w "internal/strconv.uint64pow10" .u64 Lib.pow10Tab) :
    Calls Tryd.prog 22 #[] w fun e w' => e = .returned (.bool true) ∧ Below w.heap.size w w' := by
  have hA : Below w.heap.size w (w.alloc (.cells #[.int .i64 0, .string ⟨#[97]⟩, .int .i64 1, .int .i64 0] 51)) := (Below.refl _ _).alloc (Nat.le_refl _) _
  have hsl : Sl (w.alloc (.cells #[.int .i64 0, .string ⟨#[97]⟩, .int .i64 1, .int .i64 0] 51)) (w.alloc (.cells #[.int .i64 0, .string ⟨#[97]⟩, .int .i64 1, .int .i64 0] 51)).heap.size Nt.cs 4 (some ⟨w.heap.size, 0, none⟩) 1 [⟨0, ⟨#[97]⟩, 1, 0⟩] := by
    refine ⟨rfl, fun _ => ⟨w.heap.size, 0, rfl, by simp, fun i x hx j u hu => ?_⟩⟩
    match i, hx with
    | 0, hx =>
      simp only [List.getElem?_cons_zero, Option.some.injEq] at hx
      subst hx
      simp only [Nat.zero_mul, Nat.zero_add]
      rw [block_cell (heap_alloc_new w _) j]
      simpa [Nt.cs] using hu
  have HL := hide (Lines_any 0 0 0 (some ⟨w.heap.size, 0, none⟩) 1 1 [⟨0, ⟨#[97]⟩, 1, 0⟩] (w.alloc (.cells #[.int .i64 0, .string ⟨#[97]⟩, .int .i64 1, .int .i64 0] 51)) (by decide) hsl (fun x hx => by
    simp only [List.mem_singleton] at hx; subst hx; exact ⟨by decide, by decide, by decide⟩) (tab_below htab hA))
  have HA := hide hA
  have HE := hide (show (smL [(⟨0, ⟨#[97]⟩, 1, 0⟩ : Nt)]).length = 1 ∧ ((smL [(⟨0, ⟨#[97]⟩, 1, 0⟩ : Nt)]).flatMap fun s => [Value.string (lineB s)]) = [.string ⟨#[97, 32, 98, 101, 103, 97, 110, 32, 40, 48, 41]⟩] from ⟨by decide +kernel, by kernel_rfl⟩)
  rw [HE.out.1, HE.out.2] at HL
  clear hA hsl htab HE
  go_enter Tryd.func22, Tryd.ntmps22
  go_wp2_with (fail)
  refine HL.out.mono ?_
  rintro e w1 ⟨v, rfl, hrow, hw1⟩
  obtain ⟨g, c, cur, rfl, hb, hblk, _⟩ := own_blk hrow (by decide)
  have c0 : w1.cell? ⟨g, 0, none⟩ = some (.string ⟨#[97, 32, 98, 101, 103, 97, 110, 32, 40, 48, 41]⟩) := own_cell hrow 0 _ rfl
  have HB := hide (HA.out.trans (hw1.mono HA.out.size))
  clear hrow hw1 hblk
  go_wp2_with (fail)
  go_ret
  exact ⟨rfl, HB.out⟩
end Go.Proofs.YtnkccilgbhogbaaDoor
