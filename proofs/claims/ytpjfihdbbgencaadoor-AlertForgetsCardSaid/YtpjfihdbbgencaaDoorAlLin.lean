/- The line of a rule: its text, and the walk of line. -/
import Derived.Test.YtpjfihdbbgencaaDoorAlLnL
import Derived.Test.YtpjfihdbbgencaaDoorNumb
import Derived.Test.YtpjfihdbbgencaaDoorRegChain
namespace Go.Proofs.YtpjfihdbbgencaaDoor
open Go.RowKit
set_option linter.unusedVariables false
set_option linter.unusedSimpArgs false
def wordsL (f l : Bool) : List UInt8 := if f && l then [32, 98, 101, 103, 97, 110] else if f then [32, 98, 101, 103, 97, 110, 32, 97, 110, 100, 32, 105, 115, 32, 111, 118, 101, 114] else if l then [32, 105, 115, 32, 111, 118, 101, 114, 32, 97, 110, 100, 32, 98, 101, 103, 97, 110, 32, 97, 103, 97, 105, 110] else [32, 111, 118, 101, 114]
def lineB (s : Sm) : ByteArray := ⟨(s.rule.data.toList ++ (wordsL s.first s.last ++ ([32, 40] ++ (toldZ s.value ++ [41])))).toArray⟩
theorem tab_below {w w' : World} {name : String} {k : IntKind} {zs : List Int} (h : Lib.TabIs Tryd.prog w name k zs) (hb : Below w.heap.size w w') : Lib.TabIs Tryd.prog w' name k zs := by
  unfold Lib.TabIs World.var? at h ⊢
  cases hg : Tryd.prog.globalNamed name with
  | none => rw [hg] at h; simp at h
  | some g =>
    rw [hg] at h
    simp only [Option.bind_some] at h ⊢
    cases hh : w.heap[g]? with
    | none => rw [hh] at h; simp at h
    | some o => rw [hh] at h; rw [hb.block g (lt_of_block hh), hh]; exact h
theorem bytes_eq {a : ByteArray} {l : List UInt8} (h : a.data.toList = l) : a = ⟨l.toArray⟩ := by rw [← h]
set_option maxRecDepth 100000 in
set_option maxHeartbeats 4000000 in
theorem line_any (s : Sm) (w : World) (hr : s.rule.size ≤ 4611686018427387904) (h0 : -9223372036854775808 ≤ s.value) (h1 : s.value ≤ 9223372036854775807) (htab : Lib.TabIs Tryd.prog w "internal/strconv.uint64pow10" .u64 Lib.pow10Tab) :
    Calls Tryd.prog 31 #[.agg #[.string s.rule, .bool s.first, .bool s.last, .int .i64 s.value]] w fun e w' => e = .returned (.string (lineB s)) ∧ Below w.heap.size w w' := by
  obtain ⟨ru, f, l, v⟩ := s
  simp only at hr h0 h1 ⊢
  have hb : Below w.heap.size w (w.alloc (.cells #[.string ru, .bool f, .bool l, .int .i64 v] 69)) := (Below.refl _ _).alloc (Nat.le_refl _) _
  have HT := hide (Itoa_all v (w.alloc (.cells #[.string ru, .bool f, .bool l, .int .i64 v] 69)).drew h0 h1 (tab_below htab hb.drew))
  have HB := hide hb
  have HBX := hide (heap_alloc_new w (.cells #[.string ru, .bool f, .bool l, .int .i64 v] 69))
  have hlen := toldZ_len v h0 h1
  obtain ⟨tz, htz⟩ : ∃ tz : ByteArray, ⟨(toldZ v).toArray⟩ = tz := ⟨_, rfl⟩
  have htl : tz.size ≤ 65 := by rw [← htz]; simpa [ByteArray.size] using hlen
  have HE := hide (show tz.data.toList = toldZ v by rw [← htz])
  rw [htz] at HT
  clear hb htab htz hlen
  go_enter Tryd.func31, Tryd.ntmps31
  cases f
  · cases l
    · go_wp2_with (fail)
      obtain ⟨w1, hw1⟩ : ∃ w1, w.alloc (.cells #[.string ru, .bool false, .bool false, .int .i64 v] 69) = w1 := ⟨_, rfl⟩
      rw [hw1] at HT HB HBX ⊢
      have z1 : w1.cell? ⟨w.heap.size, 0, none⟩ = some (.string ru) := block_cell HBX.out 0
      have z2 : w1.cell? ⟨w.heap.size, 3, none⟩ = some (.int .i64 v) := block_cell HBX.out 3
      clear hw1
      have hs1 : (⟨#[32, 111, 118, 101, 114]⟩ : ByteArray).size = 5 := rfl
      have hs2 : (⟨#[32, 40]⟩ : ByteArray).size = 2 := rfl
      have hs3 : (⟨#[41]⟩ : ByteArray).size = 1 := rfl
      have hq1 : (ru ++ (⟨#[32, 111, 118, 101, 114]⟩ : ByteArray)).size = ru.size + 5 := by rw [ByteArray.size_append, hs1]
      have nb1 : ¬ 9223372036854775807 < ru.size + 5 := by omega
      have nb2 : ¬ 9223372036854775807 < ru.size + 5 + 2 := by omega
      have nb3 : ¬ 9223372036854775807 < ru.size + 7 := by omega
      have nb4 : ¬ 9223372036854775807 < ru.size + 5 + 2 + tz.size := by omega
      have nb5 : ¬ 9223372036854775807 < ru.size + 7 + tz.size := by omega
      have nb6 : ¬ 9223372036854775807 < ru.size + 5 + 2 + tz.size + 1 := by omega
      have hq2 : (ru ++ (⟨#[32, 111, 118, 101, 114]⟩ : ByteArray) ++ (⟨#[32, 40]⟩ : ByteArray)).size = ru.size + 7 := by rw [ByteArray.size_append, hq1, hs2]
      have hq3 : (ru ++ (⟨#[32, 111, 118, 101, 114]⟩ : ByteArray) ++ (⟨#[32, 40]⟩ : ByteArray) ++ tz).size ≤ ru.size + 72 := by rw [ByteArray.size_append, hq2]; omega
      refine wp_region_chain (fun W => W.cell? ⟨w.heap.size, 0, none⟩ = some (.string ru) ∧ W.cell? ⟨w.heap.size, 3, none⟩ = some (.int .i64 v)) 8 (by as_aux_lemma => kernel_rfl) (N := 11) (by as_aux_lemma => kernel_rfl) ?_; intro hsh
      have HS : w1.drew.cell? ⟨w.heap.size, 0, none⟩ = some (.string ru) ∧ w1.drew.cell? ⟨w.heap.size, 3, none⟩ = some (.int .i64 v) := ⟨z1, z2⟩
      refine wpAnyC_take0 (i := 0) (k := 8) (v := ?_) (d := some 17) rfl (by rfl) (by as_aux_lemma => kernel_rfl) (by as_aux_lemma => kernel_rfl) (by as_aux_lemma => kernel_rfl) hsh (by decide) (by intro _ _ _ h; exact h) (by assumption) (Or.inl ⟨by rfl, ?hy⟩) ?_; (case hy => (intro W _; go_simp; (try with_reducible rfl))); clear hsh; intro hsh
      refine wpAnyC_take (i := 1) (k := 8) (f := 40) (v := ?_) (d := some 18) rfl (by rfl) (by as_aux_lemma => kernel_rfl) (by as_aux_lemma => kernel_rfl) (by as_aux_lemma => kernel_rfl) hsh (by decide) (by as_aux_lemma => kernel_rfl) (by intro _ _ _ h; exact h) (by assumption) (Or.inl ⟨by rfl, ?hy⟩) ?_; (case hy => (rintro W ⟨y1, y2⟩; go_simp; (try with_reducible rfl))); clear hsh; intro hsh
      refine wpAnyC_take0 (i := 2) (k := 8) (v := ?_) (d := some 19) rfl (by rfl) (by as_aux_lemma => kernel_rfl) (by as_aux_lemma => kernel_rfl) (by as_aux_lemma => kernel_rfl) hsh (by decide) (by intro _ _ _ h; exact h) (by assumption) (Or.inl ⟨by rfl, ?hy⟩) ?_; (case hy => (intro W _; go_simp; (try with_reducible rfl))); clear hsh; intro hsh
      refine wpAnyC_take0 (i := 3) (k := 8) (v := ?_) (d := some 20) rfl (by rfl) (by as_aux_lemma => kernel_rfl) (by as_aux_lemma => kernel_rfl) (by as_aux_lemma => kernel_rfl) hsh (by decide) (by intro _ _ _ h; exact h) (by assumption) (Or.inl ⟨by rfl, ?hy⟩) ?_; (case hy => (intro W _; go_simp; (try with_reducible rfl))); clear hsh; intro hsh
      refine wpAnyC_take0 (i := 4) (k := 8) (v := ?_) (d := some 21) rfl (by rfl) (by as_aux_lemma => kernel_rfl) (by as_aux_lemma => kernel_rfl) (by as_aux_lemma => kernel_rfl) hsh (by decide) (by intro _ _ _ h; exact h) (by assumption) (Or.inl ⟨by rfl, ?hy⟩) ?_; (case hy => (intro W _; go_simp; (try with_reducible rfl))); clear hsh; intro hsh
      refine wpAnyC_take0 (i := 5) (k := 8) (v := ?_) (d := some 22) rfl (by rfl) (by as_aux_lemma => kernel_rfl) (by as_aux_lemma => kernel_rfl) (by as_aux_lemma => kernel_rfl) hsh (by decide) (by intro _ _ _ h; exact h) (by assumption) (Or.inl ⟨by rfl, ?hy⟩) ?_; (case hy => (intro W _; go_simp; (try with_reducible rfl))); clear hsh; intro hsh
      refine wpAnyC_take (i := 6) (k := 8) (f := 40) (v := ?_) (d := some 23) rfl (by rfl) (by as_aux_lemma => kernel_rfl) (by as_aux_lemma => kernel_rfl) (by as_aux_lemma => kernel_rfl) hsh (by decide) (by as_aux_lemma => kernel_rfl) (by intro _ _ _ h; exact h) (by assumption) (Or.inl ⟨by rfl, ?hy⟩) ?_; (case hy => (rintro W ⟨y1, y2⟩; go_simp; (try with_reducible rfl))); clear hsh; intro hsh
      refine wpAnyC_ready (rs := [7]) (by as_aux_lemma => kernel_rfl) (by simp) ?_; refine AllC.cons (i := 7) rfl (by as_aux_lemma => kernel_rfl) hsh (fun K hK => ?_) AllC.nil
      go_simp
      go_at_call 47
      refine HT.out.mono ?_
      rintro e w2 ⟨rfl, hw2⟩
      have HX2 := hide (block_below (show w1.drew.heap[w.heap.size]? = _ from HBX.out) hw2)
      have HB2 := hide (HB.out.drew.trans (hw2.mono (by have := HB.out.size; simpa using this)))
      try go_simp
      refine hK _ _ (fun _ => ⟨block_cell HX2.out 0, block_cell HX2.out 3⟩) ?_
      clear hK K hsh HS hw2
      intro hsh
      refine wpAnyC_tail (by as_aux_lemma => kernel_rfl) (by simp) (by as_aux_lemma => kernel_rfl) ?_; simp only [List.drop_succ_cons, List.drop_zero]; clear hsh
      go_wp2_with (fail)
      go_ret
      refine ⟨congrArg (fun x => Ending.returned (Value.string x)) ?_, HB2.out⟩
      refine bytes_eq ?_
      simp only [app_toList, HE.out, lineB]
      simp [wordsL]
    · go_wp2_with (fail)
      obtain ⟨w1, hw1⟩ : ∃ w1, w.alloc (.cells #[.string ru, .bool false, .bool true, .int .i64 v] 69) = w1 := ⟨_, rfl⟩
      rw [hw1] at HT HB HBX ⊢
      have z1 : w1.cell? ⟨w.heap.size, 0, none⟩ = some (.string ru) := block_cell HBX.out 0
      have z2 : w1.cell? ⟨w.heap.size, 3, none⟩ = some (.int .i64 v) := block_cell HBX.out 3
      clear hw1
      have hs1 : (⟨#[32, 105, 115, 32, 111, 118, 101, 114, 32, 97, 110, 100, 32, 98, 101, 103, 97, 110, 32, 97, 103, 97, 105, 110]⟩ : ByteArray).size = 24 := rfl
      have hs2 : (⟨#[32, 40]⟩ : ByteArray).size = 2 := rfl
      have hs3 : (⟨#[41]⟩ : ByteArray).size = 1 := rfl
      have hq1 : (ru ++ (⟨#[32, 105, 115, 32, 111, 118, 101, 114, 32, 97, 110, 100, 32, 98, 101, 103, 97, 110, 32, 97, 103, 97, 105, 110]⟩ : ByteArray)).size = ru.size + 24 := by rw [ByteArray.size_append, hs1]
      have nb1 : ¬ 9223372036854775807 < ru.size + 24 := by omega
      have nb2 : ¬ 9223372036854775807 < ru.size + 24 + 2 := by omega
      have nb3 : ¬ 9223372036854775807 < ru.size + 26 := by omega
      have nb4 : ¬ 9223372036854775807 < ru.size + 24 + 2 + tz.size := by omega
      have nb5 : ¬ 9223372036854775807 < ru.size + 26 + tz.size := by omega
      have nb6 : ¬ 9223372036854775807 < ru.size + 24 + 2 + tz.size + 1 := by omega
      have hq2 : (ru ++ (⟨#[32, 105, 115, 32, 111, 118, 101, 114, 32, 97, 110, 100, 32, 98, 101, 103, 97, 110, 32, 97, 103, 97, 105, 110]⟩ : ByteArray) ++ (⟨#[32, 40]⟩ : ByteArray)).size = ru.size + 26 := by rw [ByteArray.size_append, hq1, hs2]
      have hq3 : (ru ++ (⟨#[32, 105, 115, 32, 111, 118, 101, 114, 32, 97, 110, 100, 32, 98, 101, 103, 97, 110, 32, 97, 103, 97, 105, 110]⟩ : ByteArray) ++ (⟨#[32, 40]⟩ : ByteArray) ++ tz).size ≤ ru.size + 91 := by rw [ByteArray.size_append, hq2]; omega
      refine wp_region_chain (fun W => W.cell? ⟨w.heap.size, 0, none⟩ = some (.string ru) ∧ W.cell? ⟨w.heap.size, 3, none⟩ = some (.int .i64 v)) 8 (by as_aux_lemma => kernel_rfl) (N := 11) (by as_aux_lemma => kernel_rfl) ?_; intro hsh
      have HS : w1.drew.cell? ⟨w.heap.size, 0, none⟩ = some (.string ru) ∧ w1.drew.cell? ⟨w.heap.size, 3, none⟩ = some (.int .i64 v) := ⟨z1, z2⟩
      refine wpAnyC_take0 (i := 0) (k := 8) (v := ?_) (d := some 17) rfl (by rfl) (by as_aux_lemma => kernel_rfl) (by as_aux_lemma => kernel_rfl) (by as_aux_lemma => kernel_rfl) hsh (by decide) (by intro _ _ _ h; exact h) (by assumption) (Or.inl ⟨by rfl, ?hy⟩) ?_; (case hy => (intro W _; go_simp; (try with_reducible rfl))); clear hsh; intro hsh
      refine wpAnyC_take (i := 1) (k := 8) (f := 40) (v := ?_) (d := some 18) rfl (by rfl) (by as_aux_lemma => kernel_rfl) (by as_aux_lemma => kernel_rfl) (by as_aux_lemma => kernel_rfl) hsh (by decide) (by as_aux_lemma => kernel_rfl) (by intro _ _ _ h; exact h) (by assumption) (Or.inl ⟨by rfl, ?hy⟩) ?_; (case hy => (rintro W ⟨y1, y2⟩; go_simp; (try with_reducible rfl))); clear hsh; intro hsh
      refine wpAnyC_take0 (i := 2) (k := 8) (v := ?_) (d := some 19) rfl (by rfl) (by as_aux_lemma => kernel_rfl) (by as_aux_lemma => kernel_rfl) (by as_aux_lemma => kernel_rfl) hsh (by decide) (by intro _ _ _ h; exact h) (by assumption) (Or.inl ⟨by rfl, ?hy⟩) ?_; (case hy => (intro W _; go_simp; (try with_reducible rfl))); clear hsh; intro hsh
      refine wpAnyC_take0 (i := 3) (k := 8) (v := ?_) (d := some 20) rfl (by rfl) (by as_aux_lemma => kernel_rfl) (by as_aux_lemma => kernel_rfl) (by as_aux_lemma => kernel_rfl) hsh (by decide) (by intro _ _ _ h; exact h) (by assumption) (Or.inl ⟨by rfl, ?hy⟩) ?_; (case hy => (intro W _; go_simp; (try with_reducible rfl))); clear hsh; intro hsh
      refine wpAnyC_take0 (i := 4) (k := 8) (v := ?_) (d := some 21) rfl (by rfl) (by as_aux_lemma => kernel_rfl) (by as_aux_lemma => kernel_rfl) (by as_aux_lemma => kernel_rfl) hsh (by decide) (by intro _ _ _ h; exact h) (by assumption) (Or.inl ⟨by rfl, ?hy⟩) ?_; (case hy => (intro W _; go_simp; (try with_reducible rfl))); clear hsh; intro hsh
      refine wpAnyC_take0 (i := 5) (k := 8) (v := ?_) (d := some 22) rfl (by rfl) (by as_aux_lemma => kernel_rfl) (by as_aux_lemma => kernel_rfl) (by as_aux_lemma => kernel_rfl) hsh (by decide) (by intro _ _ _ h; exact h) (by assumption) (Or.inl ⟨by rfl, ?hy⟩) ?_; (case hy => (intro W _; go_simp; (try with_reducible rfl))); clear hsh; intro hsh
      refine wpAnyC_take (i := 6) (k := 8) (f := 40) (v := ?_) (d := some 23) rfl (by rfl) (by as_aux_lemma => kernel_rfl) (by as_aux_lemma => kernel_rfl) (by as_aux_lemma => kernel_rfl) hsh (by decide) (by as_aux_lemma => kernel_rfl) (by intro _ _ _ h; exact h) (by assumption) (Or.inl ⟨by rfl, ?hy⟩) ?_; (case hy => (rintro W ⟨y1, y2⟩; go_simp; (try with_reducible rfl))); clear hsh; intro hsh
      refine wpAnyC_ready (rs := [7]) (by as_aux_lemma => kernel_rfl) (by simp) ?_; refine AllC.cons (i := 7) rfl (by as_aux_lemma => kernel_rfl) hsh (fun K hK => ?_) AllC.nil
      go_simp
      go_at_call 47
      refine HT.out.mono ?_
      rintro e w2 ⟨rfl, hw2⟩
      have HX2 := hide (block_below (show w1.drew.heap[w.heap.size]? = _ from HBX.out) hw2)
      have HB2 := hide (HB.out.drew.trans (hw2.mono (by have := HB.out.size; simpa using this)))
      try go_simp
      refine hK _ _ (fun _ => ⟨block_cell HX2.out 0, block_cell HX2.out 3⟩) ?_
      clear hK K hsh HS hw2
      intro hsh
      refine wpAnyC_tail (by as_aux_lemma => kernel_rfl) (by simp) (by as_aux_lemma => kernel_rfl) ?_; simp only [List.drop_succ_cons, List.drop_zero]; clear hsh
      go_wp2_with (fail)
      go_ret
      refine ⟨congrArg (fun x => Ending.returned (Value.string x)) ?_, HB2.out⟩
      refine bytes_eq ?_
      simp only [app_toList, HE.out, lineB]
      simp [wordsL]
  · cases l
    · go_wp2_with (fail)
      obtain ⟨w1, hw1⟩ : ∃ w1, w.alloc (.cells #[.string ru, .bool true, .bool false, .int .i64 v] 69) = w1 := ⟨_, rfl⟩
      rw [hw1] at HT HB HBX ⊢
      have z1 : w1.cell? ⟨w.heap.size, 0, none⟩ = some (.string ru) := block_cell HBX.out 0
      have z2 : w1.cell? ⟨w.heap.size, 3, none⟩ = some (.int .i64 v) := block_cell HBX.out 3
      clear hw1
      have hs1 : (⟨#[32, 98, 101, 103, 97, 110, 32, 97, 110, 100, 32, 105, 115, 32, 111, 118, 101, 114]⟩ : ByteArray).size = 18 := rfl
      have hs2 : (⟨#[32, 40]⟩ : ByteArray).size = 2 := rfl
      have hs3 : (⟨#[41]⟩ : ByteArray).size = 1 := rfl
      have hq1 : (ru ++ (⟨#[32, 98, 101, 103, 97, 110, 32, 97, 110, 100, 32, 105, 115, 32, 111, 118, 101, 114]⟩ : ByteArray)).size = ru.size + 18 := by rw [ByteArray.size_append, hs1]
      have nb1 : ¬ 9223372036854775807 < ru.size + 18 := by omega
      have nb2 : ¬ 9223372036854775807 < ru.size + 18 + 2 := by omega
      have nb3 : ¬ 9223372036854775807 < ru.size + 20 := by omega
      have nb4 : ¬ 9223372036854775807 < ru.size + 18 + 2 + tz.size := by omega
      have nb5 : ¬ 9223372036854775807 < ru.size + 20 + tz.size := by omega
      have nb6 : ¬ 9223372036854775807 < ru.size + 18 + 2 + tz.size + 1 := by omega
      have hq2 : (ru ++ (⟨#[32, 98, 101, 103, 97, 110, 32, 97, 110, 100, 32, 105, 115, 32, 111, 118, 101, 114]⟩ : ByteArray) ++ (⟨#[32, 40]⟩ : ByteArray)).size = ru.size + 20 := by rw [ByteArray.size_append, hq1, hs2]
      have hq3 : (ru ++ (⟨#[32, 98, 101, 103, 97, 110, 32, 97, 110, 100, 32, 105, 115, 32, 111, 118, 101, 114]⟩ : ByteArray) ++ (⟨#[32, 40]⟩ : ByteArray) ++ tz).size ≤ ru.size + 85 := by rw [ByteArray.size_append, hq2]; omega
      refine wp_region_chain (fun W => W.cell? ⟨w.heap.size, 0, none⟩ = some (.string ru) ∧ W.cell? ⟨w.heap.size, 3, none⟩ = some (.int .i64 v)) 8 (by as_aux_lemma => kernel_rfl) (N := 11) (by as_aux_lemma => kernel_rfl) ?_; intro hsh
      have HS : w1.drew.cell? ⟨w.heap.size, 0, none⟩ = some (.string ru) ∧ w1.drew.cell? ⟨w.heap.size, 3, none⟩ = some (.int .i64 v) := ⟨z1, z2⟩
      refine wpAnyC_take0 (i := 0) (k := 8) (v := ?_) (d := some 17) rfl (by rfl) (by as_aux_lemma => kernel_rfl) (by as_aux_lemma => kernel_rfl) (by as_aux_lemma => kernel_rfl) hsh (by decide) (by intro _ _ _ h; exact h) (by assumption) (Or.inl ⟨by rfl, ?hy⟩) ?_; (case hy => (intro W _; go_simp; (try with_reducible rfl))); clear hsh; intro hsh
      refine wpAnyC_take (i := 1) (k := 8) (f := 40) (v := ?_) (d := some 18) rfl (by rfl) (by as_aux_lemma => kernel_rfl) (by as_aux_lemma => kernel_rfl) (by as_aux_lemma => kernel_rfl) hsh (by decide) (by as_aux_lemma => kernel_rfl) (by intro _ _ _ h; exact h) (by assumption) (Or.inl ⟨by rfl, ?hy⟩) ?_; (case hy => (rintro W ⟨y1, y2⟩; go_simp; (try with_reducible rfl))); clear hsh; intro hsh
      refine wpAnyC_take0 (i := 2) (k := 8) (v := ?_) (d := some 19) rfl (by rfl) (by as_aux_lemma => kernel_rfl) (by as_aux_lemma => kernel_rfl) (by as_aux_lemma => kernel_rfl) hsh (by decide) (by intro _ _ _ h; exact h) (by assumption) (Or.inl ⟨by rfl, ?hy⟩) ?_; (case hy => (intro W _; go_simp; (try with_reducible rfl))); clear hsh; intro hsh
      refine wpAnyC_take0 (i := 3) (k := 8) (v := ?_) (d := some 20) rfl (by rfl) (by as_aux_lemma => kernel_rfl) (by as_aux_lemma => kernel_rfl) (by as_aux_lemma => kernel_rfl) hsh (by decide) (by intro _ _ _ h; exact h) (by assumption) (Or.inl ⟨by rfl, ?hy⟩) ?_; (case hy => (intro W _; go_simp; (try with_reducible rfl))); clear hsh; intro hsh
      refine wpAnyC_take0 (i := 4) (k := 8) (v := ?_) (d := some 21) rfl (by rfl) (by as_aux_lemma => kernel_rfl) (by as_aux_lemma => kernel_rfl) (by as_aux_lemma => kernel_rfl) hsh (by decide) (by intro _ _ _ h; exact h) (by assumption) (Or.inl ⟨by rfl, ?hy⟩) ?_; (case hy => (intro W _; go_simp; (try with_reducible rfl))); clear hsh; intro hsh
      refine wpAnyC_take0 (i := 5) (k := 8) (v := ?_) (d := some 22) rfl (by rfl) (by as_aux_lemma => kernel_rfl) (by as_aux_lemma => kernel_rfl) (by as_aux_lemma => kernel_rfl) hsh (by decide) (by intro _ _ _ h; exact h) (by assumption) (Or.inl ⟨by rfl, ?hy⟩) ?_; (case hy => (intro W _; go_simp; (try with_reducible rfl))); clear hsh; intro hsh
      refine wpAnyC_take (i := 6) (k := 8) (f := 40) (v := ?_) (d := some 23) rfl (by rfl) (by as_aux_lemma => kernel_rfl) (by as_aux_lemma => kernel_rfl) (by as_aux_lemma => kernel_rfl) hsh (by decide) (by as_aux_lemma => kernel_rfl) (by intro _ _ _ h; exact h) (by assumption) (Or.inl ⟨by rfl, ?hy⟩) ?_; (case hy => (rintro W ⟨y1, y2⟩; go_simp; (try with_reducible rfl))); clear hsh; intro hsh
      refine wpAnyC_ready (rs := [7]) (by as_aux_lemma => kernel_rfl) (by simp) ?_; refine AllC.cons (i := 7) rfl (by as_aux_lemma => kernel_rfl) hsh (fun K hK => ?_) AllC.nil
      go_simp
      go_at_call 47
      refine HT.out.mono ?_
      rintro e w2 ⟨rfl, hw2⟩
      have HX2 := hide (block_below (show w1.drew.heap[w.heap.size]? = _ from HBX.out) hw2)
      have HB2 := hide (HB.out.drew.trans (hw2.mono (by have := HB.out.size; simpa using this)))
      try go_simp
      refine hK _ _ (fun _ => ⟨block_cell HX2.out 0, block_cell HX2.out 3⟩) ?_
      clear hK K hsh HS hw2
      intro hsh
      refine wpAnyC_tail (by as_aux_lemma => kernel_rfl) (by simp) (by as_aux_lemma => kernel_rfl) ?_; simp only [List.drop_succ_cons, List.drop_zero]; clear hsh
      go_wp2_with (fail)
      go_ret
      refine ⟨congrArg (fun x => Ending.returned (Value.string x)) ?_, HB2.out⟩
      refine bytes_eq ?_
      simp only [app_toList, HE.out, lineB]
      simp [wordsL]
    · go_wp2_with (fail)
      obtain ⟨w1, hw1⟩ : ∃ w1, w.alloc (.cells #[.string ru, .bool true, .bool true, .int .i64 v] 69) = w1 := ⟨_, rfl⟩
      rw [hw1] at HT HB HBX ⊢
      have z1 : w1.cell? ⟨w.heap.size, 0, none⟩ = some (.string ru) := block_cell HBX.out 0
      have z2 : w1.cell? ⟨w.heap.size, 3, none⟩ = some (.int .i64 v) := block_cell HBX.out 3
      clear hw1
      have hs1 : (⟨#[32, 98, 101, 103, 97, 110]⟩ : ByteArray).size = 6 := rfl
      have hs2 : (⟨#[32, 40]⟩ : ByteArray).size = 2 := rfl
      have hs3 : (⟨#[41]⟩ : ByteArray).size = 1 := rfl
      have hq1 : (ru ++ (⟨#[32, 98, 101, 103, 97, 110]⟩ : ByteArray)).size = ru.size + 6 := by rw [ByteArray.size_append, hs1]
      have nb1 : ¬ 9223372036854775807 < ru.size + 6 := by omega
      have nb2 : ¬ 9223372036854775807 < ru.size + 6 + 2 := by omega
      have nb3 : ¬ 9223372036854775807 < ru.size + 8 := by omega
      have nb4 : ¬ 9223372036854775807 < ru.size + 6 + 2 + tz.size := by omega
      have nb5 : ¬ 9223372036854775807 < ru.size + 8 + tz.size := by omega
      have nb6 : ¬ 9223372036854775807 < ru.size + 6 + 2 + tz.size + 1 := by omega
      have hq2 : (ru ++ (⟨#[32, 98, 101, 103, 97, 110]⟩ : ByteArray) ++ (⟨#[32, 40]⟩ : ByteArray)).size = ru.size + 8 := by rw [ByteArray.size_append, hq1, hs2]
      have hq3 : (ru ++ (⟨#[32, 98, 101, 103, 97, 110]⟩ : ByteArray) ++ (⟨#[32, 40]⟩ : ByteArray) ++ tz).size ≤ ru.size + 73 := by rw [ByteArray.size_append, hq2]; omega
      refine wp_region_chain (fun W => W.cell? ⟨w.heap.size, 0, none⟩ = some (.string ru) ∧ W.cell? ⟨w.heap.size, 3, none⟩ = some (.int .i64 v)) 8 (by as_aux_lemma => kernel_rfl) (N := 11) (by as_aux_lemma => kernel_rfl) ?_; intro hsh
      have HS : w1.drew.cell? ⟨w.heap.size, 0, none⟩ = some (.string ru) ∧ w1.drew.cell? ⟨w.heap.size, 3, none⟩ = some (.int .i64 v) := ⟨z1, z2⟩
      refine wpAnyC_take0 (i := 0) (k := 8) (v := ?_) (d := some 17) rfl (by rfl) (by as_aux_lemma => kernel_rfl) (by as_aux_lemma => kernel_rfl) (by as_aux_lemma => kernel_rfl) hsh (by decide) (by intro _ _ _ h; exact h) (by assumption) (Or.inl ⟨by rfl, ?hy⟩) ?_; (case hy => (intro W _; go_simp; (try with_reducible rfl))); clear hsh; intro hsh
      refine wpAnyC_take (i := 1) (k := 8) (f := 40) (v := ?_) (d := some 18) rfl (by rfl) (by as_aux_lemma => kernel_rfl) (by as_aux_lemma => kernel_rfl) (by as_aux_lemma => kernel_rfl) hsh (by decide) (by as_aux_lemma => kernel_rfl) (by intro _ _ _ h; exact h) (by assumption) (Or.inl ⟨by rfl, ?hy⟩) ?_; (case hy => (rintro W ⟨y1, y2⟩; go_simp; (try with_reducible rfl))); clear hsh; intro hsh
      refine wpAnyC_take0 (i := 2) (k := 8) (v := ?_) (d := some 19) rfl (by rfl) (by as_aux_lemma => kernel_rfl) (by as_aux_lemma => kernel_rfl) (by as_aux_lemma => kernel_rfl) hsh (by decide) (by intro _ _ _ h; exact h) (by assumption) (Or.inl ⟨by rfl, ?hy⟩) ?_; (case hy => (intro W _; go_simp; (try with_reducible rfl))); clear hsh; intro hsh
      refine wpAnyC_take0 (i := 3) (k := 8) (v := ?_) (d := some 20) rfl (by rfl) (by as_aux_lemma => kernel_rfl) (by as_aux_lemma => kernel_rfl) (by as_aux_lemma => kernel_rfl) hsh (by decide) (by intro _ _ _ h; exact h) (by assumption) (Or.inl ⟨by rfl, ?hy⟩) ?_; (case hy => (intro W _; go_simp; (try with_reducible rfl))); clear hsh; intro hsh
      refine wpAnyC_take0 (i := 4) (k := 8) (v := ?_) (d := some 21) rfl (by rfl) (by as_aux_lemma => kernel_rfl) (by as_aux_lemma => kernel_rfl) (by as_aux_lemma => kernel_rfl) hsh (by decide) (by intro _ _ _ h; exact h) (by assumption) (Or.inl ⟨by rfl, ?hy⟩) ?_; (case hy => (intro W _; go_simp; (try with_reducible rfl))); clear hsh; intro hsh
      refine wpAnyC_take0 (i := 5) (k := 8) (v := ?_) (d := some 22) rfl (by rfl) (by as_aux_lemma => kernel_rfl) (by as_aux_lemma => kernel_rfl) (by as_aux_lemma => kernel_rfl) hsh (by decide) (by intro _ _ _ h; exact h) (by assumption) (Or.inl ⟨by rfl, ?hy⟩) ?_; (case hy => (intro W _; go_simp; (try with_reducible rfl))); clear hsh; intro hsh
      refine wpAnyC_take (i := 6) (k := 8) (f := 40) (v := ?_) (d := some 23) rfl (by rfl) (by as_aux_lemma => kernel_rfl) (by as_aux_lemma => kernel_rfl) (by as_aux_lemma => kernel_rfl) hsh (by decide) (by as_aux_lemma => kernel_rfl) (by intro _ _ _ h; exact h) (by assumption) (Or.inl ⟨by rfl, ?hy⟩) ?_; (case hy => (rintro W ⟨y1, y2⟩; go_simp; (try with_reducible rfl))); clear hsh; intro hsh
      refine wpAnyC_ready (rs := [7]) (by as_aux_lemma => kernel_rfl) (by simp) ?_; refine AllC.cons (i := 7) rfl (by as_aux_lemma => kernel_rfl) hsh (fun K hK => ?_) AllC.nil
      go_simp
      go_at_call 47
      refine HT.out.mono ?_
      rintro e w2 ⟨rfl, hw2⟩
      have HX2 := hide (block_below (show w1.drew.heap[w.heap.size]? = _ from HBX.out) hw2)
      have HB2 := hide (HB.out.drew.trans (hw2.mono (by have := HB.out.size; simpa using this)))
      try go_simp
      refine hK _ _ (fun _ => ⟨block_cell HX2.out 0, block_cell HX2.out 3⟩) ?_
      clear hK K hsh HS hw2
      intro hsh
      refine wpAnyC_tail (by as_aux_lemma => kernel_rfl) (by simp) (by as_aux_lemma => kernel_rfl) ?_; simp only [List.drop_succ_cons, List.drop_zero]; clear hsh
      go_wp2_with (fail)
      go_ret
      refine ⟨congrArg (fun x => Ending.returned (Value.string x)) ?_, HB2.out⟩
      refine bytes_eq ?_
      simp only [app_toList, HE.out, lineB]
      simp [wordsL]
end Go.Proofs.YtpjfihdbbgencaaDoor
