/- The closure that Tallies sorts by. -/
import Derived.Test.YtkoijhecahebgaaDoorGtCmp
import Derived.Test.YtkoijhecahebgaaDoorRegChain
import Derived.Test.YtkoijhecahebgaaDoorSortT
import Derived.Deep.Cut
namespace Go.Proofs.YtkoijhecahebgaaDoor
open Go.RowKit
set_option linter.unusedVariables false
set_option linter.unusedSimpArgs false
structure Tl where
  key : ByteArray
  why : Int
  name : ByteArray
  many : Int
  deriving DecidableEq, Inhabited
def Tl.cs (x : Tl) : List Value := [.string x.key, .int .i64 x.why, .string x.name, .int .i64 x.many]
def cmpT (a b : Tl) : Int := orI (cmpS a.key b.key) (Lib.compareInt a.why b.why) (cmpS a.name b.name)
set_option maxRecDepth 100000 in
set_option maxHeartbeats 4000000 in
theorem closureT (x y : Tl) (W : World) : Calls Tryd.prog 44 #[.agg #[.string x.key, .int .i64 x.why, .string x.name, .int .i64 x.many], .agg #[.string y.key, .int .i64 y.why, .string y.name, .int .i64 y.many]] W fun e w' => e = .returned (.int .i64 (cmpT x y)) ∧ ∃ q os', w' = Go.Sort.grow (W.drewN q) os' := by
  obtain ⟨r1, h1⟩ : ∃ r1, cmpS x.key y.key = r1 := ⟨_, rfl⟩
  obtain ⟨r2, h2⟩ : ∃ r2, Lib.compareInt x.why y.why = r2 := ⟨_, rfl⟩
  obtain ⟨r3, h3⟩ : ∃ r3, cmpS x.name y.name = r3 := ⟨_, rfl⟩
  have E := hide (show cmpT x y = orI r1 r2 r3 by rw [cmpT, h1, h2, h3])
  have C1 := hide (fun W' => show Calls Tryd.prog 46 #[.string x.key, .string y.key] W' fun e w' => e = .returned (.int .i64 r1) ∧ w' = W' from (Compare_str x.key y.key W').mono fun e w' ⟨a, b⟩ => ⟨by rw [a, h1], b.symm⟩)
  have C2 := hide (fun W' => show Calls Tryd.prog 47 #[.int .i64 x.why, .int .i64 y.why] W' fun e w' => e = .returned (.int .i64 r2) ∧ w' = W' from (Tryd.cmp_Compare_int x.why y.why W').mono fun e w' ⟨a, b⟩ => ⟨by rw [a, h2], b⟩)
  have C3 := hide (fun W' => show Calls Tryd.prog 46 #[.string x.name, .string y.name] W' fun e w' => e = .returned (.int .i64 r3) ∧ w' = W' from (Compare_str x.name y.name W').mono fun e w' ⟨a, b⟩ => ⟨by rw [a, h3], b.symm⟩)
  obtain ⟨wb, hwb⟩ : ∃ wb, (W.alloc (.cells #[.string x.key, .int .i64 x.why, .string x.name, .int .i64 x.many] 50)).alloc (.cells #[.string y.key, .int .i64 y.why, .string y.name, .int .i64 y.many] 50) = wb := ⟨_, rfl⟩
  clear h1 h2 h3
  go_enter Tryd.func44, Tryd.ntmps44
  have HX := hide (show wb.heap[W.heap.size]? = some (.cells #[.string x.key, .int .i64 x.why, .string x.name, .int .i64 x.many] 50 (0, 0)) from hwb ▸ block_below (heap_alloc_new W _) ((Below.refl _ _).alloc (Nat.le_refl _) _))
  have HY := hide (show wb.heap[W.heap.size + 1]? = some (.cells #[.string y.key, .int .i64 y.why, .string y.name, .int .i64 y.many] 50 (0, 0)) from by
    have h9 := heap_alloc_new (W.alloc (.cells #[.string x.key, .int .i64 x.why, .string x.name, .int .i64 x.many] 50)) (.cells #[.string y.key, .int .i64 y.why, .string y.name, .int .i64 y.many] 50)
    rw [hwb] at h9
    simpa using h9)
  have HSS := hide (show ∀ V, Below wb.heap.size wb V → (fun V => (V.cell? ⟨W.heap.size, 0, none⟩ = some (.string x.key) ∧ V.cell? ⟨W.heap.size, 1, none⟩ = some (.int .i64 x.why) ∧ V.cell? ⟨W.heap.size, 2, none⟩ = some (.string x.name)) ∧ V.cell? ⟨W.heap.size + 1, 0, none⟩ = some (.string y.key) ∧ V.cell? ⟨W.heap.size + 1, 1, none⟩ = some (.int .i64 y.why) ∧ V.cell? ⟨W.heap.size + 1, 2, none⟩ = some (.string y.name)) V from fun V hb => ⟨⟨(block_cell (block_below HX.out hb) 0).trans rfl, (block_cell (block_below HX.out hb) 1).trans rfl, (block_cell (block_below HX.out hb) 2).trans rfl⟩, (block_cell (block_below HY.out hb) 0).trans rfl, (block_cell (block_below HY.out hb) 1).trans rfl, (block_cell (block_below HY.out hb) 2).trans rfl⟩)
  go_wp2_with (fail)
  refine wp_region_chain (fun V => (V.cell? ⟨W.heap.size, 0, none⟩ = some (.string x.key) ∧ V.cell? ⟨W.heap.size, 1, none⟩ = some (.int .i64 x.why) ∧ V.cell? ⟨W.heap.size, 2, none⟩ = some (.string x.name)) ∧ V.cell? ⟨W.heap.size + 1, 0, none⟩ = some (.string y.key) ∧ V.cell? ⟨W.heap.size + 1, 1, none⟩ = some (.int .i64 y.why) ∧ V.cell? ⟨W.heap.size + 1, 2, none⟩ = some (.string y.name)) 16 (by as_aux_lemma => kernel_rfl) (N := 18) (by as_aux_lemma => kernel_rfl) ?_; intro hsh
  have HS := HSS.out wb.drew (below_drewN (Below.refl _ _) 1)
  refine wpAnyC_take0 (i := 0) (k := 16) (v := ?_) (d := some 5) rfl (by rfl) (by as_aux_lemma => kernel_rfl) (by as_aux_lemma => kernel_rfl) (by as_aux_lemma => kernel_rfl) hsh (by decide) (by intro _ _ _ h; exact h) (by assumption) (Or.inl ⟨by rfl, ?hy⟩) ?_; (case hy => (intro W _; go_simp; (try with_reducible rfl))); clear hsh; intro hsh
  refine wpAnyC_take (i := 1) (k := 16) (f := 40) (v := ?_) (d := some 6) rfl (by rfl) (by as_aux_lemma => kernel_rfl) (by as_aux_lemma => kernel_rfl) (by as_aux_lemma => kernel_rfl) hsh (by decide) (by as_aux_lemma => kernel_rfl) (by intro _ _ _ h; exact h) (by assumption) (Or.inl ⟨by rfl, ?hy⟩) ?_; (case hy => (rintro W ⟨⟨a0, a1, a2⟩, b0, b1, b2⟩; go_simp; (try with_reducible rfl))); clear hsh; intro hsh
  refine wpAnyC_take0 (i := 2) (k := 16) (v := ?_) (d := some 7) rfl (by rfl) (by as_aux_lemma => kernel_rfl) (by as_aux_lemma => kernel_rfl) (by as_aux_lemma => kernel_rfl) hsh (by decide) (by intro _ _ _ h; exact h) (by assumption) (Or.inl ⟨by rfl, ?hy⟩) ?_; (case hy => (intro W _; go_simp; (try with_reducible rfl))); clear hsh; intro hsh
  refine wpAnyC_take (i := 3) (k := 16) (f := 40) (v := ?_) (d := some 8) rfl (by rfl) (by as_aux_lemma => kernel_rfl) (by as_aux_lemma => kernel_rfl) (by as_aux_lemma => kernel_rfl) hsh (by decide) (by as_aux_lemma => kernel_rfl) (by intro _ _ _ h; exact h) (by assumption) (Or.inl ⟨by rfl, ?hy⟩) ?_; (case hy => (rintro W ⟨⟨a0, a1, a2⟩, b0, b1, b2⟩; go_simp; (try with_reducible rfl))); clear hsh; intro hsh
  refine wpAnyC_take0 (i := 5) (k := 16) (v := ?_) (d := some 10) rfl (by rfl) (by as_aux_lemma => kernel_rfl) (by as_aux_lemma => kernel_rfl) (by as_aux_lemma => kernel_rfl) hsh (by decide) (by intro _ _ _ h; exact h) (by assumption) (Or.inl ⟨by rfl, ?hy⟩) ?_; (case hy => (intro W _; go_simp; (try with_reducible rfl))); clear hsh; intro hsh
  refine wpAnyC_take (i := 6) (k := 16) (f := 40) (v := ?_) (d := some 11) rfl (by rfl) (by as_aux_lemma => kernel_rfl) (by as_aux_lemma => kernel_rfl) (by as_aux_lemma => kernel_rfl) hsh (by decide) (by as_aux_lemma => kernel_rfl) (by intro _ _ _ h; exact h) (by assumption) (Or.inl ⟨by rfl, ?hy⟩) ?_; (case hy => (rintro W ⟨⟨a0, a1, a2⟩, b0, b1, b2⟩; go_simp; (try with_reducible rfl))); clear hsh; intro hsh
  refine wpAnyC_take0 (i := 7) (k := 16) (v := ?_) (d := some 12) rfl (by rfl) (by as_aux_lemma => kernel_rfl) (by as_aux_lemma => kernel_rfl) (by as_aux_lemma => kernel_rfl) hsh (by decide) (by intro _ _ _ h; exact h) (by assumption) (Or.inl ⟨by rfl, ?hy⟩) ?_; (case hy => (intro W _; go_simp; (try with_reducible rfl))); clear hsh; intro hsh
  refine wpAnyC_take (i := 8) (k := 16) (f := 40) (v := ?_) (d := some 13) rfl (by rfl) (by as_aux_lemma => kernel_rfl) (by as_aux_lemma => kernel_rfl) (by as_aux_lemma => kernel_rfl) hsh (by decide) (by as_aux_lemma => kernel_rfl) (by intro _ _ _ h; exact h) (by assumption) (Or.inl ⟨by rfl, ?hy⟩) ?_; (case hy => (rintro W ⟨⟨a0, a1, a2⟩, b0, b1, b2⟩; go_simp; (try with_reducible rfl))); clear hsh; intro hsh
  refine wpAnyC_take0 (i := 10) (k := 16) (v := ?_) (d := some 15) rfl (by rfl) (by as_aux_lemma => kernel_rfl) (by as_aux_lemma => kernel_rfl) (by as_aux_lemma => kernel_rfl) hsh (by decide) (by intro _ _ _ h; exact h) (by assumption) (Or.inl ⟨by rfl, ?hy⟩) ?_; (case hy => (intro W _; go_simp; (try with_reducible rfl))); clear hsh; intro hsh
  refine wpAnyC_take (i := 11) (k := 16) (f := 40) (v := ?_) (d := some 16) rfl (by rfl) (by as_aux_lemma => kernel_rfl) (by as_aux_lemma => kernel_rfl) (by as_aux_lemma => kernel_rfl) hsh (by decide) (by as_aux_lemma => kernel_rfl) (by intro _ _ _ h; exact h) (by assumption) (Or.inl ⟨by rfl, ?hy⟩) ?_; (case hy => (rintro W ⟨⟨a0, a1, a2⟩, b0, b1, b2⟩; go_simp; (try with_reducible rfl))); clear hsh; intro hsh
  refine wpAnyC_take0 (i := 12) (k := 16) (v := ?_) (d := some 17) rfl (by rfl) (by as_aux_lemma => kernel_rfl) (by as_aux_lemma => kernel_rfl) (by as_aux_lemma => kernel_rfl) hsh (by decide) (by intro _ _ _ h; exact h) (by assumption) (Or.inl ⟨by rfl, ?hy⟩) ?_; (case hy => (intro W _; go_simp; (try with_reducible rfl))); clear hsh; intro hsh
  refine wpAnyC_take (i := 13) (k := 16) (f := 40) (v := ?_) (d := some 18) rfl (by rfl) (by as_aux_lemma => kernel_rfl) (by as_aux_lemma => kernel_rfl) (by as_aux_lemma => kernel_rfl) hsh (by decide) (by as_aux_lemma => kernel_rfl) (by intro _ _ _ h; exact h) (by assumption) (Or.inl ⟨by rfl, ?hy⟩) ?_; (case hy => (rintro W ⟨⟨a0, a1, a2⟩, b0, b1, b2⟩; go_simp; (try with_reducible rfl))); clear hsh; intro hsh
  refine wpAnyC_ready (rs := [4]) (by as_aux_lemma => kernel_rfl) (by simp) ?_; refine AllC.cons (i := 4) rfl (by as_aux_lemma => kernel_rfl) hsh (fun K hK => ?_) AllC.nil
  go_simp
  go_at_call 46
  refine (C1.out wb.drew).mono ?_
  rintro e w3 ⟨rfl, rfl⟩
  try go_simp
  refine hK _ _ (fun _ => HS) ?_
  clear hK K hsh
  intro hsh
  refine wpAnyC_ready (rs := [9]) (by as_aux_lemma => kernel_rfl) (by simp) ?_; refine AllC.cons (i := 9) rfl (by as_aux_lemma => kernel_rfl) hsh (fun K hK => ?_) AllC.nil
  go_simp
  go_at_call 47
  refine (C2.out wb.drew).mono ?_
  rintro e w3 ⟨rfl, rfl⟩
  try go_simp
  refine hK _ _ (fun _ => HS) ?_
  clear hK K hsh
  intro hsh
  refine wpAnyC_ready (rs := [14]) (by as_aux_lemma => kernel_rfl) (by simp) ?_; refine AllC.cons (i := 14) rfl (by as_aux_lemma => kernel_rfl) hsh (fun K hK => ?_) AllC.nil
  go_simp
  go_at_call 46
  refine (C3.out wb.drew).mono ?_
  rintro e w3 ⟨rfl, rfl⟩
  try go_simp
  refine hK _ _ (fun _ => HS) ?_
  clear hK K hsh
  intro hsh
  refine wpAnyC_ready (rs := [15]) (by as_aux_lemma => kernel_rfl) (by simp) ?_; refine AllC.cons (i := 15) rfl (by as_aux_lemma => kernel_rfl) hsh (fun K hK => ?_) AllC.nil
  go_simp
  have HSA := HSS.out (wb.drew.alloc (.cells #[.int .i64 r1, .int .i64 r2, .int .i64 r3] 3)) ((below_drewN (Below.refl _ _) 1).alloc (Nat.le_refl _) _)
  refine hK _ _ (fun _ => HSA) ?_
  clear hK K hsh
  intro hsh
  refine wpAnyC_tail (by as_aux_lemma => kernel_rfl) (by simp) (by as_aux_lemma => kernel_rfl) ?_; simp only [List.drop_succ_cons, List.drop_zero]; clear hsh
  go_simp
  have CO := hide (Or_three wb.heap.size 3 r1 r2 r3 (wb.drew.alloc (.cells #[.int .i64 r1, .int .i64 r2, .int .i64 r3] 3)) ((block_cell (heap_alloc_new wb.drew (.cells #[.int .i64 r1, .int .i64 r2, .int .i64 r3] 3)) 0).trans rfl) ((block_cell (heap_alloc_new wb.drew (.cells #[.int .i64 r1, .int .i64 r2, .int .i64 r3] 3)) 1).trans rfl) ((block_cell (heap_alloc_new wb.drew (.cells #[.int .i64 r1, .int .i64 r2, .int .i64 r3] 3)) 2).trans rfl))
  go_wp2_with (go_at_call 45; refine CO.out.mono ?_; rintro e w4 ⟨rfl, rfl⟩)
  go_ret
  refine ⟨by rw [E.out]; rfl, 1, #[.cells #[.string x.key, .int .i64 x.why, .string x.name, .int .i64 x.many] 50, .cells #[.string y.key, .int .i64 y.why, .string y.name, .int .i64 y.many] 50, .cells #[.int .i64 r1, .int .i64 r2, .int .i64 r3] 3], ?_⟩
  rw [← hwb, Go.Sort.alloc_eq_grow, Go.Sort.alloc_eq_grow, Go.Sort.alloc_eq_grow, Go.Sort.grow_grow, Go.Sort.grow_grow]
  rfl
theorem cmpLaysT (blk off size : Nat) (w : World) : CmpLays Tryd.prog 44 #[] Tl.cs 4 cmpT blk off size w :=
  fun _ _ _ _ x y => closureT x y _
end Go.Proofs.YtkoijhecahebgaaDoor
