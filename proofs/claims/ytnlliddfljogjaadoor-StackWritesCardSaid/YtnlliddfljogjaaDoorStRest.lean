/- Walk of the reference's restOf (printed by gen_re.py). -/
import Derived.Test.YtnlliddfljogjaaDoorStHead
namespace Go.Proofs.YtnlliddfljogjaaDoor
open Go.RowKit
set_option linter.unusedVariables false
theorem info_strS : (Tryd.prog.info? 9).map (fun i => (i.zero, i.size, i.bytes)) = some (some (.string ByteArray.empty), 1, 16) := by kernel_rfl
/-- What an append of a new block's cells leaves. -/
theorem push_step {w Wp w1 : World} {v : Value} {n : Nat} {S T : TypeId} {xs : List Value} {bx : Array Value} {o : Obj} (HB : Below w.heap.size w Wp) (HX : Wp.heap[w.heap.size]? = some (.cells bx T (0, 0))) (HO : Wp.ownsRow w.heap.size S 1 v n xs) (hne : S ≠ T) (hg : (Wp.alloc o).grownBy w1 v.ownBlock) :
    Below w.heap.size w w1 ∧ w1.heap[w.heap.size]? = some (.cells bx T (0, 0)) := by
  have hz := HB.size
  have hal : (Wp.alloc o).heap[w.heap.size]? = some (.cells bx T (0, 0)) := block_below HX ((Below.refl _ _).alloc (Nat.le_refl _) o)
  refine ⟨(HB.alloc hz o).grown hg (by simp; omega) (fun j hj => (HO.lt j hj).1), (hg.block w.heap.size (lt_of_block hal) (fun e => own_other' HO HX hne e.symm)).trans hal⟩
set_option maxRecDepth 100000 in
set_option maxHeartbeats 16000000 in
theorem restOf_any (x : Frame) (w : World) (hx : x.good) :
    Calls Tryd.prog 21 #[.agg #[.string x.mod, .string x.fn, .string x.file, .int .i64 x.line, .int .i64 x.addr, .bool x.own]] w fun e w' => e = .returned (.string ⟨(restL x).toArray⟩) ∧ Below w.heap.size w w' := by
  obtain ⟨b0, b1, b2, b3, b4, b5, b6⟩ := hx
  obtain ⟨i0, hi0, iz0, iz1, iz2⟩ := info_parts info_strS
  obtain ⟨tb, htb⟩ : ∃ tb : ByteArray, ⟨(toldL x.line).toArray⟩ = tb := ⟨_, rfl⟩
  have htl : tb.data.toList = toldL x.line := by rw [← htb]
  have hts : tb.size ≤ 7 := by rw [size_of htl]; exact told_len b3 b4
  obtain ⟨xb, hxb⟩ : ∃ xb : ByteArray, ⟨(digs 16 x.addr.toNat).toArray⟩ = xb := ⟨_, rfl⟩
  have hxl : xb.data.toList = digs 16 x.addr.toNat := by rw [← hxb]
  have hxs : xb.size ≤ 12 := by rw [size_of hxl]; exact hex_len b6
  have HTD := hide (fun W => Told_any x.line W b3 (by omega))
  rw [htb] at HTD
  have HTL := hide htl
  have HXL := hide hxl
  have HIB := hide (show ∀ W, 0 ≤ x.addr → Calls Tryd.prog 34 #[.int .i64 x.addr, .int .i64 16] W fun e w' => e = .returned (.string xb) ∧ Below W.heap.size W w' from fun W h0 => by
    have h := inBase_any x.addr.toNat 16 W (by decide) (by decide) (by omega)
    rw [hxb, Int.toNat_of_nonneg h0] at h
    exact h)
  have ZZ := hide (show (⟨#[40]⟩ : ByteArray).size = 1 ∧ (⟨#[41]⟩ : ByteArray).size = 1 ∧ (⟨#[58]⟩ : ByteArray).size = 1 ∧ (⟨#[64]⟩ : ByteArray).size = 1 ∧ (⟨#[42]⟩ : ByteArray).size = 1 from ⟨rfl, rfl, rfl, rfl, rfl⟩)
  have HNE : (9 : TypeId) ≠ 35 := by decide
  clear htb htl hxb hxl
  cases hfe : emptyB x.file
  · have f1 : x.file.toList.isEmpty = false := hfe
    have f2 : ¬ x.file.toList = [] := by rw [← List.isEmpty_iff, f1]; decide
    by_cases hl : x.line = 0
    · by_cases ha : x.addr = -1
      · have ha1 : decide (0 ≤ x.addr) = false := by simp; omega
        cases ho : x.own
        · have E := hide (show restL x = _ by unfold restL placeL partA partB partC; rw [if_neg (by rw [hfe]; decide), if_pos hl, if_pos ha, if_neg (by rw [ho]; decide)])
          have HB0 := hide ((Below.refl w.heap.size w).alloc (Nat.le_refl _) (.cells #[.string x.mod, .string x.fn, .string x.file, .int .i64 0, .int .i64 (-1), .bool false] 35))
          have HX0 := hide (heap_alloc_new w (.cells #[.string x.mod, .string x.fn, .string x.file, .int .i64 0, .int .i64 (-1), .bool false] 35))
          have HO0 := hide (World.ownsRow_nil (w.alloc (.cells #[.string x.mod, .string x.fn, .string x.file, .int .i64 0, .int .i64 (-1), .bool false] 35)) w.heap.size 9 1)
          have r0 := HB0.out.size
          clear hfe
          go_enter Tryd.func21, Tryd.ntmps21
          go_wp2_with (first | (at_builtin; refine wpList_append_own _ rfl (.tmp 20) (.tmp 23) 45 rfl w.heap.size 9 i0 (.string ByteArray.empty) 1 16 Tryd.underlying45 hi0 iz0 iz1 iz2 rfl (by decide) _ 0 _ rfl (HO0.out.alloc _) ⟨w.heap.size + 1, 0, none⟩ 1 1 [.string (⟨#[40]⟩ ++ x.file ++ ⟨#[41]⟩)] rfl rfl (cells_at _ [.string (⟨#[40]⟩ ++ x.file ++ ⟨#[41]⟩)] _ _ (by first | rfl | simp)) (by intro u hu; simp at hu; subst hu; rfl) (by unfold maxLen; omega) (by omega) (by simp; try omega) ?_; intro v1 w1 hown1 hg1 _; have hps := push_step HB0.out HX0.out HO0.out HNE hg1; have HO1 := hide hown1; have HB1 := hide hps.1; have HX1 := hide hps.2; have r1 := HB1.out.size; have q4_1 : w1.cell? ⟨w.heap.size, 4, none⟩ = some (.int .i64 (-1)) := (block_cell HX1.out 4).trans rfl; have q5_1 : w1.cell? ⟨w.heap.size, 5, none⟩ = some (.bool false) := (block_cell HX1.out 5).trans rfl; clear hown1 hg1 hps))
          obtain ⟨A, cc, rfl, hsl, hnc, hcm⟩ := sl_of_own (f := cs) (l := ([⟨#[40]⟩ ++ x.file ++ ⟨#[41]⟩] : List ByteArray)) (n := 1) (fun _ => rfl) rfl HO1.out
          refine (Join_any A 1 cc [⟨#[40]⟩ ++ x.file ++ ⟨#[41]⟩] 32 w1 hnc (by rcases hcm with h | h; exact absurd h (by decide); exact h) (by (obtain ⟨z1, z2, z3, z4, z5⟩ := ZZ.out); simp only [sumL, List.map_cons, List.map_nil, List.sum_cons, List.sum_nil, ByteArray.size_append]; omega) hsl).mono ?_
          rintro e wz ⟨rfl, hwz⟩
          have HBz := HB1.out.trans (hwz.mono HB1.out.size)
          go_wp2_with (fail)
          go_ret
          exact ⟨congrArg (fun z : List UInt8 => Ending.returned (Value.string ⟨z.toArray⟩)) (by rw [E.out]; simp [joinL, ByteArray.data_append]), HBz⟩
        · have E := hide (show restL x = _ by unfold restL placeL partA partB partC; rw [if_neg (by rw [hfe]; decide), if_pos hl, if_pos ha, if_pos ho])
          have HB0 := hide ((Below.refl w.heap.size w).alloc (Nat.le_refl _) (.cells #[.string x.mod, .string x.fn, .string x.file, .int .i64 0, .int .i64 (-1), .bool true] 35))
          have HX0 := hide (heap_alloc_new w (.cells #[.string x.mod, .string x.fn, .string x.file, .int .i64 0, .int .i64 (-1), .bool true] 35))
          have HO0 := hide (World.ownsRow_nil (w.alloc (.cells #[.string x.mod, .string x.fn, .string x.file, .int .i64 0, .int .i64 (-1), .bool true] 35)) w.heap.size 9 1)
          have r0 := HB0.out.size
          clear hfe
          go_enter Tryd.func21, Tryd.ntmps21
          go_wp2_with (first | (at_builtin; refine wpList_append_own _ rfl (.tmp 20) (.tmp 23) 45 rfl w.heap.size 9 i0 (.string ByteArray.empty) 1 16 Tryd.underlying45 hi0 iz0 iz1 iz2 rfl (by decide) _ 0 _ rfl (HO0.out.alloc _) ⟨w.heap.size + 1, 0, none⟩ 1 1 [.string (⟨#[40]⟩ ++ x.file ++ ⟨#[41]⟩)] rfl rfl (cells_at _ [.string (⟨#[40]⟩ ++ x.file ++ ⟨#[41]⟩)] _ _ (by first | rfl | simp)) (by intro u hu; simp at hu; subst hu; rfl) (by unfold maxLen; omega) (by omega) (by simp; try omega) ?_; intro v1 w1 hown1 hg1 _; have hps := push_step HB0.out HX0.out HO0.out HNE hg1; have HO1 := hide hown1; have HB1 := hide hps.1; have HX1 := hide hps.2; have r1 := HB1.out.size; have q4_1 : w1.cell? ⟨w.heap.size, 4, none⟩ = some (.int .i64 (-1)) := (block_cell HX1.out 4).trans rfl; have q5_1 : w1.cell? ⟨w.heap.size, 5, none⟩ = some (.bool true) := (block_cell HX1.out 5).trans rfl; clear hown1 hg1 hps) | (at_builtin; refine wpList_append_own _ rfl (.tmp 37) (.tmp 38) 45 rfl w.heap.size 9 i0 (.string ByteArray.empty) 1 16 Tryd.underlying45 hi0 iz0 iz1 iz2 rfl (by decide) _ 1 _ rfl (HO1.out.alloc _) ⟨w1.heap.size, 0, none⟩ 1 1 [.string (⟨#[42]⟩)] rfl rfl (cells_at _ [.string (⟨#[42]⟩)] _ _ (by first | rfl | simp)) (by intro u hu; simp at hu; subst hu; rfl) (by unfold maxLen; omega) (by omega) (by simp; try omega) ?_; intro v2 w2 hown2 hg2 _; have hps := push_step HB1.out HX1.out HO1.out HNE hg2; have HO2 := hide hown2; have HB2 := hide hps.1; have HX2 := hide hps.2; have r2 := HB2.out.size; have q4_2 : w2.cell? ⟨w.heap.size, 4, none⟩ = some (.int .i64 (-1)) := (block_cell HX2.out 4).trans rfl; have q5_2 : w2.cell? ⟨w.heap.size, 5, none⟩ = some (.bool true) := (block_cell HX2.out 5).trans rfl; clear hown2 hg2 hps))
          obtain ⟨A, cc, rfl, hsl, hnc, hcm⟩ := sl_of_own (f := cs) (l := ([⟨#[40]⟩ ++ x.file ++ ⟨#[41]⟩, ⟨#[42]⟩] : List ByteArray)) (n := 2) (fun _ => rfl) rfl HO2.out
          refine (Join_any A 2 cc [⟨#[40]⟩ ++ x.file ++ ⟨#[41]⟩, ⟨#[42]⟩] 32 w2 hnc (by rcases hcm with h | h; exact absurd h (by decide); exact h) (by (obtain ⟨z1, z2, z3, z4, z5⟩ := ZZ.out); simp only [sumL, List.map_cons, List.map_nil, List.sum_cons, List.sum_nil, ByteArray.size_append]; omega) hsl).mono ?_
          rintro e wz ⟨rfl, hwz⟩
          have HBz := HB2.out.trans (hwz.mono HB2.out.size)
          go_wp2_with (fail)
          go_ret
          exact ⟨congrArg (fun z : List UInt8 => Ending.returned (Value.string ⟨z.toArray⟩)) (by rw [E.out]; simp [joinL, ByteArray.data_append]), HBz⟩
      · have ha0 : 0 ≤ x.addr := by omega
        cases ho : x.own
        · have E := hide (show restL x = _ by unfold restL placeL partA partB partC; rw [if_neg (by rw [hfe]; decide), if_pos hl, if_neg ha, if_neg (by rw [ho]; decide)])
          have HB0 := hide ((Below.refl w.heap.size w).alloc (Nat.le_refl _) (.cells #[.string x.mod, .string x.fn, .string x.file, .int .i64 0, .int .i64 x.addr, .bool false] 35))
          have HX0 := hide (heap_alloc_new w (.cells #[.string x.mod, .string x.fn, .string x.file, .int .i64 0, .int .i64 x.addr, .bool false] 35))
          have HO0 := hide (World.ownsRow_nil (w.alloc (.cells #[.string x.mod, .string x.fn, .string x.file, .int .i64 0, .int .i64 x.addr, .bool false] 35)) w.heap.size 9 1)
          have r0 := HB0.out.size
          clear hfe
          go_enter Tryd.func21, Tryd.ntmps21
          go_wp2_with (first | (at_builtin; refine wpList_append_own _ rfl (.tmp 20) (.tmp 23) 45 rfl w.heap.size 9 i0 (.string ByteArray.empty) 1 16 Tryd.underlying45 hi0 iz0 iz1 iz2 rfl (by decide) _ 0 _ rfl (HO0.out.alloc _) ⟨w.heap.size + 1, 0, none⟩ 1 1 [.string (⟨#[40]⟩ ++ x.file ++ ⟨#[41]⟩)] rfl rfl (cells_at _ [.string (⟨#[40]⟩ ++ x.file ++ ⟨#[41]⟩)] _ _ (by first | rfl | simp)) (by intro u hu; simp at hu; subst hu; rfl) (by unfold maxLen; omega) (by omega) (by simp; try omega) ?_; intro v1 w1 hown1 hg1 _; have hps := push_step HB0.out HX0.out HO0.out HNE hg1; have HO1 := hide hown1; have HB1 := hide hps.1; have HX1 := hide hps.2; have r1 := HB1.out.size; have q4_1 : w1.cell? ⟨w.heap.size, 4, none⟩ = some (.int .i64 x.addr) := (block_cell HX1.out 4).trans rfl; have q5_1 : w1.cell? ⟨w.heap.size, 5, none⟩ = some (.bool false) := (block_cell HX1.out 5).trans rfl; clear hown1 hg1 hps))
          refine (HIB.out _ ha0).mono ?_
          rintro e w2 ⟨rfl, hw2⟩
          have HB2 := hide (HB1.out.trans (hw2.mono HB1.out.size))
          have HX2 := hide (block_below HX1.out hw2)
          have HO2 := hide (own_below HO1.out hw2)
          have r2 := HB2.out.size
          have q4_2 : w2.cell? ⟨w.heap.size, 4, none⟩ = some (.int .i64 x.addr) := (block_cell HX2.out 4).trans rfl
          have q5_2 : w2.cell? ⟨w.heap.size, 5, none⟩ = some (.bool false) := (block_cell HX2.out 5).trans rfl
          clear hw2
          go_wp2_with (first | (at_builtin; refine wpList_append_own _ rfl (.tmp 28) (.tmp 33) 45 rfl w.heap.size 9 i0 (.string ByteArray.empty) 1 16 Tryd.underlying45 hi0 iz0 iz1 iz2 rfl (by decide) _ 1 _ rfl (HO2.out.alloc _) ⟨w2.heap.size, 0, none⟩ 1 1 [.string (⟨#[64]⟩ ++ xb)] rfl rfl (cells_at _ [.string (⟨#[64]⟩ ++ xb)] _ _ (by first | rfl | simp)) (by intro u hu; simp at hu; subst hu; rfl) (by unfold maxLen; omega) (by omega) (by simp; try omega) ?_; intro v3 w3 hown3 hg3 _; have hps := push_step HB2.out HX2.out HO2.out HNE hg3; have HO3 := hide hown3; have HB3 := hide hps.1; have HX3 := hide hps.2; have r3 := HB3.out.size; have q4_3 : w3.cell? ⟨w.heap.size, 4, none⟩ = some (.int .i64 x.addr) := (block_cell HX3.out 4).trans rfl; have q5_3 : w3.cell? ⟨w.heap.size, 5, none⟩ = some (.bool false) := (block_cell HX3.out 5).trans rfl; clear hown3 hg3 hps))
          obtain ⟨A, cc, rfl, hsl, hnc, hcm⟩ := sl_of_own (f := cs) (l := ([⟨#[40]⟩ ++ x.file ++ ⟨#[41]⟩, ⟨#[64]⟩ ++ xb] : List ByteArray)) (n := 2) (fun _ => rfl) rfl HO3.out
          refine (Join_any A 2 cc [⟨#[40]⟩ ++ x.file ++ ⟨#[41]⟩, ⟨#[64]⟩ ++ xb] 32 w3 hnc (by rcases hcm with h | h; exact absurd h (by decide); exact h) (by (obtain ⟨z1, z2, z3, z4, z5⟩ := ZZ.out); simp only [sumL, List.map_cons, List.map_nil, List.sum_cons, List.sum_nil, ByteArray.size_append]; omega) hsl).mono ?_
          rintro e wz ⟨rfl, hwz⟩
          have HBz := HB3.out.trans (hwz.mono HB3.out.size)
          go_wp2_with (fail)
          go_ret
          exact ⟨congrArg (fun z : List UInt8 => Ending.returned (Value.string ⟨z.toArray⟩)) (by rw [E.out]; simp [joinL, ByteArray.data_append, HXL.out]), HBz⟩
        · have E := hide (show restL x = _ by unfold restL placeL partA partB partC; rw [if_neg (by rw [hfe]; decide), if_pos hl, if_neg ha, if_pos ho])
          have HB0 := hide ((Below.refl w.heap.size w).alloc (Nat.le_refl _) (.cells #[.string x.mod, .string x.fn, .string x.file, .int .i64 0, .int .i64 x.addr, .bool true] 35))
          have HX0 := hide (heap_alloc_new w (.cells #[.string x.mod, .string x.fn, .string x.file, .int .i64 0, .int .i64 x.addr, .bool true] 35))
          have HO0 := hide (World.ownsRow_nil (w.alloc (.cells #[.string x.mod, .string x.fn, .string x.file, .int .i64 0, .int .i64 x.addr, .bool true] 35)) w.heap.size 9 1)
          have r0 := HB0.out.size
          clear hfe
          go_enter Tryd.func21, Tryd.ntmps21
          go_wp2_with (first | (at_builtin; refine wpList_append_own _ rfl (.tmp 20) (.tmp 23) 45 rfl w.heap.size 9 i0 (.string ByteArray.empty) 1 16 Tryd.underlying45 hi0 iz0 iz1 iz2 rfl (by decide) _ 0 _ rfl (HO0.out.alloc _) ⟨w.heap.size + 1, 0, none⟩ 1 1 [.string (⟨#[40]⟩ ++ x.file ++ ⟨#[41]⟩)] rfl rfl (cells_at _ [.string (⟨#[40]⟩ ++ x.file ++ ⟨#[41]⟩)] _ _ (by first | rfl | simp)) (by intro u hu; simp at hu; subst hu; rfl) (by unfold maxLen; omega) (by omega) (by simp; try omega) ?_; intro v1 w1 hown1 hg1 _; have hps := push_step HB0.out HX0.out HO0.out HNE hg1; have HO1 := hide hown1; have HB1 := hide hps.1; have HX1 := hide hps.2; have r1 := HB1.out.size; have q4_1 : w1.cell? ⟨w.heap.size, 4, none⟩ = some (.int .i64 x.addr) := (block_cell HX1.out 4).trans rfl; have q5_1 : w1.cell? ⟨w.heap.size, 5, none⟩ = some (.bool true) := (block_cell HX1.out 5).trans rfl; clear hown1 hg1 hps))
          refine (HIB.out _ ha0).mono ?_
          rintro e w2 ⟨rfl, hw2⟩
          have HB2 := hide (HB1.out.trans (hw2.mono HB1.out.size))
          have HX2 := hide (block_below HX1.out hw2)
          have HO2 := hide (own_below HO1.out hw2)
          have r2 := HB2.out.size
          have q4_2 : w2.cell? ⟨w.heap.size, 4, none⟩ = some (.int .i64 x.addr) := (block_cell HX2.out 4).trans rfl
          have q5_2 : w2.cell? ⟨w.heap.size, 5, none⟩ = some (.bool true) := (block_cell HX2.out 5).trans rfl
          clear hw2
          go_wp2_with (first | (at_builtin; refine wpList_append_own _ rfl (.tmp 28) (.tmp 33) 45 rfl w.heap.size 9 i0 (.string ByteArray.empty) 1 16 Tryd.underlying45 hi0 iz0 iz1 iz2 rfl (by decide) _ 1 _ rfl (HO2.out.alloc _) ⟨w2.heap.size, 0, none⟩ 1 1 [.string (⟨#[64]⟩ ++ xb)] rfl rfl (cells_at _ [.string (⟨#[64]⟩ ++ xb)] _ _ (by first | rfl | simp)) (by intro u hu; simp at hu; subst hu; rfl) (by unfold maxLen; omega) (by omega) (by simp; try omega) ?_; intro v3 w3 hown3 hg3 _; have hps := push_step HB2.out HX2.out HO2.out HNE hg3; have HO3 := hide hown3; have HB3 := hide hps.1; have HX3 := hide hps.2; have r3 := HB3.out.size; have q4_3 : w3.cell? ⟨w.heap.size, 4, none⟩ = some (.int .i64 x.addr) := (block_cell HX3.out 4).trans rfl; have q5_3 : w3.cell? ⟨w.heap.size, 5, none⟩ = some (.bool true) := (block_cell HX3.out 5).trans rfl; clear hown3 hg3 hps) | (at_builtin; refine wpList_append_own _ rfl (.tmp 37) (.tmp 38) 45 rfl w.heap.size 9 i0 (.string ByteArray.empty) 1 16 Tryd.underlying45 hi0 iz0 iz1 iz2 rfl (by decide) _ 2 _ rfl (HO3.out.alloc _) ⟨w3.heap.size, 0, none⟩ 1 1 [.string (⟨#[42]⟩)] rfl rfl (cells_at _ [.string (⟨#[42]⟩)] _ _ (by first | rfl | simp)) (by intro u hu; simp at hu; subst hu; rfl) (by unfold maxLen; omega) (by omega) (by simp; try omega) ?_; intro v4 w4 hown4 hg4 _; have hps := push_step HB3.out HX3.out HO3.out HNE hg4; have HO4 := hide hown4; have HB4 := hide hps.1; have HX4 := hide hps.2; have r4 := HB4.out.size; have q4_4 : w4.cell? ⟨w.heap.size, 4, none⟩ = some (.int .i64 x.addr) := (block_cell HX4.out 4).trans rfl; have q5_4 : w4.cell? ⟨w.heap.size, 5, none⟩ = some (.bool true) := (block_cell HX4.out 5).trans rfl; clear hown4 hg4 hps))
          obtain ⟨A, cc, rfl, hsl, hnc, hcm⟩ := sl_of_own (f := cs) (l := ([⟨#[40]⟩ ++ x.file ++ ⟨#[41]⟩, ⟨#[64]⟩ ++ xb, ⟨#[42]⟩] : List ByteArray)) (n := 3) (fun _ => rfl) rfl HO4.out
          refine (Join_any A 3 cc [⟨#[40]⟩ ++ x.file ++ ⟨#[41]⟩, ⟨#[64]⟩ ++ xb, ⟨#[42]⟩] 32 w4 hnc (by rcases hcm with h | h; exact absurd h (by decide); exact h) (by (obtain ⟨z1, z2, z3, z4, z5⟩ := ZZ.out); simp only [sumL, List.map_cons, List.map_nil, List.sum_cons, List.sum_nil, ByteArray.size_append]; omega) hsl).mono ?_
          rintro e wz ⟨rfl, hwz⟩
          have HBz := HB4.out.trans (hwz.mono HB4.out.size)
          go_wp2_with (fail)
          go_ret
          exact ⟨congrArg (fun z : List UInt8 => Ending.returned (Value.string ⟨z.toArray⟩)) (by rw [E.out]; simp [joinL, ByteArray.data_append, HXL.out]), HBz⟩
    · have hl0 : 0 < x.line := by omega
      by_cases ha : x.addr = -1
      · have ha1 : decide (0 ≤ x.addr) = false := by simp; omega
        cases ho : x.own
        · have E := hide (show restL x = _ by unfold restL placeL partA partB partC; rw [if_neg (by rw [hfe]; decide), if_neg hl, if_pos ha, if_neg (by rw [ho]; decide)])
          have HB0 := hide ((Below.refl w.heap.size w).alloc (Nat.le_refl _) (.cells #[.string x.mod, .string x.fn, .string x.file, .int .i64 x.line, .int .i64 (-1), .bool false] 35))
          have HX0 := hide (heap_alloc_new w (.cells #[.string x.mod, .string x.fn, .string x.file, .int .i64 x.line, .int .i64 (-1), .bool false] 35))
          have HO0 := hide (World.ownsRow_nil (w.alloc (.cells #[.string x.mod, .string x.fn, .string x.file, .int .i64 x.line, .int .i64 (-1), .bool false] 35)) w.heap.size 9 1)
          have r0 := HB0.out.size
          clear hfe
          go_enter Tryd.func21, Tryd.ntmps21
          go_wp2_with (fail)
          refine (HTD.out _).mono ?_
          rintro e w1 ⟨rfl, hw1⟩
          have HB1 := hide (HB0.out.trans (hw1.mono HB0.out.size))
          have HX1 := hide (block_below HX0.out hw1)
          have HO1 := hide (own_below HO0.out hw1)
          have r1 := HB1.out.size
          have q4_1 : w1.cell? ⟨w.heap.size, 4, none⟩ = some (.int .i64 (-1)) := (block_cell HX1.out 4).trans rfl
          have q5_1 : w1.cell? ⟨w.heap.size, 5, none⟩ = some (.bool false) := (block_cell HX1.out 5).trans rfl
          clear hw1
          go_wp2_with (first | (at_builtin; refine wpList_append_own _ rfl (.tmp 20) (.tmp 23) 45 rfl w.heap.size 9 i0 (.string ByteArray.empty) 1 16 Tryd.underlying45 hi0 iz0 iz1 iz2 rfl (by decide) _ 0 _ rfl (HO1.out.alloc _) ⟨w1.heap.size, 0, none⟩ 1 1 [.string (⟨#[40]⟩ ++ x.file ++ (⟨#[58]⟩ ++ tb) ++ ⟨#[41]⟩)] rfl rfl (cells_at _ [.string (⟨#[40]⟩ ++ x.file ++ (⟨#[58]⟩ ++ tb) ++ ⟨#[41]⟩)] _ _ (by first | rfl | simp)) (by intro u hu; simp at hu; subst hu; rfl) (by unfold maxLen; omega) (by omega) (by simp; try omega) ?_; intro v2 w2 hown2 hg2 _; have hps := push_step HB1.out HX1.out HO1.out HNE hg2; have HO2 := hide hown2; have HB2 := hide hps.1; have HX2 := hide hps.2; have r2 := HB2.out.size; have q4_2 : w2.cell? ⟨w.heap.size, 4, none⟩ = some (.int .i64 (-1)) := (block_cell HX2.out 4).trans rfl; have q5_2 : w2.cell? ⟨w.heap.size, 5, none⟩ = some (.bool false) := (block_cell HX2.out 5).trans rfl; clear hown2 hg2 hps))
          obtain ⟨A, cc, rfl, hsl, hnc, hcm⟩ := sl_of_own (f := cs) (l := ([⟨#[40]⟩ ++ x.file ++ (⟨#[58]⟩ ++ tb) ++ ⟨#[41]⟩] : List ByteArray)) (n := 1) (fun _ => rfl) rfl HO2.out
          refine (Join_any A 1 cc [⟨#[40]⟩ ++ x.file ++ (⟨#[58]⟩ ++ tb) ++ ⟨#[41]⟩] 32 w2 hnc (by rcases hcm with h | h; exact absurd h (by decide); exact h) (by (obtain ⟨z1, z2, z3, z4, z5⟩ := ZZ.out); simp only [sumL, List.map_cons, List.map_nil, List.sum_cons, List.sum_nil, ByteArray.size_append]; omega) hsl).mono ?_
          rintro e wz ⟨rfl, hwz⟩
          have HBz := HB2.out.trans (hwz.mono HB2.out.size)
          go_wp2_with (fail)
          go_ret
          exact ⟨congrArg (fun z : List UInt8 => Ending.returned (Value.string ⟨z.toArray⟩)) (by rw [E.out]; simp [joinL, ByteArray.data_append, HTL.out]), HBz⟩
        · have E := hide (show restL x = _ by unfold restL placeL partA partB partC; rw [if_neg (by rw [hfe]; decide), if_neg hl, if_pos ha, if_pos ho])
          have HB0 := hide ((Below.refl w.heap.size w).alloc (Nat.le_refl _) (.cells #[.string x.mod, .string x.fn, .string x.file, .int .i64 x.line, .int .i64 (-1), .bool true] 35))
          have HX0 := hide (heap_alloc_new w (.cells #[.string x.mod, .string x.fn, .string x.file, .int .i64 x.line, .int .i64 (-1), .bool true] 35))
          have HO0 := hide (World.ownsRow_nil (w.alloc (.cells #[.string x.mod, .string x.fn, .string x.file, .int .i64 x.line, .int .i64 (-1), .bool true] 35)) w.heap.size 9 1)
          have r0 := HB0.out.size
          clear hfe
          go_enter Tryd.func21, Tryd.ntmps21
          go_wp2_with (fail)
          refine (HTD.out _).mono ?_
          rintro e w1 ⟨rfl, hw1⟩
          have HB1 := hide (HB0.out.trans (hw1.mono HB0.out.size))
          have HX1 := hide (block_below HX0.out hw1)
          have HO1 := hide (own_below HO0.out hw1)
          have r1 := HB1.out.size
          have q4_1 : w1.cell? ⟨w.heap.size, 4, none⟩ = some (.int .i64 (-1)) := (block_cell HX1.out 4).trans rfl
          have q5_1 : w1.cell? ⟨w.heap.size, 5, none⟩ = some (.bool true) := (block_cell HX1.out 5).trans rfl
          clear hw1
          go_wp2_with (first | (at_builtin; refine wpList_append_own _ rfl (.tmp 20) (.tmp 23) 45 rfl w.heap.size 9 i0 (.string ByteArray.empty) 1 16 Tryd.underlying45 hi0 iz0 iz1 iz2 rfl (by decide) _ 0 _ rfl (HO1.out.alloc _) ⟨w1.heap.size, 0, none⟩ 1 1 [.string (⟨#[40]⟩ ++ x.file ++ (⟨#[58]⟩ ++ tb) ++ ⟨#[41]⟩)] rfl rfl (cells_at _ [.string (⟨#[40]⟩ ++ x.file ++ (⟨#[58]⟩ ++ tb) ++ ⟨#[41]⟩)] _ _ (by first | rfl | simp)) (by intro u hu; simp at hu; subst hu; rfl) (by unfold maxLen; omega) (by omega) (by simp; try omega) ?_; intro v2 w2 hown2 hg2 _; have hps := push_step HB1.out HX1.out HO1.out HNE hg2; have HO2 := hide hown2; have HB2 := hide hps.1; have HX2 := hide hps.2; have r2 := HB2.out.size; have q4_2 : w2.cell? ⟨w.heap.size, 4, none⟩ = some (.int .i64 (-1)) := (block_cell HX2.out 4).trans rfl; have q5_2 : w2.cell? ⟨w.heap.size, 5, none⟩ = some (.bool true) := (block_cell HX2.out 5).trans rfl; clear hown2 hg2 hps) | (at_builtin; refine wpList_append_own _ rfl (.tmp 37) (.tmp 38) 45 rfl w.heap.size 9 i0 (.string ByteArray.empty) 1 16 Tryd.underlying45 hi0 iz0 iz1 iz2 rfl (by decide) _ 1 _ rfl (HO2.out.alloc _) ⟨w2.heap.size, 0, none⟩ 1 1 [.string (⟨#[42]⟩)] rfl rfl (cells_at _ [.string (⟨#[42]⟩)] _ _ (by first | rfl | simp)) (by intro u hu; simp at hu; subst hu; rfl) (by unfold maxLen; omega) (by omega) (by simp; try omega) ?_; intro v3 w3 hown3 hg3 _; have hps := push_step HB2.out HX2.out HO2.out HNE hg3; have HO3 := hide hown3; have HB3 := hide hps.1; have HX3 := hide hps.2; have r3 := HB3.out.size; have q4_3 : w3.cell? ⟨w.heap.size, 4, none⟩ = some (.int .i64 (-1)) := (block_cell HX3.out 4).trans rfl; have q5_3 : w3.cell? ⟨w.heap.size, 5, none⟩ = some (.bool true) := (block_cell HX3.out 5).trans rfl; clear hown3 hg3 hps))
          obtain ⟨A, cc, rfl, hsl, hnc, hcm⟩ := sl_of_own (f := cs) (l := ([⟨#[40]⟩ ++ x.file ++ (⟨#[58]⟩ ++ tb) ++ ⟨#[41]⟩, ⟨#[42]⟩] : List ByteArray)) (n := 2) (fun _ => rfl) rfl HO3.out
          refine (Join_any A 2 cc [⟨#[40]⟩ ++ x.file ++ (⟨#[58]⟩ ++ tb) ++ ⟨#[41]⟩, ⟨#[42]⟩] 32 w3 hnc (by rcases hcm with h | h; exact absurd h (by decide); exact h) (by (obtain ⟨z1, z2, z3, z4, z5⟩ := ZZ.out); simp only [sumL, List.map_cons, List.map_nil, List.sum_cons, List.sum_nil, ByteArray.size_append]; omega) hsl).mono ?_
          rintro e wz ⟨rfl, hwz⟩
          have HBz := HB3.out.trans (hwz.mono HB3.out.size)
          go_wp2_with (fail)
          go_ret
          exact ⟨congrArg (fun z : List UInt8 => Ending.returned (Value.string ⟨z.toArray⟩)) (by rw [E.out]; simp [joinL, ByteArray.data_append, HTL.out]), HBz⟩
      · have ha0 : 0 ≤ x.addr := by omega
        cases ho : x.own
        · have E := hide (show restL x = _ by unfold restL placeL partA partB partC; rw [if_neg (by rw [hfe]; decide), if_neg hl, if_neg ha, if_neg (by rw [ho]; decide)])
          have HB0 := hide ((Below.refl w.heap.size w).alloc (Nat.le_refl _) (.cells #[.string x.mod, .string x.fn, .string x.file, .int .i64 x.line, .int .i64 x.addr, .bool false] 35))
          have HX0 := hide (heap_alloc_new w (.cells #[.string x.mod, .string x.fn, .string x.file, .int .i64 x.line, .int .i64 x.addr, .bool false] 35))
          have HO0 := hide (World.ownsRow_nil (w.alloc (.cells #[.string x.mod, .string x.fn, .string x.file, .int .i64 x.line, .int .i64 x.addr, .bool false] 35)) w.heap.size 9 1)
          have r0 := HB0.out.size
          clear hfe
          go_enter Tryd.func21, Tryd.ntmps21
          go_wp2_with (fail)
          refine (HTD.out _).mono ?_
          rintro e w1 ⟨rfl, hw1⟩
          have HB1 := hide (HB0.out.trans (hw1.mono HB0.out.size))
          have HX1 := hide (block_below HX0.out hw1)
          have HO1 := hide (own_below HO0.out hw1)
          have r1 := HB1.out.size
          have q4_1 : w1.cell? ⟨w.heap.size, 4, none⟩ = some (.int .i64 x.addr) := (block_cell HX1.out 4).trans rfl
          have q5_1 : w1.cell? ⟨w.heap.size, 5, none⟩ = some (.bool false) := (block_cell HX1.out 5).trans rfl
          clear hw1
          go_wp2_with (first | (at_builtin; refine wpList_append_own _ rfl (.tmp 20) (.tmp 23) 45 rfl w.heap.size 9 i0 (.string ByteArray.empty) 1 16 Tryd.underlying45 hi0 iz0 iz1 iz2 rfl (by decide) _ 0 _ rfl (HO1.out.alloc _) ⟨w1.heap.size, 0, none⟩ 1 1 [.string (⟨#[40]⟩ ++ x.file ++ (⟨#[58]⟩ ++ tb) ++ ⟨#[41]⟩)] rfl rfl (cells_at _ [.string (⟨#[40]⟩ ++ x.file ++ (⟨#[58]⟩ ++ tb) ++ ⟨#[41]⟩)] _ _ (by first | rfl | simp)) (by intro u hu; simp at hu; subst hu; rfl) (by unfold maxLen; omega) (by omega) (by simp; try omega) ?_; intro v2 w2 hown2 hg2 _; have hps := push_step HB1.out HX1.out HO1.out HNE hg2; have HO2 := hide hown2; have HB2 := hide hps.1; have HX2 := hide hps.2; have r2 := HB2.out.size; have q4_2 : w2.cell? ⟨w.heap.size, 4, none⟩ = some (.int .i64 x.addr) := (block_cell HX2.out 4).trans rfl; have q5_2 : w2.cell? ⟨w.heap.size, 5, none⟩ = some (.bool false) := (block_cell HX2.out 5).trans rfl; clear hown2 hg2 hps))
          refine (HIB.out _ ha0).mono ?_
          rintro e w3 ⟨rfl, hw3⟩
          have HB3 := hide (HB2.out.trans (hw3.mono HB2.out.size))
          have HX3 := hide (block_below HX2.out hw3)
          have HO3 := hide (own_below HO2.out hw3)
          have r3 := HB3.out.size
          have q4_3 : w3.cell? ⟨w.heap.size, 4, none⟩ = some (.int .i64 x.addr) := (block_cell HX3.out 4).trans rfl
          have q5_3 : w3.cell? ⟨w.heap.size, 5, none⟩ = some (.bool false) := (block_cell HX3.out 5).trans rfl
          clear hw3
          go_wp2_with (first | (at_builtin; refine wpList_append_own _ rfl (.tmp 28) (.tmp 33) 45 rfl w.heap.size 9 i0 (.string ByteArray.empty) 1 16 Tryd.underlying45 hi0 iz0 iz1 iz2 rfl (by decide) _ 1 _ rfl (HO3.out.alloc _) ⟨w3.heap.size, 0, none⟩ 1 1 [.string (⟨#[64]⟩ ++ xb)] rfl rfl (cells_at _ [.string (⟨#[64]⟩ ++ xb)] _ _ (by first | rfl | simp)) (by intro u hu; simp at hu; subst hu; rfl) (by unfold maxLen; omega) (by omega) (by simp; try omega) ?_; intro v4 w4 hown4 hg4 _; have hps := push_step HB3.out HX3.out HO3.out HNE hg4; have HO4 := hide hown4; have HB4 := hide hps.1; have HX4 := hide hps.2; have r4 := HB4.out.size; have q4_4 : w4.cell? ⟨w.heap.size, 4, none⟩ = some (.int .i64 x.addr) := (block_cell HX4.out 4).trans rfl; have q5_4 : w4.cell? ⟨w.heap.size, 5, none⟩ = some (.bool false) := (block_cell HX4.out 5).trans rfl; clear hown4 hg4 hps))
          obtain ⟨A, cc, rfl, hsl, hnc, hcm⟩ := sl_of_own (f := cs) (l := ([⟨#[40]⟩ ++ x.file ++ (⟨#[58]⟩ ++ tb) ++ ⟨#[41]⟩, ⟨#[64]⟩ ++ xb] : List ByteArray)) (n := 2) (fun _ => rfl) rfl HO4.out
          refine (Join_any A 2 cc [⟨#[40]⟩ ++ x.file ++ (⟨#[58]⟩ ++ tb) ++ ⟨#[41]⟩, ⟨#[64]⟩ ++ xb] 32 w4 hnc (by rcases hcm with h | h; exact absurd h (by decide); exact h) (by (obtain ⟨z1, z2, z3, z4, z5⟩ := ZZ.out); simp only [sumL, List.map_cons, List.map_nil, List.sum_cons, List.sum_nil, ByteArray.size_append]; omega) hsl).mono ?_
          rintro e wz ⟨rfl, hwz⟩
          have HBz := HB4.out.trans (hwz.mono HB4.out.size)
          go_wp2_with (fail)
          go_ret
          exact ⟨congrArg (fun z : List UInt8 => Ending.returned (Value.string ⟨z.toArray⟩)) (by rw [E.out]; simp [joinL, ByteArray.data_append, HTL.out, HXL.out]), HBz⟩
        · have E := hide (show restL x = _ by unfold restL placeL partA partB partC; rw [if_neg (by rw [hfe]; decide), if_neg hl, if_neg ha, if_pos ho])
          have HB0 := hide ((Below.refl w.heap.size w).alloc (Nat.le_refl _) (.cells #[.string x.mod, .string x.fn, .string x.file, .int .i64 x.line, .int .i64 x.addr, .bool true] 35))
          have HX0 := hide (heap_alloc_new w (.cells #[.string x.mod, .string x.fn, .string x.file, .int .i64 x.line, .int .i64 x.addr, .bool true] 35))
          have HO0 := hide (World.ownsRow_nil (w.alloc (.cells #[.string x.mod, .string x.fn, .string x.file, .int .i64 x.line, .int .i64 x.addr, .bool true] 35)) w.heap.size 9 1)
          have r0 := HB0.out.size
          clear hfe
          go_enter Tryd.func21, Tryd.ntmps21
          go_wp2_with (fail)
          refine (HTD.out _).mono ?_
          rintro e w1 ⟨rfl, hw1⟩
          have HB1 := hide (HB0.out.trans (hw1.mono HB0.out.size))
          have HX1 := hide (block_below HX0.out hw1)
          have HO1 := hide (own_below HO0.out hw1)
          have r1 := HB1.out.size
          have q4_1 : w1.cell? ⟨w.heap.size, 4, none⟩ = some (.int .i64 x.addr) := (block_cell HX1.out 4).trans rfl
          have q5_1 : w1.cell? ⟨w.heap.size, 5, none⟩ = some (.bool true) := (block_cell HX1.out 5).trans rfl
          clear hw1
          go_wp2_with (first | (at_builtin; refine wpList_append_own _ rfl (.tmp 20) (.tmp 23) 45 rfl w.heap.size 9 i0 (.string ByteArray.empty) 1 16 Tryd.underlying45 hi0 iz0 iz1 iz2 rfl (by decide) _ 0 _ rfl (HO1.out.alloc _) ⟨w1.heap.size, 0, none⟩ 1 1 [.string (⟨#[40]⟩ ++ x.file ++ (⟨#[58]⟩ ++ tb) ++ ⟨#[41]⟩)] rfl rfl (cells_at _ [.string (⟨#[40]⟩ ++ x.file ++ (⟨#[58]⟩ ++ tb) ++ ⟨#[41]⟩)] _ _ (by first | rfl | simp)) (by intro u hu; simp at hu; subst hu; rfl) (by unfold maxLen; omega) (by omega) (by simp; try omega) ?_; intro v2 w2 hown2 hg2 _; have hps := push_step HB1.out HX1.out HO1.out HNE hg2; have HO2 := hide hown2; have HB2 := hide hps.1; have HX2 := hide hps.2; have r2 := HB2.out.size; have q4_2 : w2.cell? ⟨w.heap.size, 4, none⟩ = some (.int .i64 x.addr) := (block_cell HX2.out 4).trans rfl; have q5_2 : w2.cell? ⟨w.heap.size, 5, none⟩ = some (.bool true) := (block_cell HX2.out 5).trans rfl; clear hown2 hg2 hps))
          refine (HIB.out _ ha0).mono ?_
          rintro e w3 ⟨rfl, hw3⟩
          have HB3 := hide (HB2.out.trans (hw3.mono HB2.out.size))
          have HX3 := hide (block_below HX2.out hw3)
          have HO3 := hide (own_below HO2.out hw3)
          have r3 := HB3.out.size
          have q4_3 : w3.cell? ⟨w.heap.size, 4, none⟩ = some (.int .i64 x.addr) := (block_cell HX3.out 4).trans rfl
          have q5_3 : w3.cell? ⟨w.heap.size, 5, none⟩ = some (.bool true) := (block_cell HX3.out 5).trans rfl
          clear hw3
          go_wp2_with (first | (at_builtin; refine wpList_append_own _ rfl (.tmp 28) (.tmp 33) 45 rfl w.heap.size 9 i0 (.string ByteArray.empty) 1 16 Tryd.underlying45 hi0 iz0 iz1 iz2 rfl (by decide) _ 1 _ rfl (HO3.out.alloc _) ⟨w3.heap.size, 0, none⟩ 1 1 [.string (⟨#[64]⟩ ++ xb)] rfl rfl (cells_at _ [.string (⟨#[64]⟩ ++ xb)] _ _ (by first | rfl | simp)) (by intro u hu; simp at hu; subst hu; rfl) (by unfold maxLen; omega) (by omega) (by simp; try omega) ?_; intro v4 w4 hown4 hg4 _; have hps := push_step HB3.out HX3.out HO3.out HNE hg4; have HO4 := hide hown4; have HB4 := hide hps.1; have HX4 := hide hps.2; have r4 := HB4.out.size; have q4_4 : w4.cell? ⟨w.heap.size, 4, none⟩ = some (.int .i64 x.addr) := (block_cell HX4.out 4).trans rfl; have q5_4 : w4.cell? ⟨w.heap.size, 5, none⟩ = some (.bool true) := (block_cell HX4.out 5).trans rfl; clear hown4 hg4 hps) | (at_builtin; refine wpList_append_own _ rfl (.tmp 37) (.tmp 38) 45 rfl w.heap.size 9 i0 (.string ByteArray.empty) 1 16 Tryd.underlying45 hi0 iz0 iz1 iz2 rfl (by decide) _ 2 _ rfl (HO4.out.alloc _) ⟨w4.heap.size, 0, none⟩ 1 1 [.string (⟨#[42]⟩)] rfl rfl (cells_at _ [.string (⟨#[42]⟩)] _ _ (by first | rfl | simp)) (by intro u hu; simp at hu; subst hu; rfl) (by unfold maxLen; omega) (by omega) (by simp; try omega) ?_; intro v5 w5 hown5 hg5 _; have hps := push_step HB4.out HX4.out HO4.out HNE hg5; have HO5 := hide hown5; have HB5 := hide hps.1; have HX5 := hide hps.2; have r5 := HB5.out.size; have q4_5 : w5.cell? ⟨w.heap.size, 4, none⟩ = some (.int .i64 x.addr) := (block_cell HX5.out 4).trans rfl; have q5_5 : w5.cell? ⟨w.heap.size, 5, none⟩ = some (.bool true) := (block_cell HX5.out 5).trans rfl; clear hown5 hg5 hps))
          obtain ⟨A, cc, rfl, hsl, hnc, hcm⟩ := sl_of_own (f := cs) (l := ([⟨#[40]⟩ ++ x.file ++ (⟨#[58]⟩ ++ tb) ++ ⟨#[41]⟩, ⟨#[64]⟩ ++ xb, ⟨#[42]⟩] : List ByteArray)) (n := 3) (fun _ => rfl) rfl HO5.out
          refine (Join_any A 3 cc [⟨#[40]⟩ ++ x.file ++ (⟨#[58]⟩ ++ tb) ++ ⟨#[41]⟩, ⟨#[64]⟩ ++ xb, ⟨#[42]⟩] 32 w5 hnc (by rcases hcm with h | h; exact absurd h (by decide); exact h) (by (obtain ⟨z1, z2, z3, z4, z5⟩ := ZZ.out); simp only [sumL, List.map_cons, List.map_nil, List.sum_cons, List.sum_nil, ByteArray.size_append]; omega) hsl).mono ?_
          rintro e wz ⟨rfl, hwz⟩
          have HBz := HB5.out.trans (hwz.mono HB5.out.size)
          go_wp2_with (fail)
          go_ret
          exact ⟨congrArg (fun z : List UInt8 => Ending.returned (Value.string ⟨z.toArray⟩)) (by rw [E.out]; simp [joinL, ByteArray.data_append, HTL.out, HXL.out]), HBz⟩
  · have f1 : x.file.toList.isEmpty = true := hfe
    have f2 : x.file.toList = [] := List.isEmpty_iff.1 f1
    by_cases ha : x.addr = -1
    · have ha1 : decide (0 ≤ x.addr) = false := by simp; omega
      cases ho : x.own
      · have E := hide (show restL x = _ by unfold restL placeL partA partB partC; rw [if_pos hfe, if_pos ha, if_neg (by rw [ho]; decide)])
        have HB0 := hide ((Below.refl w.heap.size w).alloc (Nat.le_refl _) (.cells #[.string x.mod, .string x.fn, .string x.file, .int .i64 x.line, .int .i64 (-1), .bool false] 35))
        have HX0 := hide (heap_alloc_new w (.cells #[.string x.mod, .string x.fn, .string x.file, .int .i64 x.line, .int .i64 (-1), .bool false] 35))
        have HO0 := hide (World.ownsRow_nil (w.alloc (.cells #[.string x.mod, .string x.fn, .string x.file, .int .i64 x.line, .int .i64 (-1), .bool false] 35)) w.heap.size 9 1)
        have r0 := HB0.out.size
        clear hfe
        go_enter Tryd.func21, Tryd.ntmps21
        go_wp2_with (fail)
        refine (Join_any none 0 0 [] 32 (w.alloc (.cells #[.string x.mod, .string x.fn, .string x.file, .int .i64 x.line, .int .i64 (-1), .bool false] 35)) (Nat.le_refl _) (Nat.zero_le _) (by decide) (Sl.nil _ _ _ _ _)).mono ?_
        rintro e wz ⟨rfl, hwz⟩
        have HBz := HB0.out.trans (hwz.mono HB0.out.size)
        go_wp2_with (fail)
        go_ret
        exact ⟨congrArg (fun z : List UInt8 => Ending.returned (Value.string ⟨z.toArray⟩)) (by rw [E.out]; simp [joinL]), HBz⟩
      · have E := hide (show restL x = _ by unfold restL placeL partA partB partC; rw [if_pos hfe, if_pos ha, if_pos ho])
        have HB0 := hide ((Below.refl w.heap.size w).alloc (Nat.le_refl _) (.cells #[.string x.mod, .string x.fn, .string x.file, .int .i64 x.line, .int .i64 (-1), .bool true] 35))
        have HX0 := hide (heap_alloc_new w (.cells #[.string x.mod, .string x.fn, .string x.file, .int .i64 x.line, .int .i64 (-1), .bool true] 35))
        have HO0 := hide (World.ownsRow_nil (w.alloc (.cells #[.string x.mod, .string x.fn, .string x.file, .int .i64 x.line, .int .i64 (-1), .bool true] 35)) w.heap.size 9 1)
        have r0 := HB0.out.size
        clear hfe
        go_enter Tryd.func21, Tryd.ntmps21
        go_wp2_with (first | (at_builtin; refine wpList_append_own _ rfl (.tmp 37) (.tmp 38) 45 rfl w.heap.size 9 i0 (.string ByteArray.empty) 1 16 Tryd.underlying45 hi0 iz0 iz1 iz2 rfl (by decide) _ 0 _ rfl (HO0.out.alloc _) ⟨w.heap.size + 1, 0, none⟩ 1 1 [.string (⟨#[42]⟩)] rfl rfl (cells_at _ [.string (⟨#[42]⟩)] _ _ (by first | rfl | simp)) (by intro u hu; simp at hu; subst hu; rfl) (by unfold maxLen; omega) (by omega) (by simp; try omega) ?_; intro v1 w1 hown1 hg1 _; have hps := push_step HB0.out HX0.out HO0.out HNE hg1; have HO1 := hide hown1; have HB1 := hide hps.1; have HX1 := hide hps.2; have r1 := HB1.out.size; have q4_1 : w1.cell? ⟨w.heap.size, 4, none⟩ = some (.int .i64 (-1)) := (block_cell HX1.out 4).trans rfl; have q5_1 : w1.cell? ⟨w.heap.size, 5, none⟩ = some (.bool true) := (block_cell HX1.out 5).trans rfl; clear hown1 hg1 hps))
        obtain ⟨A, cc, rfl, hsl, hnc, hcm⟩ := sl_of_own (f := cs) (l := ([⟨#[42]⟩] : List ByteArray)) (n := 1) (fun _ => rfl) rfl HO1.out
        refine (Join_any A 1 cc [⟨#[42]⟩] 32 w1 hnc (by rcases hcm with h | h; exact absurd h (by decide); exact h) (by (obtain ⟨z1, z2, z3, z4, z5⟩ := ZZ.out); simp only [sumL, List.map_cons, List.map_nil, List.sum_cons, List.sum_nil]; omega) hsl).mono ?_
        rintro e wz ⟨rfl, hwz⟩
        have HBz := HB1.out.trans (hwz.mono HB1.out.size)
        go_wp2_with (fail)
        go_ret
        exact ⟨congrArg (fun z : List UInt8 => Ending.returned (Value.string ⟨z.toArray⟩)) (by rw [E.out]; simp [joinL]), HBz⟩
    · have ha0 : 0 ≤ x.addr := by omega
      cases ho : x.own
      · have E := hide (show restL x = _ by unfold restL placeL partA partB partC; rw [if_pos hfe, if_neg ha, if_neg (by rw [ho]; decide)])
        have HB0 := hide ((Below.refl w.heap.size w).alloc (Nat.le_refl _) (.cells #[.string x.mod, .string x.fn, .string x.file, .int .i64 x.line, .int .i64 x.addr, .bool false] 35))
        have HX0 := hide (heap_alloc_new w (.cells #[.string x.mod, .string x.fn, .string x.file, .int .i64 x.line, .int .i64 x.addr, .bool false] 35))
        have HO0 := hide (World.ownsRow_nil (w.alloc (.cells #[.string x.mod, .string x.fn, .string x.file, .int .i64 x.line, .int .i64 x.addr, .bool false] 35)) w.heap.size 9 1)
        have r0 := HB0.out.size
        clear hfe
        go_enter Tryd.func21, Tryd.ntmps21
        go_wp2_with (fail)
        refine (HIB.out _ ha0).mono ?_
        rintro e w1 ⟨rfl, hw1⟩
        have HB1 := hide (HB0.out.trans (hw1.mono HB0.out.size))
        have HX1 := hide (block_below HX0.out hw1)
        have HO1 := hide (own_below HO0.out hw1)
        have r1 := HB1.out.size
        have q4_1 : w1.cell? ⟨w.heap.size, 4, none⟩ = some (.int .i64 x.addr) := (block_cell HX1.out 4).trans rfl
        have q5_1 : w1.cell? ⟨w.heap.size, 5, none⟩ = some (.bool false) := (block_cell HX1.out 5).trans rfl
        clear hw1
        go_wp2_with (first | (at_builtin; refine wpList_append_own _ rfl (.tmp 28) (.tmp 33) 45 rfl w.heap.size 9 i0 (.string ByteArray.empty) 1 16 Tryd.underlying45 hi0 iz0 iz1 iz2 rfl (by decide) _ 0 _ rfl (HO1.out.alloc _) ⟨w1.heap.size, 0, none⟩ 1 1 [.string (⟨#[64]⟩ ++ xb)] rfl rfl (cells_at _ [.string (⟨#[64]⟩ ++ xb)] _ _ (by first | rfl | simp)) (by intro u hu; simp at hu; subst hu; rfl) (by unfold maxLen; omega) (by omega) (by simp; try omega) ?_; intro v2 w2 hown2 hg2 _; have hps := push_step HB1.out HX1.out HO1.out HNE hg2; have HO2 := hide hown2; have HB2 := hide hps.1; have HX2 := hide hps.2; have r2 := HB2.out.size; have q4_2 : w2.cell? ⟨w.heap.size, 4, none⟩ = some (.int .i64 x.addr) := (block_cell HX2.out 4).trans rfl; have q5_2 : w2.cell? ⟨w.heap.size, 5, none⟩ = some (.bool false) := (block_cell HX2.out 5).trans rfl; clear hown2 hg2 hps))
        obtain ⟨A, cc, rfl, hsl, hnc, hcm⟩ := sl_of_own (f := cs) (l := ([⟨#[64]⟩ ++ xb] : List ByteArray)) (n := 1) (fun _ => rfl) rfl HO2.out
        refine (Join_any A 1 cc [⟨#[64]⟩ ++ xb] 32 w2 hnc (by rcases hcm with h | h; exact absurd h (by decide); exact h) (by (obtain ⟨z1, z2, z3, z4, z5⟩ := ZZ.out); simp only [sumL, List.map_cons, List.map_nil, List.sum_cons, List.sum_nil, ByteArray.size_append]; omega) hsl).mono ?_
        rintro e wz ⟨rfl, hwz⟩
        have HBz := HB2.out.trans (hwz.mono HB2.out.size)
        go_wp2_with (fail)
        go_ret
        exact ⟨congrArg (fun z : List UInt8 => Ending.returned (Value.string ⟨z.toArray⟩)) (by rw [E.out]; simp [joinL, ByteArray.data_append, HXL.out]), HBz⟩
      · have E := hide (show restL x = _ by unfold restL placeL partA partB partC; rw [if_pos hfe, if_neg ha, if_pos ho])
        have HB0 := hide ((Below.refl w.heap.size w).alloc (Nat.le_refl _) (.cells #[.string x.mod, .string x.fn, .string x.file, .int .i64 x.line, .int .i64 x.addr, .bool true] 35))
        have HX0 := hide (heap_alloc_new w (.cells #[.string x.mod, .string x.fn, .string x.file, .int .i64 x.line, .int .i64 x.addr, .bool true] 35))
        have HO0 := hide (World.ownsRow_nil (w.alloc (.cells #[.string x.mod, .string x.fn, .string x.file, .int .i64 x.line, .int .i64 x.addr, .bool true] 35)) w.heap.size 9 1)
        have r0 := HB0.out.size
        clear hfe
        go_enter Tryd.func21, Tryd.ntmps21
        go_wp2_with (fail)
        refine (HIB.out _ ha0).mono ?_
        rintro e w1 ⟨rfl, hw1⟩
        have HB1 := hide (HB0.out.trans (hw1.mono HB0.out.size))
        have HX1 := hide (block_below HX0.out hw1)
        have HO1 := hide (own_below HO0.out hw1)
        have r1 := HB1.out.size
        have q4_1 : w1.cell? ⟨w.heap.size, 4, none⟩ = some (.int .i64 x.addr) := (block_cell HX1.out 4).trans rfl
        have q5_1 : w1.cell? ⟨w.heap.size, 5, none⟩ = some (.bool true) := (block_cell HX1.out 5).trans rfl
        clear hw1
        go_wp2_with (first | (at_builtin; refine wpList_append_own _ rfl (.tmp 28) (.tmp 33) 45 rfl w.heap.size 9 i0 (.string ByteArray.empty) 1 16 Tryd.underlying45 hi0 iz0 iz1 iz2 rfl (by decide) _ 0 _ rfl (HO1.out.alloc _) ⟨w1.heap.size, 0, none⟩ 1 1 [.string (⟨#[64]⟩ ++ xb)] rfl rfl (cells_at _ [.string (⟨#[64]⟩ ++ xb)] _ _ (by first | rfl | simp)) (by intro u hu; simp at hu; subst hu; rfl) (by unfold maxLen; omega) (by omega) (by simp; try omega) ?_; intro v2 w2 hown2 hg2 _; have hps := push_step HB1.out HX1.out HO1.out HNE hg2; have HO2 := hide hown2; have HB2 := hide hps.1; have HX2 := hide hps.2; have r2 := HB2.out.size; have q4_2 : w2.cell? ⟨w.heap.size, 4, none⟩ = some (.int .i64 x.addr) := (block_cell HX2.out 4).trans rfl; have q5_2 : w2.cell? ⟨w.heap.size, 5, none⟩ = some (.bool true) := (block_cell HX2.out 5).trans rfl; clear hown2 hg2 hps) | (at_builtin; refine wpList_append_own _ rfl (.tmp 37) (.tmp 38) 45 rfl w.heap.size 9 i0 (.string ByteArray.empty) 1 16 Tryd.underlying45 hi0 iz0 iz1 iz2 rfl (by decide) _ 1 _ rfl (HO2.out.alloc _) ⟨w2.heap.size, 0, none⟩ 1 1 [.string (⟨#[42]⟩)] rfl rfl (cells_at _ [.string (⟨#[42]⟩)] _ _ (by first | rfl | simp)) (by intro u hu; simp at hu; subst hu; rfl) (by unfold maxLen; omega) (by omega) (by simp; try omega) ?_; intro v3 w3 hown3 hg3 _; have hps := push_step HB2.out HX2.out HO2.out HNE hg3; have HO3 := hide hown3; have HB3 := hide hps.1; have HX3 := hide hps.2; have r3 := HB3.out.size; have q4_3 : w3.cell? ⟨w.heap.size, 4, none⟩ = some (.int .i64 x.addr) := (block_cell HX3.out 4).trans rfl; have q5_3 : w3.cell? ⟨w.heap.size, 5, none⟩ = some (.bool true) := (block_cell HX3.out 5).trans rfl; clear hown3 hg3 hps))
        obtain ⟨A, cc, rfl, hsl, hnc, hcm⟩ := sl_of_own (f := cs) (l := ([⟨#[64]⟩ ++ xb, ⟨#[42]⟩] : List ByteArray)) (n := 2) (fun _ => rfl) rfl HO3.out
        refine (Join_any A 2 cc [⟨#[64]⟩ ++ xb, ⟨#[42]⟩] 32 w3 hnc (by rcases hcm with h | h; exact absurd h (by decide); exact h) (by (obtain ⟨z1, z2, z3, z4, z5⟩ := ZZ.out); simp only [sumL, List.map_cons, List.map_nil, List.sum_cons, List.sum_nil, ByteArray.size_append]; omega) hsl).mono ?_
        rintro e wz ⟨rfl, hwz⟩
        have HBz := HB3.out.trans (hwz.mono HB3.out.size)
        go_wp2_with (fail)
        go_ret
        exact ⟨congrArg (fun z : List UInt8 => Ending.returned (Value.string ⟨z.toArray⟩)) (by rw [E.out]; simp [joinL, ByteArray.data_append, HXL.out]), HBz⟩
end Go.Proofs.YtnlliddfljogjaaDoor
