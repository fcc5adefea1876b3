/- Walk of the program's Count (printed by gen_a9.py). -/
import Derived.Test.YtkkhjlomicokgaaGreatDoorAlSet
import Derived.Maps.AppendAt
namespace Go.Proofs.YtkkhjlomicokgaaGreatDoor.al
open Go.RowKit
set_option linter.unusedVariables false
set_option linter.unusedSimpArgs false
/-- The blocks outside P stay, and all below B. -/
structure Keep (B : Nat) (P : Nat → Prop) (w w' : World) : Prop where
  be : Below B w w'
  keep : ∀ k o, w.heap[k]? = some o → ¬ P k → w'.heap[k]? = some o
theorem Keep.refl (B : Nat) (P : Nat → Prop) (w : World) : Keep B P w w := ⟨Below.refl _ _, fun _ _ h _ => h⟩
theorem Keep.trans {B : Nat} {P : Nat → Prop} {w w1 w2 : World} (h : Keep B P w w1) (h' : Keep B P w1 w2) : Keep B P w w2 := ⟨h.be.trans h'.be, fun k o e ne => h'.keep k o (h.keep k o e ne) ne⟩
theorem Keep.mono {B B' : Nat} {P P' : Nat → Prop} {w w' : World} (h : Keep B P w w') (hB : B' ≤ B) (hP : ∀ k, P k → P' k) : Keep B' P' w w' := ⟨h.be.mono hB, fun k o e ne => h.keep k o e (fun hp => ne (hP k hp))⟩
theorem Keep.of_but {B c : Nat} {P : Nat → Prop} {w w' : World} (h : ButAt c w w') (hB : B ≤ c) (hP : P c) : Keep B P w w' := ⟨h.be.mono hB, fun k o e ne => h.keep k o e (fun hk => ne (hk ▸ hP))⟩
theorem Keep.of_below {B : Nat} {P : Nat → Prop} {w w' : World} (h : Below w.heap.size w w') (hB : B ≤ w.heap.size) : Keep B P w w' := ⟨h.mono hB, fun k o e _ => block_below e h⟩
theorem Keep.set {B c : Nat} {P : Nat → Prop} (w : World) (i : Nat) (u : Value) (hB : B ≤ c) (hP : P c) : Keep B P w (w.setCell ⟨c, i, none⟩ u) := Keep.of_but (ButAt.set w i u) hB hP
theorem Keep.grown {B : Nat} {P : Nat → Prop} {w w2 : World} {o : Obj} {r : Option Nat} (hg : (w.alloc o).grownBy w2 r) (hB : B ≤ w.heap.size) (hr : ∀ k, r = some k → B ≤ k ∧ P k) : Keep B P w w2 :=
  ⟨((Below.refl _ _).alloc hB o).grown hg (by simp; omega) (fun k hk => (hr k hk).1), fun k ob e ne => by
    have h1 := block_below e ((Below.refl _ _).alloc (Nat.le_refl _) o)
    exact (hg.block k (lt_of_block h1) (fun e => ne (hr k e.symm).2)).trans h1⟩
theorem Keep.own {B : Nat} {P : Nat → Prop} {w w' : World} {base sz n : Nat} {e : TypeId} {v : Value} {xs : List Value} (h : Keep B P w w') (ho : w.ownsRow base e sz v n xs) (hv : ∀ k, v.ownBlock = some k → ¬ P k) : w'.ownsRow base e sz v n xs := by
  refine ⟨ho.1, ?_⟩
  rcases ho.2 with h1 | ⟨g, cap, cur, q1, q2, q3, q4⟩
  · exact .inl h1
  · exact .inr ⟨g, cap, cur, q1, q2, h.keep g _ q3 (hv g (by rw [q1]; rfl)), q4⟩
def cntErr (key : ByteArray) (t n wat : Int) : Int := if keyErr key = 0 then (if momB t = false ∨ outsideB n 1 1000000 = true then 2 else if t < wat then 5 else 0) else keyErr key
theorem info_count : (Tryz.prog.info? 106).map (fun i => (i.zero, i.size, i.bytes)) = some (some (.agg #[.string ByteArray.empty, .int .i64 0, .int .i64 0]), 3, 32) := by kernel_rfl
set_option maxRecDepth 100000 in
set_option maxHeartbeats 4000000 in
theorem nCount_bad (pw : Nat) (cur : Array Value) (A : Option Addr) (m cap : Nat) (key : ByteArray) (t n wat : Int) (w : World) (hk : key.size ≤ maxLen) (hb : w.heap[pw]? = some (.cells cur 83 (0, 0))) (h1 : cur[1]? = some (.slice A m cap)) (h3 : cur[3]? = some (.int .i64 wat)) (E : Int) (hE : cntErr key t n wat = E) (h0 : E ≠ 0) :
    Calls Tryz.prog 10 #[.pointer (some ⟨pw, 0, none⟩), .string key, .int .i64 t, .int .i64 n] w fun e w' => e = .returned (.int .i64 E) ∧ w' = w := by
  have c1 : w.cell? ⟨pw, 1, none⟩ = some (.slice A m cap) := (block_cell hb 1).trans h1
  have c3 : w.cell? ⟨pw, 3, none⟩ = some (.int .i64 wat) := (block_cell hb 3).trans h3
  have CW := hide (fun W => checkKey_any key W hk)
  clear hb h1 h3
  subst hE
  by_cases hke : keyErr key = 0
  · rw [hke] at CW
    cases hm : momB t
    · have CM := hide (show ∀ W, Calls Tryz.prog 22 #[.int .i64 t] W fun e w' => e = .returned (.bool false) ∧ W = w' from fun W => hm ▸ isMoment_any t W)
      have E := hide (show cntErr key t n wat = 2 by rw [cntErr, if_pos hke, if_pos (.inl hm)])
      rw [E.out]
      clear hm hke h0
      have CO := hide trivial
      go_enter Tryz.func10, Tryz.ntmps10
      go_wp2_with (first | (go_at_call 33; refine (CW.out _).mono ?_; rintro e w' ⟨rfl, rfl⟩) | (go_at_call 22; refine (CM.out _).mono ?_; rintro e w' ⟨rfl, rfl⟩))
      go_ret
      exact ⟨rfl, rfl⟩
    have CM := hide (show ∀ W, Calls Tryz.prog 22 #[.int .i64 t] W fun e w' => e = .returned (.bool true) ∧ W = w' from fun W => hm ▸ isMoment_any t W)
    cases ho : outsideB n 1 1000000
    · have CO := hide (fun W => ho ▸ outside_any n 1 1000000 W)
      by_cases hlt : t < wat
      · have E := hide (show cntErr key t n wat = 5 by rw [cntErr, if_pos hke, if_neg (by simp [hm, ho]), if_pos hlt])
        rw [E.out]
        clear hm hke ho h0
        go_enter Tryz.func10, Tryz.ntmps10
        go_wp2_with (first | (go_at_call 33; refine (CW.out _).mono ?_; rintro e w' ⟨rfl, rfl⟩) | (go_at_call 22; refine (CM.out _).mono ?_; rintro e w' ⟨rfl, rfl⟩) | (go_at_call 34; refine (CO.out _).mono ?_; rintro e w' ⟨rfl, rfl⟩))
        go_ret
        exact ⟨rfl, rfl⟩
      · exact absurd (show cntErr key t n wat = 0 by rw [cntErr, if_pos hke, if_neg (by simp [hm, ho]), if_neg hlt]) h0
    · have CO := hide (fun W => ho ▸ outside_any n 1 1000000 W)
      have E := hide (show cntErr key t n wat = 2 by rw [cntErr, if_pos hke, if_pos (.inr ho)])
      rw [E.out]
      clear hm hke ho h0
      go_enter Tryz.func10, Tryz.ntmps10
      go_wp2_with (first | (go_at_call 33; refine (CW.out _).mono ?_; rintro e w' ⟨rfl, rfl⟩) | (go_at_call 22; refine (CM.out _).mono ?_; rintro e w' ⟨rfl, rfl⟩) | (go_at_call 34; refine (CO.out _).mono ?_; rintro e w' ⟨rfl, rfl⟩))
      go_ret
      exact ⟨rfl, rfl⟩
  · have E := hide (show cntErr key t n wat = keyErr key by rw [cntErr, if_neg hke])
    rw [E.out]
    have hne : (keyErr key == 0) = false := by simpa using hke
    clear h0
    go_enter Tryz.func10, Tryz.ntmps10
    go_wp2_with (first | (go_at_call 33; refine (CW.out _).mono ?_; rintro e w' ⟨rfl, rfl⟩))
    go_ret
    exact ⟨rfl, rfl⟩
theorem cntErr_ok {key : ByteArray} {t n wat : Int} (h : cntErr key t n wat = 0) : keyErr key = 0 ∧ momB t = true ∧ outsideB n 1 1000000 = false ∧ ¬ t < wat := by
  unfold cntErr at h
  by_cases hke : keyErr key = 0
  · rw [if_pos hke] at h
    cases hm : momB t
    · rw [if_pos (.inl hm)] at h; cases h
    · cases ho : outsideB n 1 1000000
      · rw [if_neg (by simp [hm, ho])] at h
        by_cases hlt : t < wat
        · rw [if_pos hlt] at h; cases h
        · exact ⟨hke, rfl, rfl, hlt⟩
      · rw [if_pos (.inr ho)] at h; cases h
  · rw [if_neg hke] at h; exact absurd h hke
set_option maxRecDepth 100000 in
set_option maxHeartbeats 4000000 in
theorem nCount_ok (pw B base : Nat) (cur : Array Value) (cv : Value) (m : Nat) (xs : List Value) (key : ByteArray) (t n wat : Int) (w : World) (hk : key.size ≤ maxLen) (hm : m ≤ 1000) (hb : w.heap[pw]? = some (.cells cur 83 (0, 0))) (h1 : cur[1]? = some cv) (h3 : cur[3]? = some (.int .i64 wat))
    (hown : w.ownsRow base 106 3 cv m xs) (hB : B ≤ pw) (hB2 : B ≤ base) (hbz : base ≤ w.heap.size) (hE : cntErr key t n wat = 0) :
    Calls Tryz.prog 10 #[.pointer (some ⟨pw, 0, none⟩), .string key, .int .i64 t, .int .i64 n] w fun e w' => ∃ v, e = .returned (.int .i64 0) ∧ w'.heap[pw]? = some (.cells ((cur.setIfInBounds 3 (.int .i64 t)).setIfInBounds 1 v) 83 (0, 0)) ∧
      w'.ownsRow base 106 3 v (m + 1) (xs ++ [.string key, .int .i64 t, .int .i64 n]) ∧ Keep B (fun k => k = pw ∨ cv.ownBlock = some k) w w' ∧ ∀ k, v.ownBlock = some k → cv.ownBlock = some k ∨ w.heap.size ≤ k := by
  obtain ⟨i0, hi0, iz0, iz1, iz2⟩ := info_parts info_count
  obtain ⟨hke, hmo, hou, hlt⟩ := cntErr_ok hE
  obtain ⟨A, cap, rfl⟩ := own_sl hown
  have hne : (106 : TypeId) ≠ 83 := by decide
  have hap := own_other' hown hb hne
  have c1 : w.cell? ⟨pw, 1, none⟩ = some (.slice A m cap) := (block_cell hb 1).trans h1
  have c3 : w.cell? ⟨pw, 3, none⟩ = some (.int .i64 wat) := (block_cell hb 3).trans h3
  have f3 : w.frozen? ⟨pw, 3, none⟩ = false := block_free hb 3
  have hb3 := block_set hb (i := 3) (.int .i64 t)
  have HB3 := hide hb3
  have hk1 : (cur.setIfInBounds 3 (.int .i64 t))[1]? = some (.slice A m cap) := by rw [Array.getElem?_setIfInBounds, if_neg (by decide)]; exact h1
  have d1 : (w.setCell ⟨pw, 3, none⟩ (.int .i64 t)).cell? ⟨pw, 1, none⟩ = some (.slice A m cap) := (block_cell hb3 1).trans hk1
  have HOW := hide (ownsRow_setCell_other hown (a := ⟨pw, 3, none⟩) hap (.int .i64 t))
  have HSZ := hide (show (w.setCell ⟨pw, 3, none⟩ (.int .i64 t)).heap.size = w.heap.size by simp)
  have HLT := hide hown.lt
  have HAP := hide hap
  have hpw := lt_of_block hb
  have CW := hide (fun W => hke ▸ checkKey_any key W hk)
  have CM := hide (show ∀ W, Calls Tryz.prog 22 #[.int .i64 t] W fun e w' => e = .returned (.bool true) ∧ W = w' from fun W => hmo ▸ isMoment_any t W)
  have CO := hide (fun W => hou ▸ outside_any n 1 1000000 W)
  have hlt' : decide (t < wat) = false := by simpa using hlt
  have HK1 := hide hk1
  clear hb h1 h3 hown hke hmo hou hE hlt hb3 hap hk1
  go_enter Tryz.func10, Tryz.ntmps10
  go_wp2_with (first | (go_at_call 33; refine (CW.out _).mono ?_; rintro e w' ⟨rfl, rfl⟩) | (go_at_call 22; refine (CM.out _).mono ?_; rintro e w' ⟨rfl, rfl⟩) | (go_at_call 34; refine (CO.out _).mono ?_; rintro e w' ⟨rfl, rfl⟩) | (at_builtin; refine wpList_append_own_at _ rfl (.tmp 45) (.tmp 50) 80 rfl base 106 i0 (.agg #[.string ByteArray.empty, .int .i64 0, .int .i64 0]) 3 32 Tryz.underlying80 hi0 iz0 iz1 iz2 rfl (by decide) _ m _ rfl (HOW.out.alloc _) ⟨w.heap.size, 0, none⟩ 1 1 [.string key, .int .i64 t, .int .i64 n] (by rfl) rfl (cells_at (w.setCell ⟨pw, 3, none⟩ (.int .i64 t)) [.string key, .int .i64 t, .int .i64 n] _ _ (by simp)) (by intro u hu; simp at hu; rcases hu with rfl | rfl | rfl <;> rfl) (by unfold maxLen; omega) (by omega) (by simp; omega) ?_; intro v1 w2 hown1 hg1 _ hat1; obtain ⟨ao, cp, rfl⟩ := own_sl hown1; have HLO := hide (show ∀ k, (Value.slice ao (m + 1) cp).ownBlock = some k → (Value.slice A m cap).ownBlock = some k ∨ w.heap.size ≤ k from fun k hk => by rcases hat1 with h | h; (exact .inl (h.symm.trans hk)); (right; rw [h] at hk; simp at hk; omega)); have HX2 := hide ((hg1.block pw (by simp; omega) (fun e => HAP.out e.symm)).trans (block_below HB3.out ((Below.refl _ _).alloc (Nat.le_refl _) _))); have HK2 := hide (Keep.grown (P := fun k => k = pw ∨ (Value.slice A m cap).ownBlock = some k) hg1 (B := B) (by rw [HSZ.out]; omega) (fun k hk => ⟨by have := (HLT.out k hk).1; omega, .inr hk⟩)); have e1 : w2.cell? ⟨pw, 1, none⟩ = some (.slice A m cap) := (block_cell HX2.out 1).trans HK1.out; have ef1 : w2.frozen? ⟨pw, 1, none⟩ = false := block_free HX2.out 1; have HO2 := hide hown1; clear hown1 hg1))
  go_ret
  have hap2 := own_other' HO2.out HX2.out (by decide)
  exact ⟨_, rfl, block_set HX2.out _, ownsRow_setCell_other HO2.out (a := ⟨pw, 1, none⟩) hap2 _, ((Keep.set w 3 _ hB (.inl rfl)).trans HK2.out).trans (Keep.set w2 1 _ hB (.inl rfl)), HLO.out⟩
end Go.Proofs.YtkkhjlomicokgaaGreatDoor.al