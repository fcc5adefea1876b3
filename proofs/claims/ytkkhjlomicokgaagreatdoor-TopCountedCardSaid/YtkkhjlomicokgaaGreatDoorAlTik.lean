/- Walk of the program's Tick. -/
import Derived.Test.YtkkhjlomicokgaaGreatDoorAlTkL
import Derived.Test.YtkkhjlomicokgaaGreatDoorTpA
import Derived.Laws.EntriesVeiled
import Derived.Shelf.Abstract
import Derived.ChangeKeysEq
import Derived.BigQuiet
import Derived.Deep.Onto
namespace Go.Proofs.YtkkhjlomicokgaaGreatDoor.al
open Go.RowKit
set_option linter.unusedVariables false
set_option linter.unusedSimpArgs false
theorem TkI.drewSet {B base pw b2 b3 n : Nat} {rv cv sv : Value} {m sn : Nat} {cs : List Ct} {sl : List Sil} {t g : Int} {P : Nat → Prop} {w0 w : World} {l : List Wd} {a : Addr} {v : Value} {q : Nat} (h : TkI B base pw b2 b3 n rv cv sv m sn cs sl t g P w0 l (w.setCell a v)) : TkI B base pw b2 b3 n rv cv sv m sn cs sl t g P w0 l ((w.drewN q).setCell a v) :=
  ⟨h.box, h.rrow, h.crow, h.srow, h.x2, h.x3, ⟨⟨h.kp.be.os, h.kp.be.tape, h.kp.be.output, h.kp.be.size, h.kp.be.block⟩, h.kp.keep⟩⟩
theorem TkI.drew {B base pw b2 b3 n : Nat} {rv cv sv : Value} {m sn : Nat} {cs : List Ct} {sl : List Sil} {t g : Int} {P : Nat → Prop} {w0 w : World} {l : List Wd} (h : TkI B base pw b2 b3 n rv cv sv m sn cs sl t g P w0 l w) : TkI B base pw b2 b3 n rv cv sv m sn cs sl t g P w0 l w.drew :=
  ⟨h.box, h.rrow, h.crow, h.srow, h.x2, h.x3, ⟨h.kp.be.drew, h.kp.keep⟩⟩
theorem TkI.sl {w : World} {base m c : Nat} {A : Option Addr} {cs : List Ct} (hl : cs.length = m) (h : w.ownsRow base 106 3 (.slice A m c) m (cs.flatMap Ct.cs)) : Sl w w.heap.size Ct.cs 3 A m cs := by
  obtain ⟨A', c', hv, hsl, _⟩ := sl_of_own (f := Ct.cs) (sz := 3) (fun _ => rfl) hl h
  simp only [Value.slice.injEq, true_and] at hv
  obtain ⟨rfl, rfl⟩ := hv
  exact hsl
theorem TkI.rowBlk {B base pw b2 b3 n : Nat} {cv sv : Value} {m sn rb cr : Nat} {cs : List Ct} {sl : List Sil} {t g : Int} {P : Nat → Prop} {w0 w : World} {l : List Wd} (h : TkI B base pw b2 b3 n (.slice (some ⟨rb, 0, none⟩) n cr) cv sv m sn cs sl t g P w0 l w) (hn : 0 < n) : ∃ cur, w.heap[rb]? = some (.cells cur 88 (0, 0)) := by
  obtain ⟨g', cap', cur', hv, _, hblk, _⟩ := own_blk h.rrow hn
  simp only [Value.slice.injEq, Option.some.injEq, Addr.mk.injEq, true_and, and_true] at hv
  obtain ⟨rfl, rfl⟩ := hv
  exact ⟨cur', hblk⟩
theorem ButAt.own {c : Nat} {w w' : World} {base sz n : Nat} {e : TypeId} {v : Value} {xs : List Value} (hb : ButAt c w w') (h : w.ownsRow base e sz v n xs) (hne : v.ownBlock ≠ some c) : w'.ownsRow base e sz v n xs := by
  refine ⟨h.1, ?_⟩
  rcases h.2 with h1 | ⟨g, cap, cur, rfl, q2, q3, q4⟩
  · exact .inl h1
  · exact .inr ⟨g, cap, cur, rfl, q2, hb.keep _ _ q3 (fun e => hne (by rw [← e]; rfl)), q4⟩
theorem info_int2 : (Tryz.prog.info? 3).map (fun i => (i.zero, i.size, i.bytes)) = some (some (.int .i64 0), 1, 8) := by kernel_rfl
theorem eq_standing (w : World) (a b a' b' : Int) : (Op.equalIn 10000 85 (.agg #[.int .i64 a, .int .i64 b]) (.agg #[.int .i64 a', .int .i64 b'])).run Tryz.prog w = .ok ((a == a') && (b == b')) w := by
  obtain ⟨i, hi, _, _, _⟩ := info_parts info_int2
  rw [run_equalIn_array w 9999 (n := 2) _ _ (Tryz.underlying85) hi]
  have hc : Tryz.prog.cellsOf 3 = 1 := by kernel_rfl
  rw [hc, show List.range 2 = [0, 1] from rfl]
  simp only [Op.eqItems]
  go_simp
  by_cases h1 : a = a' <;> by_cases h2 : b = b' <;> simp [h1, h2]
attribute [local go_sem] eq_standing
theorem TkI.drewN {B base pw b2 b3 n : Nat} {rv cv sv : Value} {m sn : Nat} {cs : List Ct} {sl : List Sil} {t g : Int} {P : Nat → Prop} {w0 w : World} {l : List Wd} (h : TkI B base pw b2 b3 n rv cv sv m sn cs sl t g P w0 l w) (q : Nat) : TkI B base pw b2 b3 n rv cv sv m sn cs sl t g P w0 l (w.drewN q) :=
  ⟨h.box, h.rrow, h.crow, h.srow, h.x2, h.x3, ⟨⟨h.kp.be.os, h.kp.be.tape, h.kp.be.output, h.kp.be.size, h.kp.be.block⟩, h.kp.keep⟩⟩
theorem TkI.grown {B base pw b2 b3 n : Nat} {rv cv sv : Value} {m sn : Nat} {cs : List Ct} {sl : List Sil} {t g : Int} {P : Nat → Prop} {w0 w w' : World} {l : List Wd} {q k sz : Nat} {ov : Value} {xs : List Value} (h : TkI B base pw b2 b3 n rv cv sv m sn cs sl t g P w0 l w) (ho : w.ownsRow q 58 sz ov k xs) (hq : w0.heap.size ≤ q) (hB : B ≤ w0.heap.size) (hg : w.grownBy w' ov.ownBlock) : TkI B base pw b2 b3 n rv cv sv m sn cs sl t g P w0 l w' :=
  ⟨grown_block hg h.box (own_other' ho h.box (by decide)), h.rrow.kept hg (own_two ho h.rrow (by decide)), h.crow.kept hg (own_two ho h.crow (by decide)), h.srow.kept hg (own_two ho h.srow (by decide)), grown_block hg h.x2 (own_other' ho h.x2 (by decide)), grown_block hg h.x3 (own_other' ho h.x3 (by decide)),
    ⟨h.kp.be.grown hg (Nat.le_trans hB h.kp.be.size) (fun k hk => Nat.le_trans hB (Nat.le_trans hq (ho.lt k hk).1)), fun k o e ne => (hg.block k (Nat.lt_of_lt_of_le (lt_of_block e) h.kp.be.size) (fun e' => by have := (ho.lt k e'.symm).1; have := lt_of_block e; omega)).trans (h.kp.keep k o e ne)⟩⟩
theorem info_notice : (Tryz.prog.info? 58).map (fun i => (i.zero, i.size, i.bytes)) = some (some (.agg #[.int .i64 0, .string ByteArray.empty, .int .i64 0, .int .i64 0]), 4, 40) := by kernel_rfl
theorem tkN_len (cs : List Ct) (sl : List Sil) (t : Int) (l : List Wd) : (l.flatMap (tkN cs sl t)).length ≤ l.length := by
  induction l with
  | nil => simp
  | cons x l ih =>
    rw [List.flatMap_cons, List.length_append, List.length_cons]
    have : (tkN cs sl t x).length ≤ 1 := by unfold tkN; split <;> simp
    omega
/-- The function that a rule holds, and what it answers. -/
theorem hold_fn (r : Rl) (h0 : 1 ≤ r.ask) (h4 : r.ask ≤ 4) : ∃ fn, holdV r = .func (.func fn) #[.agg #[.string r.name, .string r.key, .int .i64 r.ask, .int .i64 r.limit, .int .i64 r.window, .int .i64 r.hold, .int .i64 r.rest]] #[] ∧ (∀ args w, (callFunc fn args).run Tryz.prog w = .ok (.enter fn args) w) ∧
    ∀ v b w, Calls Tryz.prog fn #[.agg #[.string r.name, .string r.key, .int .i64 r.ask, .int .i64 r.limit, .int .i64 r.window, .int .i64 r.hold, .int .i64 r.rest], .int .i64 v, .int .i64 b] w fun e w' => e = .returned (.bool (holdsB r v b)) ∧ Below w.heap.size w w' := by
  by_cases h1 : r.ask = 1
  · exact ⟨23, by simp [holdV, h1, Rl.cs], enters_of Tryz.func23 (by kernel_rfl) rfl, fun v b w => by simpa [holdsB, h1] using above_any r v b w⟩
  by_cases h2 : r.ask = 2
  · exact ⟨24, by simp [holdV, h2, Rl.cs], enters_of Tryz.func24 (by kernel_rfl) rfl, fun v b w => by simpa [holdsB, h2] using below_any r v b w⟩
  by_cases h3 : r.ask = 3
  · exact ⟨25, by simp [holdV, h3, Rl.cs], enters_of Tryz.func25 (by kernel_rfl) rfl, fun v b w => by simpa [holdsB, h3] using grows_any r v b w⟩
  · have h5 : r.ask = 4 := by omega
    exact ⟨26, by simp [holdV, h5, Rl.cs], enters_of Tryz.func26 (by kernel_rfl) rfl, fun v b w => by simpa [holdsB, h5] using absent_any r v b w⟩
set_option maxRecDepth 100000 in
set_option maxHeartbeats 8000000 in
theorem nTick_ok (B base pw n m sn cr mc sc : Nat) (R A SA : Option Addr) (ws : List Wd) (cs : List Ct) (sl : List Sil) (t wat g : Int) (w : World) (hm : momB t = true) (hlt : ¬ t < wat) (hwl : ws.length = n) (hcl : cs.length = m) (hsl : sl.length = sn) (hn : n ≤ 1000) (hmm : m ≤ 1000) (hss : sn ≤ 1000)
    (hb : w.heap[pw]? = some (.cells #[.slice R n cr, .slice A m mc, .slice SA sn sc, .int .i64 wat, .int .i64 g] 83 (0, 0)))
    (hr : w.ownsRow base 88 11 (.slice R n cr) n (ws.flatMap Wd.cs)) (hc : w.ownsRow base 106 3 (.slice A m mc) m (cs.flatMap Ct.cs)) (hs : w.ownsRow base 171 3 (.slice SA sn sc) sn (sl.flatMap Sil.cs))
    (hok : ∀ x ∈ ws, WdOk wat x) (hw0 : 0 ≤ wat) (hcf : CtFit cs) (hg0 : 0 ≤ g) (hg1 : g ≤ 604800) (hB : B ≤ pw) (hB2 : B ≤ base) (hbz : base ≤ w.heap.size) :
    Calls Tryz.prog 13 #[.pointer (some ⟨pw, 0, none⟩), .int .i64 t] w fun e w' => ∃ ov cv, e = .returned (.tuple #[ov, .int .i64 0]) ∧ w'.heap[pw]? = some (.cells #[.slice R n cr, cv, .slice SA sn sc, .int .i64 t, .int .i64 g] 83 (0, 0)) ∧
      w'.ownsRow base 88 11 (.slice R n cr) n ((ws.map (tkW cs sl t)).flatMap Wd.cs) ∧ w'.ownsRow base 106 3 cv (cs.filter fun c => !oldB t g c).length ((cs.filter fun c => !oldB t g c).flatMap Ct.cs) ∧ w'.ownsRow base 171 3 (.slice SA sn sc) sn (sl.flatMap Sil.cs) ∧
      w'.ownsRow w.heap.size 58 4 ov (ws.flatMap (tkN cs sl t)).length ((ws.flatMap (tkN cs sl t)).flatMap Nt.cs) ∧ Keep B (fun k => k = pw ∨ (Value.slice R n cr).ownBlock = some k ∨ (Value.slice A m mc).ownBlock = some k) w w' ∧ ∀ k, cv.ownBlock = some k → (Value.slice A m mc).ownBlock = some k := by
  obtain ⟨i0, hi0, iz0, iz1, iz2⟩ := info_parts info_notice
  have CM := hide (show ∀ W, Calls Tryz.prog 22 #[.int .i64 t] W fun e w' => e = .returned (.bool true) ∧ W = w' from fun W => hm ▸ isMoment_any t W)
  have hlt' : decide (t < wat) = false := by simpa using hlt
  have c3 : w.cell? ⟨pw, 3, none⟩ = some (.int .i64 wat) := block_cell hb 3
  have c0 : w.cell? ⟨pw, 0, none⟩ = some (.slice R n cr) := block_cell hb 0
  have f3 : w.frozen? ⟨pw, 3, none⟩ = false := block_free hb 3
  have hpw := lt_of_block hb
  have hwt : wat ≤ t := by omega
  have ht0 : 0 ≤ t := by omega
  have ht1 : t ≤ 3155759999 := by unfold momB outsideB at hm; simp at hm; omega
  have hbA := (((Below.refl w.heap.size w).alloc (Nat.le_refl _) (.cells #[.pointer (some ⟨pw, 0, none⟩)] 30)).alloc (by simp) (.cells #[.int .i64 t] 3))
  have hI0 := TkI.mk (B := B) (P := fun k => k = pw ∨ (Value.slice R n cr).ownBlock = some k ∨ (Value.slice A m mc).ownBlock = some k) (w0 := w) (b2 := w.heap.size) (b3 := w.heap.size + 1) (t := t) (g := g)
    (block_set (block_below hb hbA) (i := 3) (.int .i64 t)) (ownsRow_setCell_other (own_below hr hbA) (a := ⟨pw, 3, none⟩) (own_other' (own_below hr hbA) (block_below hb hbA) (by decide)) (.int .i64 t))
    (ownsRow_setCell_other (own_below hc hbA) (a := ⟨pw, 3, none⟩) (own_other' (own_below hc hbA) (block_below hb hbA) (by decide)) (.int .i64 t)) (ownsRow_setCell_other (own_below hs hbA) (a := ⟨pw, 3, none⟩) (own_other' (own_below hs hbA) (block_below hb hbA) (by decide)) (.int .i64 t))
    (block_set_other (block_below (heap_alloc_new w _) ((Below.refl _ _).alloc (Nat.le_refl _) _)) ⟨pw, 3, none⟩ (.int .i64 t) (by simp only; omega))
    (block_set_other (show ((w.alloc (.cells #[.pointer (some ⟨pw, 0, none⟩)] 30)).alloc (.cells #[.int .i64 t] 3)).heap[w.heap.size + 1]? = _ by have h := heap_alloc_new (w.alloc (.cells #[.pointer (some ⟨pw, 0, none⟩)] 30)) (.cells #[.int .i64 t] 3); simpa using h) ⟨pw, 3, none⟩ (.int .i64 t) (by simp only; omega))
    ((Keep.of_below hbA (by omega)).trans (Keep.set _ 3 (.int .i64 t) hB (.inl rfl)))
  have HI0 := hide hI0
  have HOK := hide hok
  have HWL := hide hwl
  have HCF := hide hcf
  clear hI0 hbA hb hr hc hs hm hok hlt hwl hcf
  go_enter Tryz.func13, Tryz.ntmps13
  go_wp2_with (first | (go_at_call 22; refine (CM.out _).mono ?_; rintro e w' ⟨rfl, rfl⟩) | go_quiet (fail))
  go_loopw [6, 33] (fun ov i wr => ∃ (j : Nat), j ≤ n ∧ i = .int .i64 j ∧ TkI B base pw w.heap.size (w.heap.size + 1) n (.slice R n cr) (.slice A m mc) (.slice SA sn sc) m sn cs sl t g (fun k => k = pw ∨ (Value.slice R n cr).ownBlock = some k ∨ (Value.slice A m mc).ownBlock = some k) w ((ws.take j).map (tkW cs sl t) ++ ws.drop j) wr ∧
    wr.ownsRow (w.heap.size + 2) 58 4 ov ((ws.take j).flatMap (tkN cs sl t)).length (((ws.take j).flatMap (tkN cs sl t)).flatMap Nt.cs)) (fun _ i _ => n - (intOf i).toNat)
  case atStart => exact ⟨0, Nat.zero_le _, rfl, HI0.out.drewSet, World.ownsRow_nil _ _ _ _⟩
  case round =>
    obtain ⟨j, hj, rfl, hI, hO⟩ := hrel
    have hz := hI.kp.be.size
    by_cases hlt : j < n
    · have hxx : ∃ x, ws[j]? = some x := ⟨_, List.getElem?_eq_getElem (by rw [HWL.out]; exact hlt)⟩
      obtain ⟨x, hx⟩ := hxx
      have hgx := (take_drop_get (tkW cs sl t) ws j).trans hx
      obtain ⟨rb, cap', cur, hv, hbr, hblk, _⟩ := own_blk hI.rrow (by omega)
      simp only [Value.slice.injEq, true_and] at hv
      obtain ⟨rfl, rfl⟩ := hv
      obtain ⟨x0, x1, x2, x3, x4, x5, x6, x7, x8, x9, x10, y2, y3, f9⟩ := hI.xs hgx
      have z0 : wr.cell? ⟨pw, 0, none⟩ = some (.slice (some ⟨rb, 0, none⟩) n cr) := block_cell hI.box 0
      have HOX := hide (HOK.out x (List.mem_of_getElem? hx))
      have HB1 := hide (show Below wr.heap.size wr (wr.alloc (.cells #[.int .i64 x.st, .int .i64 x.si] 85)) from (Below.refl _ _).alloc (Nat.le_refl _) _)
      have HI1 := hide (hI.below (by omega) HB1.out).drew
      have HO1 := hide (own_below hO HB1.out).drew
      have HA1 := hide (show (wr.alloc (.cells #[.int .i64 x.st, .int .i64 x.si] 85)).drew.heap[wr.heap.size]? = some (.cells #[.int .i64 x.st, .int .i64 x.si] 85 (0, 0)) from heap_alloc_new _ _)
      have HX := hide hx
      have HGX := hide hgx
      have hrb := lt_of_block hblk
      clear hI hO hblk hx hgx
      go_wp2_with (fail)
      obtain ⟨w1, hw1⟩ : ∃ w1, wr.alloc (.cells #[.int .i64 x.st, .int .i64 x.si] 85) = w1 := ⟨_, rfl⟩
      rw [hw1] at HI1 HO1 HA1 ⊢
      clear hw1 HB1 x0 x1 x2 x3 x4 x5 x6 x7 x8 x9 x10 y2 y3 f9 z0
      refine wp_region_chain (fun W => TkX pw w.heap.size (w.heap.size + 1) rb j t x W) 6 (by as_aux_lemma => kernel_rfl) (N := 12) (by as_aux_lemma => kernel_rfl) ?_; intro hsh
      have HS := HI1.out.xs HGX.out
      refine wpAnyC_take (i := 0) (k := 6) (f := 40) (v := ?_) rfl (by rfl) (by as_aux_lemma => kernel_rfl) (by as_aux_lemma => kernel_rfl) (by as_aux_lemma => kernel_rfl) hsh (by decide) (by as_aux_lemma => kernel_rfl) (by intro _ _ _ h; exact h) (by assumption) (Or.inl ⟨by rfl, ?hy⟩) ?_; (case hy => (rintro W ⟨x0, x1, x2, x3, x4, x5, x6, x7, x8, x9, x10, y2, y3, f9⟩; go_simp; (try with_reducible rfl))); clear hsh; intro hsh
      refine wpAnyC_take0 (i := 1) (k := 6) (v := ?_) rfl (by rfl) (by as_aux_lemma => kernel_rfl) (by as_aux_lemma => kernel_rfl) (by as_aux_lemma => kernel_rfl) hsh (by decide) (by intro _ _ _ h; exact h) (by assumption) (Or.inl ⟨by rfl, ?hy⟩) ?_; (case hy => (intro W _; go_simp; (try with_reducible rfl))); clear hsh; intro hsh
      refine wpAnyC_take0 (i := 2) (k := 6) (v := ?_) rfl (by rfl) (by as_aux_lemma => kernel_rfl) (by as_aux_lemma => kernel_rfl) (by as_aux_lemma => kernel_rfl) hsh (by decide) (by intro _ _ _ h; exact h) (by assumption) (Or.inl ⟨by rfl, ?hy⟩) ?_; (case hy => (intro W _; go_simp; (try with_reducible rfl))); clear hsh; intro hsh
      refine wpAnyC_take0 (i := 3) (k := 6) (v := ?_) rfl (by rfl) (by as_aux_lemma => kernel_rfl) (by as_aux_lemma => kernel_rfl) (by as_aux_lemma => kernel_rfl) hsh (by decide) (by intro _ _ _ h; exact h) (by assumption) (Or.inl ⟨by rfl, ?hy⟩) ?_; (case hy => (intro W _; go_simp; (try with_reducible rfl))); clear hsh; intro hsh
      refine wpAnyC_take (i := 4) (k := 6) (f := 40) (v := ?_) rfl (by rfl) (by as_aux_lemma => kernel_rfl) (by as_aux_lemma => kernel_rfl) (by as_aux_lemma => kernel_rfl) hsh (by decide) (by as_aux_lemma => kernel_rfl) (by intro _ _ _ h; exact h) (by assumption) (Or.inl ⟨by rfl, ?hy⟩) ?_; (case hy => (rintro W ⟨x0, x1, x2, x3, x4, x5, x6, x7, x8, x9, x10, y2, y3, f9⟩; go_simp; (try with_reducible rfl))); clear hsh; intro hsh
      refine wpAnyC_take (i := 5) (k := 6) (f := 40) (v := ?_) rfl (by rfl) (by as_aux_lemma => kernel_rfl) (by as_aux_lemma => kernel_rfl) (by as_aux_lemma => kernel_rfl) hsh (by decide) (by as_aux_lemma => kernel_rfl) (by intro _ _ _ h; exact h) (by assumption) (Or.inl ⟨by rfl, ?hy⟩) ?_; (case hy => (rintro W ⟨x0, x1, x2, x3, x4, x5, x6, x7, x8, x9, x10, y2, y3, f9⟩; go_simp; (try with_reducible rfl))); clear hsh; intro hsh
      obtain ⟨v, hv⟩ : ∃ v, seeV cs x.r t = v := ⟨_, rfl⟩
      have HSEE := hide (hv ▸ see_any pw x.r t A m mc cs w1.drew ht0 ht1 HOX.out.w0 HOX.out.w1 (block_cell HI1.out.box 1) (TkI.sl hcl HI1.out.crow) HCF.out)
      refine wpAnyC_ready (rs := [6]) (by as_aux_lemma => kernel_rfl) (by simp) ?_; refine AllC.cons (i := 6) rfl (by as_aux_lemma => kernel_rfl) hsh (fun K hK => ?_) AllC.nil
      go_simp
      go_at_call 40
      refine HSEE.out.mono ?_
      rintro e w2 ⟨rfl, hw2⟩
      have HI2 := hide (HI1.out.below (by omega) hw2)
      have HO2 := hide (own_below HO1.out hw2)
      have HA2 := hide (block_below HA1.out hw2)
      try go_simp
      refine hK _ _ (fun h => absurd (h.symm.trans (by kernel_rfl)) (show ¬ (false = true) by decide)) ?_
      clear hK K hw2 HI1 HO1 HA1 HSEE hsh HS
      intro hsh
      refine wpAnyC_take1 (i := 7) (k := 6) (v := ?_) rfl (by rfl) (by as_aux_lemma => kernel_rfl) (by as_aux_lemma => kernel_rfl) (by as_aux_lemma => kernel_rfl) hsh (by as_aux_lemma => kernel_rfl) (by decide) (by intro _ _ _ h; exact h) (Or.inl ⟨by rfl, ?hy⟩) ?_; (case hy => (intro W _; go_simp; (try with_reducible rfl))); clear hsh; intro hsh
      refine wpAnyC_take1 (i := 8) (k := 6) (v := ?_) rfl (by rfl) (by as_aux_lemma => kernel_rfl) (by as_aux_lemma => kernel_rfl) (by as_aux_lemma => kernel_rfl) hsh (by as_aux_lemma => kernel_rfl) (by decide) (by intro _ _ _ h; exact h) (Or.inl ⟨by rfl, ?hy⟩) ?_; (case hy => (intro W _; go_simp; (try with_reducible rfl))); clear hsh; intro hsh
      refine wpAnyC_take1 (i := 9) (k := 6) (v := ?_) rfl (by rfl) (by as_aux_lemma => kernel_rfl) (by as_aux_lemma => kernel_rfl) (by as_aux_lemma => kernel_rfl) hsh (by as_aux_lemma => kernel_rfl) (by decide) (by intro _ _ _ h; exact h) (Or.inl ⟨by rfl, ?hy⟩) ?_; (case hy => (intro W _; go_simp; (try with_reducible rfl))); clear hsh; intro hsh
      refine wpAnyC_take1 (i := 10) (k := 6) (v := ?_) rfl (by rfl) (by as_aux_lemma => kernel_rfl) (by as_aux_lemma => kernel_rfl) (by as_aux_lemma => kernel_rfl) hsh (by as_aux_lemma => kernel_rfl) (by decide) (by intro _ _ _ h; exact h) (Or.inl ⟨by rfl, ?hy⟩) ?_; (case hy => (intro W _; go_simp; (try with_reducible rfl))); clear hsh; intro hsh
      refine wpAnyC_take1 (i := 11) (k := 6) (v := ?_) rfl (by rfl) (by as_aux_lemma => kernel_rfl) (by as_aux_lemma => kernel_rfl) (by as_aux_lemma => kernel_rfl) hsh (by as_aux_lemma => kernel_rfl) (by decide) (by intro _ _ _ h; exact h) (Or.inl ⟨by rfl, ?hy⟩) ?_; (case hy => (intro W _; go_simp; (try with_reducible rfl))); clear hsh; intro hsh
      refine wpAnyC_done (by as_aux_lemma => kernel_rfl) ?_; clear hsh
      obtain ⟨v1, v2⟩ := v
      obtain ⟨x0, x1, x2, x3, x4, x5, x6, x7, x8, x9, x10, y2, y3, f9⟩ := HI2.out.xs HGX.out
      have HI3 := hide (HI2.out.setVa HGX.out (by omega) (.inr (.inl rfl)) (by omega) v1)
      have HGX3 := hide (show (((ws.take j).map (tkW cs sl t) ++ ws.drop j).set j ⟨x.r, x.st, x.si, v1⟩)[j]? = some ⟨x.r, x.st, x.si, v1⟩ by
        have hl := (List.getElem?_eq_some_iff.1 HGX.out).1
        rw [List.getElem?_set]; simp only [if_true]; rw [if_pos hl])
      go_wp2_with (fail)
      have HO3 := hide (show (w2.setCell ⟨rb, j * 11 + 9, none⟩ (.int .i64 v1)).ownsRow (w.heap.size + 2) 58 4 _ _ _ from ownsRow_setCell_other HO2.out (a := ⟨rb, j * 11 + 9, none⟩) (by obtain ⟨cu, hbk⟩ := HI2.out.rowBlk (by omega); exact own_other' HO2.out hbk (by decide)) _)
      have HA3 := hide (block_set_other HA2.out ⟨rb, j * 11 + 9, none⟩ (.int .i64 v1) (by simp only; omega))
      obtain ⟨w3, hw3⟩ : ∃ w3, w2.setCell ⟨rb, j * 11 + 9, none⟩ (.int .i64 v1) = w3 := ⟨_, rfl⟩
      rw [hw3] at HI3 HO3 HA3 ⊢
      clear hw3 HI2 HO2 HA2 x0 x1 x2 x3 x4 x5 x6 x7 x8 x9 x10 y2 y3 f9
      obtain ⟨fn, hfn, eg, HFN⟩ := hold_fn x.r HOX.out.a0 HOX.out.a1
      refine wp_region_chain (fun W => TkX pw w.heap.size (w.heap.size + 1) rb j t ⟨x.r, x.st, x.si, v1⟩ W) 10 (by as_aux_lemma => kernel_rfl) (N := 12) (by as_aux_lemma => kernel_rfl) ?_; intro hsh
      have HS := HI3.out.drew.xs HGX3.out
      refine wpAnyC_take (i := 0) (k := 10) (f := 40) (v := ?_) rfl (by rfl) (by as_aux_lemma => kernel_rfl) (by as_aux_lemma => kernel_rfl) (by as_aux_lemma => kernel_rfl) hsh (by decide) (by as_aux_lemma => kernel_rfl) (by intro _ _ _ h; exact h) (by assumption) (Or.inl ⟨by rfl, ?hy⟩) ?_; (case hy => (rintro W ⟨x0, x1, x2, x3, x4, x5, x6, x7, x8, x9, x10, y2, y3, f9⟩; go_simp; (try with_reducible rfl))); clear hsh; intro hsh
      refine wpAnyC_take0 (i := 1) (k := 10) (v := ?_) rfl (by rfl) (by as_aux_lemma => kernel_rfl) (by as_aux_lemma => kernel_rfl) (by as_aux_lemma => kernel_rfl) hsh (by decide) (by intro _ _ _ h; exact h) (by assumption) (Or.inl ⟨by rfl, ?hy⟩) ?_; (case hy => (intro W _; go_simp; (try with_reducible rfl))); clear hsh; intro hsh
      refine wpAnyC_take0 (i := 2) (k := 10) (v := ?_) rfl (by rfl) (by as_aux_lemma => kernel_rfl) (by as_aux_lemma => kernel_rfl) (by as_aux_lemma => kernel_rfl) hsh (by decide) (by intro _ _ _ h; exact h) (by assumption) (Or.inl ⟨by rfl, ?hy⟩) ?_; (case hy => (intro W _; go_simp; (try with_reducible rfl))); clear hsh; intro hsh
      refine wpAnyC_take0 (i := 3) (k := 10) (v := ?_) rfl (by rfl) (by as_aux_lemma => kernel_rfl) (by as_aux_lemma => kernel_rfl) (by as_aux_lemma => kernel_rfl) hsh (by decide) (by intro _ _ _ h; exact h) (by assumption) (Or.inl ⟨by rfl, ?hy⟩) ?_; (case hy => (intro W _; go_simp; (try with_reducible rfl))); clear hsh; intro hsh
      refine wpAnyC_take0 (i := 4) (k := 10) (v := ?_) rfl (by rfl) (by as_aux_lemma => kernel_rfl) (by as_aux_lemma => kernel_rfl) (by as_aux_lemma => kernel_rfl) hsh (by decide) (by intro _ _ _ h; exact h) (by assumption) (Or.inl ⟨by rfl, ?hy⟩) ?_; (case hy => (intro W _; go_simp; (try with_reducible rfl))); clear hsh; intro hsh
      refine wpAnyC_take (i := 5) (k := 10) (f := 40) (v := ?_) rfl (by rfl) (by as_aux_lemma => kernel_rfl) (by as_aux_lemma => kernel_rfl) (by as_aux_lemma => kernel_rfl) hsh (by decide) (by as_aux_lemma => kernel_rfl) (by intro _ _ _ h; exact h) (by assumption) (Or.inl ⟨by rfl, ?hy⟩) ?_; (case hy => (rintro W ⟨x0, x1, x2, x3, x4, x5, x6, x7, x8, x9, x10, y2, y3, f9⟩; rw [hfn] at x10; go_simp; (try with_reducible rfl))); clear hsh; intro hsh
      refine wpAnyC_take0 (i := 6) (k := 10) (v := ?_) rfl (by rfl) (by as_aux_lemma => kernel_rfl) (by as_aux_lemma => kernel_rfl) (by as_aux_lemma => kernel_rfl) hsh (by decide) (by intro _ _ _ h; exact h) (by assumption) (Or.inl ⟨by rfl, ?hy⟩) ?_; (case hy => (intro W _; go_simp; (try with_reducible rfl))); clear hsh; intro hsh
      refine wpAnyC_take0 (i := 7) (k := 10) (v := ?_) rfl (by rfl) (by as_aux_lemma => kernel_rfl) (by as_aux_lemma => kernel_rfl) (by as_aux_lemma => kernel_rfl) hsh (by decide) (by intro _ _ _ h; exact h) (by assumption) (Or.inl ⟨by rfl, ?hy⟩) ?_; (case hy => (intro W _; go_simp; (try with_reducible rfl))); clear hsh; intro hsh
      refine wpAnyC_take (i := 9) (k := 10) (f := 40) (v := ?_) rfl (by rfl) (by as_aux_lemma => kernel_rfl) (by as_aux_lemma => kernel_rfl) (by as_aux_lemma => kernel_rfl) hsh (by decide) (by as_aux_lemma => kernel_rfl) (by intro _ _ _ h; exact h) (by assumption) (Or.inl ⟨by rfl, ?hy⟩) ?_; (case hy => (rintro W ⟨x0, x1, x2, x3, x4, x5, x6, x7, x8, x9, x10, y2, y3, f9⟩; go_simp; (try with_reducible rfl))); clear hsh; intro hsh
      obtain ⟨hh, hhe⟩ : ∃ hh, holdsB x.r v1 v2 = hh := ⟨_, rfl⟩
      have HCF1 := hide (hhe ▸ HFN v1 v2 w3.drew)
      refine wpAnyC_ready (rs := [8]) (by as_aux_lemma => kernel_rfl) (by simp) ?_; refine AllC.cons (i := 8) rfl (by as_aux_lemma => kernel_rfl) hsh (fun K hK => ?_) AllC.nil
      go_simp
      go_at_fn fn
      refine HCF1.out.mono ?_
      rintro e w4 ⟨rfl, hw4⟩
      have HI4 := hide (HI3.out.drew.below (by omega) hw4)
      have HO4 := hide (own_below HO3.out.drew hw4)
      have HA4 := hide (block_below (show w3.drew.heap[wr.heap.size]? = _ from HA3.out) hw4)
      try go_simp
      refine hK _ _ (fun _ => HI4.out.xs HGX3.out) ?_
      clear hK K hw4 HI3 HO3 HA3 HCF1 hsh HS HFN eg hfn
      intro hsh
      obtain ⟨cur4, HG4, hSA, HW4⟩ := HI4.out.goIn HGX3.out (by omega) (.inr (.inl rfl)) (by omega) hsl
      have HG4 := hide HG4
      have HW4 := hide HW4
      obtain ⟨⟨st', si', kd⟩, hR⟩ : ∃ R, goS x.st x.si hh t x.r.hold x.r.rest (silB x.r.name t sl) = R := ⟨_, rfl⟩
      have CGO := hide (goOn_any pw rb (j * 11) x.r.name x.r.hold x.r.rest x.st x.si t hh SA sn sc sl cur4 w4 HG4.out hSA (by unfold maxLen; omega) ht0 ht1 HOX.out.i0 (by have := HOX.out.i1; omega) HOX.out.s0 HOX.out.s3 _ hR)
      refine wpAnyC_tail (by as_aux_lemma => kernel_rfl) (by simp) (by as_aux_lemma => kernel_rfl) ?_; simp only [List.drop_succ_cons, List.drop_zero]; clear hsh
      have HR := hide hR
      clear hR hSA
      go_wp2_with (go_at_call 41; refine CGO.out.mono ?_; rintro e w5 ⟨rfl, hb5, hbut⟩; have HI5 := hide (HW4.out w5 _ _ hb5 hbut); have HO5 := hide (ButAt.own hbut HO4.out (by obtain ⟨cu, hbk⟩ := HI4.out.rowBlk (by omega); exact own_other' HO4.out hbk (by decide))); have HA5 := hide (hbut.keep _ _ HA4.out (by omega)); clear hb5 hbut)
      have HL5 := hide (show (((ws.take j).map (tkW cs sl t) ++ ws.drop j).set j ⟨x.r, x.st, x.si, v1⟩).set j ⟨x.r, st', si', v1⟩ = (ws.take (j + 1)).map (tkW cs sl t) ++ ws.drop (j + 1) by
        rw [List.set_set, ← take_drop_set (tkW cs sl t) ws j x HX.out]
        have e : tkW cs sl t x = ⟨x.r, st', si', v1⟩ := by unfold tkW tkR; rw [hv]; simp only; rw [hhe, HR.out]
        rw [e])
      have HI6 := hide (HL5.out ▸ HI5.out)
      have HGX6 := hide (show ((ws.take (j + 1)).map (tkW cs sl t) ++ ws.drop (j + 1))[j]? = some ⟨x.r, st', si', v1⟩ by
        rw [← HL5.out, List.getElem?_set]; simp only [if_true]
        rw [if_pos (by rw [List.length_set]; exact (List.getElem?_eq_some_iff.1 HGX.out).1)])
      have HTN := hide (show tkN cs sl t x = if kd = 0 then [] else [⟨t, x.r.name, kd, v1⟩] by unfold tkN tkR; rw [hv]; simp only; rw [hhe, HR.out])
      have HNT := hide (show kd ≠ 0 → st' ≠ x.st from fun h => by
        have := goS_turn x.st x.si hh t x.r.hold x.r.rest (silB x.r.name t sl) (by rw [HR.out]; exact h)
        rw [HR.out] at this; exact this)
      clear HI5 HI4 HO4 HA4 CGO HG4 HW4 hv hhe HL5
      obtain ⟨x0, x1, x2, x3, x4, x5, x6, x7, x8, x9, x10, y2, y3, f9⟩ := HI6.out.xs HGX6.out
      have b0 : w5.cell? ⟨wr.heap.size, 0, none⟩ = some (.int .i64 x.st) := block_cell HA5.out 0
      have b1 : w5.cell? ⟨wr.heap.size, 1, none⟩ = some (.int .i64 x.si) := block_cell HA5.out 1
      have HTK0 := hide (take_succ_get HX.out)
      simp only at x0 x1 x2 x3 x4 x5 x6 x7 x8 x9 x10
      by_cases hkd : kd = 0
      · subst hkd
        have HT1 := hide (show (ws.take (j + 1)).flatMap (tkN cs sl t) = (ws.take j).flatMap (tkN cs sl t) by rw [HTK0.out, List.flatMap_append]; simp [HTN.out])
        by_cases h1 : st' = x.st
        · by_cases h2 : si' = x.si
          · subst h1; subst h2
            go_wp2_with (first | go_quiet (fail))
            go_roundw
            case rel => exact ⟨j + 1, by omega, by go_num, HI6.out.drewN _, by rw [HT1.out]; exact HO5.out⟩
            case measure => simp [intOf]; omega
          · have h2' : (si' == x.si) = false := by simpa using h2
            subst h1
            go_wp2_with (first | go_quiet (fail))
            go_roundw
            case rel => exact ⟨j + 1, by omega, by go_num, HI6.out.drewN _, by rw [HT1.out]; exact HO5.out⟩
            case measure => simp [intOf]; omega
        · have h1' : (st' == x.st) = false := by simpa using h1
          go_wp2_with (first | go_quiet (fail))
          go_roundw
          case rel => exact ⟨j + 1, by omega, by go_num, HI6.out.drewN _, by rw [HT1.out]; exact HO5.out⟩
          case measure => simp [intOf]; omega
      · have h1' : (st' == x.st) = false := by simpa using HNT.out hkd
        have hkd' : (kd == 0) = false := by simpa using hkd
        go_wp2_with (first | go_quiet (fail))
        have HT1 := hide (show (ws.take (j + 1)).flatMap (tkN cs sl t) = (ws.take j).flatMap (tkN cs sl t) ++ [⟨t, x.r.name, kd, v1⟩] by rw [HTK0.out, List.flatMap_append]; simp [HTN.out, hkd])
        have HI7 := hide (HI6.out.drewN nq)
        have HO7 := hide (show (w5.drewN nq).ownsRow _ _ _ _ _ _ from HO5.out)
        obtain ⟨w6, hw6⟩ : ∃ w6, w5.drewN nq = w6 := ⟨_, rfl⟩
        rw [hw6] at HI7 HO7 ⊢
        clear hw6 x0 x1 x2 x3 x4 x5 x6 x7 x8 x9 x10 y2 y3 f9 b0 b1 HA5 HI6 HO5
        obtain ⟨ns, hns⟩ : ∃ ns, (ws.take j).flatMap (tkN cs sl t) = ns := ⟨_, rfl⟩
        rw [hns] at HT1 HO7
        have hnl : ns.length ≤ 1000 := by
          rw [← hns]
          refine Nat.le_trans (tkN_len cs sl t _) ?_
          rw [List.length_take]; omega
        clear hns
        obtain ⟨ao, oc, rfl⟩ := own_sl HO7.out
        refine wp_region_chain (fun W => TkX pw w.heap.size (w.heap.size + 1) rb j t ⟨x.r, st', si', v1⟩ W) 11 (by as_aux_lemma => kernel_rfl) (N := 13) (by as_aux_lemma => kernel_rfl) ?_; intro hsh
        have HS := HI7.out.drew.xs HGX6.out
        refine wpAnyC_take0 (i := 0) (k := 11) (v := ?_) rfl (by rfl) (by as_aux_lemma => kernel_rfl) (by as_aux_lemma => kernel_rfl) (by as_aux_lemma => kernel_rfl) hsh (by decide) (by intro _ _ _ h; exact h) (by assumption) (Or.inl ⟨by rfl, ?hy⟩) ?_; (case hy => (intro W _; go_simp; (try with_reducible rfl))); clear hsh; intro hsh
        refine wpAnyC_take0 (i := 2) (k := 11) (v := ?_) rfl (by rfl) (by as_aux_lemma => kernel_rfl) (by as_aux_lemma => kernel_rfl) (by as_aux_lemma => kernel_rfl) hsh (by decide) (by intro _ _ _ h; exact h) (by assumption) (Or.inl ⟨by rfl, ?hy⟩) ?_; (case hy => (intro W _; go_simp; (try with_reducible rfl))); clear hsh; intro hsh
        refine wpAnyC_take0 (i := 3) (k := 11) (v := ?_) rfl (by rfl) (by as_aux_lemma => kernel_rfl) (by as_aux_lemma => kernel_rfl) (by as_aux_lemma => kernel_rfl) hsh (by decide) (by intro _ _ _ h; exact h) (by assumption) (Or.inl ⟨by rfl, ?hy⟩) ?_; (case hy => (intro W _; go_simp; (try with_reducible rfl))); clear hsh; intro hsh
        refine wpAnyC_take0 (i := 4) (k := 11) (v := ?_) rfl (by rfl) (by as_aux_lemma => kernel_rfl) (by as_aux_lemma => kernel_rfl) (by as_aux_lemma => kernel_rfl) hsh (by decide) (by intro _ _ _ h; exact h) (by assumption) (Or.inl ⟨by rfl, ?hy⟩) ?_; (case hy => (intro W _; go_simp; (try with_reducible rfl))); clear hsh; intro hsh
        refine wpAnyC_take0 (i := 5) (k := 11) (v := ?_) rfl (by rfl) (by as_aux_lemma => kernel_rfl) (by as_aux_lemma => kernel_rfl) (by as_aux_lemma => kernel_rfl) hsh (by decide) (by intro _ _ _ h; exact h) (by assumption) (Or.inl ⟨by rfl, ?hy⟩) ?_; (case hy => (intro W _; go_simp; (try with_reducible rfl))); clear hsh; intro hsh
        refine wpAnyC_take0 (i := 7) (k := 11) (v := ?_) rfl (by rfl) (by as_aux_lemma => kernel_rfl) (by as_aux_lemma => kernel_rfl) (by as_aux_lemma => kernel_rfl) hsh (by decide) (by intro _ _ _ h; exact h) (by assumption) (Or.inl ⟨by rfl, ?hy⟩) ?_; (case hy => (intro W _; go_simp; (try with_reducible rfl))); clear hsh; intro hsh
        refine wpAnyC_take0 (i := 8) (k := 11) (v := ?_) rfl (by rfl) (by as_aux_lemma => kernel_rfl) (by as_aux_lemma => kernel_rfl) (by as_aux_lemma => kernel_rfl) hsh (by decide) (by intro _ _ _ h; exact h) (by assumption) (Or.inl ⟨by rfl, ?hy⟩) ?_; (case hy => (intro W _; go_simp; (try with_reducible rfl))); clear hsh; intro hsh
        refine wpAnyC_take (i := 1) (k := 11) (f := 40) (v := ?_) rfl (by rfl) (by as_aux_lemma => kernel_rfl) (by as_aux_lemma => kernel_rfl) (by as_aux_lemma => kernel_rfl) hsh (by decide) (by as_aux_lemma => kernel_rfl) (by intro _ _ _ h; exact h) (by assumption) (Or.inl ⟨by rfl, ?hy⟩) ?_; (case hy => (rintro W ⟨x0, x1, x2, x3, x4, x5, x6, x7, x8, x9, x10, y2, y3, f9⟩; go_simp; (try with_reducible rfl))); clear hsh; intro hsh
        refine wpAnyC_take (i := 6) (k := 11) (f := 40) (v := ?_) rfl (by rfl) (by as_aux_lemma => kernel_rfl) (by as_aux_lemma => kernel_rfl) (by as_aux_lemma => kernel_rfl) hsh (by decide) (by as_aux_lemma => kernel_rfl) (by intro _ _ _ h; exact h) (by assumption) (Or.inl ⟨by rfl, ?hy⟩) ?_; (case hy => (rintro W ⟨x0, x1, x2, x3, x4, x5, x6, x7, x8, x9, x10, y2, y3, f9⟩; go_simp; (try with_reducible rfl))); clear hsh; intro hsh
        refine wpAnyC_take0 (i := 9) (k := 11) (v := ?_) rfl (by rfl) (by as_aux_lemma => kernel_rfl) (by as_aux_lemma => kernel_rfl) (by as_aux_lemma => kernel_rfl) hsh (by decide) (by intro _ _ _ h; exact h) (by assumption) (Or.inl ⟨by rfl, ?hy⟩) ?_; (case hy => (intro W _; go_simp; (try with_reducible rfl))); clear hsh; intro hsh
        have HI8 := hide (HI7.out.drew.below (by omega) ((Below.refl _ _).alloc (Nat.le_refl _) (.cells #[.int .i64 t, .string x.r.name, .int .i64 kd, .int .i64 v1] 58)))
        have HO8 := hide (HO7.out.drew.alloc (.cells #[.int .i64 t, .string x.r.name, .int .i64 kd, .int .i64 v1] 58))
        refine wpAnyC_ready (rs := [10]) (by as_aux_lemma => kernel_rfl) (by simp) ?_; refine AllC.cons (i := 10) rfl (by as_aux_lemma => kernel_rfl) hsh (fun K hK => ?_) AllC.nil
        go_simp
        refine hK _ _ (fun _ => HI8.out.xs HGX6.out) ?_
        clear hK K hsh HS
        intro hsh
        refine wpAnyC_tail (by as_aux_lemma => kernel_rfl) (by simp) (by as_aux_lemma => kernel_rfl) ?_; simp only [List.drop_succ_cons, List.drop_zero]; clear hsh
        go_wp2_with (at_builtin; refine wpList_append_own _ rfl (.tmp 81) (.tmp 91) 48 rfl (w.heap.size + 2) 58 i0 (.agg #[.int .i64 0, .string ByteArray.empty, .int .i64 0, .int .i64 0]) 4 40 Tryz.underlying48 hi0 iz0 iz1 iz2 rfl (by decide) _ ns.length _ rfl HO8.out ⟨w6.heap.size, 0, none⟩ 1 1 [.int .i64 t, .string x.r.name, .int .i64 kd, .int .i64 v1] (by rfl) rfl (cells_at w6.drew [.int .i64 t, .string x.r.name, .int .i64 kd, .int .i64 v1] _ _ rfl) (by intro u hu; simp at hu; rcases hu with rfl | rfl | rfl | rfl <;> rfl) (by unfold maxLen; omega) (by omega) (by have := HI7.out.kp.be.size; have := lt_of_block HI7.out.x3; simp; omega) ?_; intro v8 w8 hown8 hg8 _; have HO9 := hide hown8; have HI9 := hide (HI8.out.grown HO8.out (by omega) (by omega) hg8); clear hown8 hg8)
        exact ⟨⟨j + 1, by omega, by go_num, HI9.out, by rw [HT1.out]; simpa [Nt.cs] using HO9.out⟩, by simp [intOf]; omega⟩
    · obtain rfl : j = n := by omega
      have E1 := hide (show (ws.take j).map (tkW cs sl t) ++ ws.drop j = ws.map (tkW cs sl t) by rw [take_len ws (by rw [HWL.out]; exact Nat.le_refl _), List.drop_of_length_le (by rw [HWL.out]; exact Nat.le_refl _), List.append_nil])
      have E2 := hide (show ws.take j = ws from take_len ws (by rw [HWL.out]; exact Nat.le_refl _))
      rw [E1.out] at hI
      rw [E2.out] at hO
      have HI := hide hI.drew
      have HO := hide (show wr.drew.ownsRow _ _ _ _ _ _ from hO)
      clear hI hO
      have CD := hide (DelF_any A m mc base cs (w.heap.size + 1) w.heap.size pw t g wr.drew hmm hcl HI.out.crow ⟨block_cell HI.out.x3 0, block_cell HI.out.x2 0, block_cell HI.out.box 4⟩ (fun k hk => ⟨fun e => own_other' HI.out.crow HI.out.x3 (by decide) (by rw [hk, e]), fun e => own_other' HI.out.crow HI.out.x2 (by decide) (by rw [hk, e]), fun e => own_other' HI.out.crow HI.out.box (by decide) (by rw [hk, e])⟩) ht0 ht1 hg0 hg1 (by simp; omega))
      have e0 : wr.cell? ⟨w.heap.size, 0, none⟩ = some (.pointer (some ⟨pw, 0, none⟩)) := block_cell HI.out.x2 0
      have e1 : wr.cell? ⟨pw, 1, none⟩ = some (.slice A m mc) := block_cell HI.out.box 1
      go_wp2_with (fail)
      refine wp_region_chain (fun W => W.cell? ⟨w.heap.size, 0, none⟩ = some (.pointer (some ⟨pw, 0, none⟩)) ∧ W.cell? ⟨pw, 1, none⟩ = some (.slice A m mc)) 9 (by as_aux_lemma => kernel_rfl) (N := 10) (by as_aux_lemma => kernel_rfl) ?_; intro hsh
      have HS : wr.drew.cell? ⟨w.heap.size, 0, none⟩ = some (.pointer (some ⟨pw, 0, none⟩)) ∧ wr.drew.cell? ⟨pw, 1, none⟩ = some (.slice A m mc) := ⟨e0, e1⟩
      refine wpAnyC_take (i := 0) (k := 9) (f := 40) (v := ?_) rfl (by rfl) (by as_aux_lemma => kernel_rfl) (by as_aux_lemma => kernel_rfl) (by as_aux_lemma => kernel_rfl) hsh (by decide) (by as_aux_lemma => kernel_rfl) (by intro _ _ _ h; exact h) (by assumption) (Or.inl ⟨by rfl, ?hy⟩) ?_; (case hy => (rintro W ⟨y0, y1⟩; go_simp; (try with_reducible rfl))); clear hsh; intro hsh
      refine wpAnyC_take (i := 1) (k := 9) (f := 40) (v := ?_) rfl (by rfl) (by as_aux_lemma => kernel_rfl) (by as_aux_lemma => kernel_rfl) (by as_aux_lemma => kernel_rfl) hsh (by decide) (by as_aux_lemma => kernel_rfl) (by intro _ _ _ h; exact h) (by assumption) (Or.inl ⟨by rfl, ?hy⟩) ?_; (case hy => (rintro W ⟨y0, y1⟩; go_simp; (try with_reducible rfl))); clear hsh; intro hsh
      refine wpAnyC_take0 (i := 2) (k := 9) (v := ?_) rfl (by rfl) (by as_aux_lemma => kernel_rfl) (by as_aux_lemma => kernel_rfl) (by as_aux_lemma => kernel_rfl) hsh (by decide) (by intro _ _ _ h; exact h) (by assumption) (Or.inl ⟨by rfl, ?hy⟩) ?_; (case hy => (intro W _; go_simp; (try with_reducible rfl))); clear hsh; intro hsh
      refine wpAnyC_take0 (i := 3) (k := 9) (v := ?_) rfl (by rfl) (by as_aux_lemma => kernel_rfl) (by as_aux_lemma => kernel_rfl) (by as_aux_lemma => kernel_rfl) hsh (by decide) (by intro _ _ _ h; exact h) (by assumption) (Or.inl ⟨by rfl, ?hy⟩) ?_; (case hy => (intro W _; go_simp; (try with_reducible rfl))); clear hsh; intro hsh
      refine wpAnyC_take (i := 4) (k := 9) (f := 40) (v := ?_) rfl (by rfl) (by as_aux_lemma => kernel_rfl) (by as_aux_lemma => kernel_rfl) (by as_aux_lemma => kernel_rfl) hsh (by decide) (by as_aux_lemma => kernel_rfl) (by intro _ _ _ h; exact h) (by assumption) (Or.inl ⟨by rfl, ?hy⟩) ?_; (case hy => (rintro W ⟨y0, y1⟩; go_simp; (try with_reducible rfl))); clear hsh; intro hsh
      refine wpAnyC_take0 (i := 5) (k := 9) (v := ?_) rfl (by rfl) (by as_aux_lemma => kernel_rfl) (by as_aux_lemma => kernel_rfl) (by as_aux_lemma => kernel_rfl) hsh (by decide) (by intro _ _ _ h; exact h) (by assumption) (Or.inl ⟨by rfl, ?hy⟩) ?_; (case hy => (intro W _; go_simp; (try with_reducible rfl))); clear hsh; intro hsh
      refine wpAnyC_ready (rs := [6]) (by as_aux_lemma => kernel_rfl) (by simp) ?_; refine AllC.cons (i := 6) rfl (by as_aux_lemma => kernel_rfl) hsh (fun K hK => ?_) AllC.nil
      go_simp
      go_at_call 42
      refine CD.out.mono ?_
      rintro e w4 ⟨v, rfl, hcr, hkp, hvo⟩
      have HVO := hide hvo
      clear hvo
      obtain ⟨a4, c4, rfl⟩ := own_sl hcr
      have HB4 := hide (hkp.keep _ _ HI.out.box (fun e => own_other' HI.out.crow HI.out.box (by decide) e))
      have HI4x := hide (hkp.keep _ _ HI.out.x2 (fun e => own_other' HI.out.crow HI.out.x2 (by decide) e))
      have HR4 := hide (hkp.own HI.out.rrow (fun k hk e => by rcases own_two HI.out.crow HI.out.rrow (by decide) with h | h; (rw [h] at hk; cases hk); (exact h (hk.trans e.symm))))
      have HS4 := hide (hkp.own HI.out.srow (fun k hk e => by rcases own_two HI.out.crow HI.out.srow (by decide) with h | h; (rw [h] at hk; cases hk); (exact h (hk.trans e.symm))))
      have HO4 := hide (hkp.own HO.out (fun k hk e => by rcases own_two HI.out.crow HO.out (by decide) with h | h; (rw [h] at hk; cases hk); (exact h (hk.trans e.symm))))
      have HC4 := hide hcr
      have HK4 := hide (HI.out.kp.trans (hkp.mono hB2 (fun k hk => .inr (.inr hk))))
      have e1 : w4.cell? ⟨pw, 1, none⟩ = some (.slice A m mc) := block_cell HB4.out 1
      have f1 : w4.frozen? ⟨pw, 1, none⟩ = false := block_free HB4.out 1
      try go_simp
      refine hK _ _ (fun _ => ⟨block_cell HI4x.out 0, block_cell HB4.out 1⟩) ?_
      clear hK K hcr hkp hsh HS CD
      intro hsh
      have HS : w4.cell? ⟨w.heap.size, 0, none⟩ = some (.pointer (some ⟨pw, 0, none⟩)) ∧ w4.cell? ⟨pw, 1, none⟩ = some (.slice A m mc) := ⟨block_cell HI4x.out 0, block_cell HB4.out 1⟩
      refine wpAnyC_take0 (i := 7) (k := 9) (v := ?_) rfl (by rfl) (by as_aux_lemma => kernel_rfl) (by as_aux_lemma => kernel_rfl) (by as_aux_lemma => kernel_rfl) hsh (by decide) (by intro _ _ _ h; exact h) (by assumption) (Or.inl ⟨by rfl, ?hy⟩) ?_; (case hy => (intro W _; go_simp; (try with_reducible rfl))); clear hsh; intro hsh
      refine wpAnyC_take0 (i := 8) (k := 9) (v := ?_) rfl (by rfl) (by as_aux_lemma => kernel_rfl) (by as_aux_lemma => kernel_rfl) (by as_aux_lemma => kernel_rfl) hsh (by decide) (by intro _ _ _ h; exact h) (by assumption) (Or.inl ⟨by rfl, ?hy⟩) ?_; (case hy => (intro W _; go_simp; (try with_reducible rfl))); clear hsh; intro hsh
      refine wpAnyC_tail (by as_aux_lemma => kernel_rfl) (by simp) (by as_aux_lemma => kernel_rfl) ?_; simp only [List.drop_succ_cons, List.drop_zero]; clear hsh
      go_wp2_with (fail)
      go_ret2
      refine ⟨_, _, rfl, block_set HB4.out (i := 1) _, ownsRow_setCell_other HR4.out (a := ⟨pw, 1, none⟩) (own_other' HR4.out HB4.out (by decide)) _, ownsRow_setCell_other HC4.out (a := ⟨pw, 1, none⟩) (own_other' HC4.out HB4.out (by decide)) _, ownsRow_setCell_other HS4.out (a := ⟨pw, 1, none⟩) (own_other' HS4.out HB4.out (by decide)) _, ?_, HK4.out.trans (Keep.set _ 1 _ hB (.inl rfl)), HVO.out⟩
      exact World.ownsRow.mono (ownsRow_setCell_other HO4.out (a := ⟨pw, 1, none⟩) (own_other' HO4.out HB4.out (by decide)) _) (by omega)
end Go.Proofs.YtkkhjlomicokgaaGreatDoor.al