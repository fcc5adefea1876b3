/- The law StackFolds. -/
import Derived.Test.YtbfhicimjijdeaaDoorStFold
import Derived.Test.YtbfhicimjijdeaaDoorStFoldP
import Derived.Test.YtbfhicimjijdeaaDoorStFoldN
import Derived.Test.YtbfhicimjijdeaaDoorStUnOk
import Derived.Test.YtbfhicimjijdeaaDoorStCutX
import Derived.Test.YtbfhicimjijdeaaDoorStEqB
import Derived.Test.YtbfhicimjijdeaaDoorStAwake
import Derived.Test.YtbfhicimjijdeaaDoorStOpen
import Derived.Test.YtbfhicimjijdeaaDoorStFolN
namespace Go.Proofs.YtbfhicimjijdeaaDoor
open Go.RowKit Go.Joins
set_option linter.unusedVariables false
theorem frsErr_sub {l m : List Frame} (h : frsErr l = 0) (hm : m.length ≤ 200) (hs : ∀ x ∈ m, x ∈ l) : frsErr m = 0 := by
  rw [frsErr, if_neg (by omega)]
  refine firstErr_zero fun j hj => ?_
  rw [frAt_some (List.getElem?_eq_getElem hj)]
  obtain ⟨i, hi, e⟩ := List.mem_iff_getElem.1 (hs _ (List.getElem_mem hj))
  rw [frsErr, if_neg (by have := frsErr_len h; omega)] at h
  have h2 := firstErr_all h i hi
  rw [frAt_some (List.getElem?_eq_getElem hi)] at h2
  rw [← e]; exact h2
theorem onceL_mem {l : List Frame} {rs : List RunT} {x : Frame} (h : x ∈ onceL l rs) : x ∈ l := by
  obtain ⟨r, _, hx⟩ := List.mem_flatMap.1 h
  exact List.mem_of_mem_drop (List.mem_of_mem_take hx)
section
variable (A : Option Addr) (n c : Nat) (l : List Frame) (w : World) (hn : n ≤ maxLen) (hl : Sl w w.heap.size Frame.cs 6 A n l) (hf : FramesFit l)
include hn hl hf
set_option maxRecDepth 100000 in
set_option maxHeartbeats 2000000 in
theorem StackFolds_F (hbad : frsErr l ≠ 0) : Calls Tryd.prog 6 #[.slice A n c] w fun e w' => e = .returned (.bool true) ∧ Below w.heap.size w w' := by
  obtain ⟨E, hE⟩ : ∃ E, frsErr l = E := ⟨_, rfl⟩
  rw [hE] at hbad
  have K0 := hide (awakeStack_any w)
  have K1 := hide (fun W h => Fold_err A n c l W hn h hf hE hbad)
  have h0' : (E == 0) = false := by simpa using hbad
  clear hE hbad
  go_enter Tryd.func6, Tryd.ntmps6
  go_wp2_with (first | (go_at_call 10; refine K0.out.mono ?_; rintro r w0 ⟨rfl, hB0⟩) | (go_at_call 15; refine (K1.out _ (hl.up hB0)).mono ?_; rintro r w1 ⟨rfl, hw1⟩; have hB1 := hB0.trans (hw1.mono hB0.size)))
  go_ret
  exact ⟨rfl, hB1⟩
set_option maxRecDepth 100000 in
set_option maxHeartbeats 8000000 in
theorem StackFolds_G (hnc : n ≤ c) (hcm : c ≤ maxLen) (hE : frsErr l = 0) : Calls Tryd.prog 6 #[.slice A n c] w fun e w' => e = .returned (.bool true) ∧ Below w.heap.size w w' := by
  have HL := hide hl.len
  have h200 : n ≤ 200 := by have := frsErr_len hE; have := hl.len; omega
  have K0 := hide (awakeStack_any w)
  have K1 := hide (fun W h => Fold_ok A n c l W h200 hnc hcm h hf hE)
  have HS := hide (folds_L l).say
  have hrl := foldL_len l
  rw [HL.out] at hrl
  obtain ⟨rs, hrs⟩ : ∃ rs, foldL l = rs := ⟨_, rfl⟩
  rw [hrs] at K1 HS hrl
  have HE := hide hE
  have HF := hide hf
  obtain ⟨i0, hi0, iz0, iz1, iz2⟩ := info_parts info_frame
  have hok : ∀ x ∈ rs, runOk x = true := fun x hx => by
    obtain ⟨b1, b2, b3, b4⟩ := HS.out.bd x hx
    have := HL.out
    have h3 : x.long * 1 ≤ x.long * x.times := Int.mul_le_mul_of_nonneg_left b2 (by omega)
    have h4 : 1 * x.times ≤ x.long * x.times := Int.mul_le_mul_of_nonneg_right b1 (by omega)
    exact (runOk_iff x).2 ⟨⟨b1, by omega⟩, b2, by omega⟩
  have HOK := hide hok
  have hsb := sums_bd rs hok
  have hone : (onceL l rs).length ≤ 200 := by have h1 := HS.out.sum; have h2 := HS.out.tot; have := HL.out; omega
  have HONE := hide hone
  unfold maxLen at hcm
  clear hrs hE hf hok hsb hone
  go_enter Tryd.func6, Tryd.ntmps6
  go_wp2_with (first | (go_at_call 10; refine K0.out.mono ?_; rintro r w0 ⟨rfl, hB0⟩) | (go_at_call 15; refine (K1.out _ (hl.up hB0)).mono ?_; rintro r w1 ⟨A1, N1, c1, rfl, hR1, hw1⟩; have hB1 := hB0.trans (hw1.mono hB0.size)))
  have HR := hide hR1
  have hN1 : N1 ≤ 200 := by have := hR1.len; omega
  have HRL := hide hR1.len
  have HL1 := hide (hl.up hB1)
  clear hR1
  go_loopw [5, 6, 24] (fun v t i wr => ∃ k a m : Nat, k ≤ N1 ∧ i = .int .i64 k ∧ t = .int .i64 a ∧ total (rs.take k) = a ∧ (onceL l (rs.take k)).length = m ∧ wr.ownsRow w1.heap.size 39 6 v m ((onceL l (rs.take k)).flatMap Frame.cs) ∧ Below w1.heap.size w1 wr) (fun _ _ i _ => N1 - (intOf i).toNat)
  case atStart => exact ⟨0, 0, 0, Nat.zero_le _, rfl, rfl, rfl, rfl, World.ownsRow_nil _ _ _ _, Below.refl _ _⟩
  case round =>
    obtain ⟨k, a, m, hk, rfl, rfl, htot, hm, hown, hB⟩ := hrel
    have HTOT := hide htot
    have HM := hide hm
    have HOWN := hide hown
    have hz := hB.size
    have hm200 : m ≤ 200 := by
      have h1 : (onceL l (rs.take k)).length ≤ (onceL l rs).length := by
        have e : onceL l rs = onceL l (rs.take k) ++ onceL l (rs.drop k) := by rw [onceL, onceL, onceL, ← List.flatMap_append, List.take_append_drop]
        rw [e, List.length_append]; omega
      have := HONE.out
      omega
    clear htot hm hown
    by_cases hlt : k < N1
    · obtain ⟨bb, oo, x, rfl, hbb, hx, hc⟩ := (HR.out.below hB).at_ hlt
      have c0 := hc 0 _ rfl
      have c1 := hc 1 _ rfl
      have c2 := hc 2 _ rfl
      simp only [Nat.add_zero] at c0
      have HX := hide hx
      have hch := HS.out.chain k x hx
      rw [HTOT.out] at hch
      obtain ⟨b1, b2, b3, b4⟩ := HS.out.bd x (List.mem_of_getElem? hx)
      obtain ⟨lg, hlg⟩ : ∃ lg : Nat, x.long = lg := ⟨x.long.toNat, by omega⟩
      obtain ⟨tm, htm⟩ : ∃ tm : Nat, x.times = tm := ⟨x.times.toNat, by omega⟩
      rw [hch] at c0
      rw [hlg] at c1
      rw [htm] at c2
      have hln := HL.out
      have hmul : lg * tm ≤ n := by
        have : ((lg * tm : Nat) : Int) ≤ n := by rw [Int.natCast_mul, ← hlg, ← htm]; omega
        omega
      obtain ⟨P, hP, ⟨p1, p2, p3⟩⟩ := mulNum (a := lg) (b := tm) (by omega)
      have hb4 : a + P ≤ n := by
        have : ((a + lg * tm : Nat) : Int) ≤ n := by rw [Int.natCast_add, Int.natCast_mul, ← hlg, ← htm, ← hch]; omega
        omega
      have hlgP : lg ≤ P := by rw [hP]; exact Nat.le_mul_of_pos_right lg (by omega)
      obtain ⟨ag, hag, ⟨d1, d2, d3⟩⟩ := addNum (a := a) (b := lg) (by omega)
      obtain ⟨ap, hap, ⟨s1, s2, s3⟩⟩ := addNum (a := a) (b := P) (by omega)
      obtain ⟨b, o, rfl, _⟩ := hl.cells (by omega)
      have q1 : (1 : Int) ≤ (lg : Int) := by omega
      have q2 : (1 : Int) ≤ (tm : Int) := by omega
      have q3 : 1 ≤ lg := by omega
      have q4 : 1 ≤ tm := by omega
      have q5 : decide (lg < 1) = false := by simp; omega
      have q6 : decide (tm < 1) = false := by simp; omega
      have q7 : decide ((lg : Int) < 1) = false := by simp; omega
      have q8 : decide ((tm : Int) < 1) = false := by simp; omega
      have q9 : decide (n < ap) = false := by simp; omega
      have r1 : (0 : Int) ≤ (a : Int) := by omega
      have r2 : (a : Int) ≤ (ag : Int) := by omega
      have r3 : (ag : Int) ≤ (c : Int) := by omega
      have r4 : ¬ c = a := by omega
      have r5 : ag - a = lg := by omega
      have hseg : ((l.drop a).take lg).length = lg := by rw [List.length_take, List.length_drop]; omega
      have HSEG := hide hseg
      have HONX := hide (show onceL l (rs.take (k + 1)) = onceL l (rs.take k) ++ (l.drop a).take lg by rw [take_succ_get HX.out, onceL_snoc, hch, hlg]; rfl)
      have HTX := hide (show total (rs.take (k + 1)) = (ap : Nat) by rw [take_succ_get HX.out, total_snoc, HTOT.out, hlg, htm]; omega)
      have hap200 : ap ≤ 200 := by omega
      have hsrc := hide (((HL1.out.below hB).drop (i := a) (by omega)).first (i := lg) (by omega))
      have HLG := hide (show m + lg ≤ 400 by omega)
      clear hc hx hch hlg htm hln hmul hP hag hap hseg b1 b2 b3 b4
      go_wp2_with (at_builtin; refine wpList_append_own _ rfl (.tmp 55) (.tmp 64) 30 rfl w1.heap.size 39 i0 (.agg #[.string ByteArray.empty, .string ByteArray.empty, .string ByteArray.empty, .int .i64 0, .int .i64 0, .bool false]) 6 72 Tryd.underlying30 hi0 iz0 iz1 iz2 rfl (by decide) _ m _ (by rfl) (HOWN.out.alloc _) ⟨b, o + a * 6, none⟩ lg _ (((l.drop a).take lg).flatMap Frame.cs) (by rfl) (by rw [flatMap_len (sz := 6) (fun _ => rfl), HSEG.out]) (Sl.news (f := Frame.cs) (sz := 6) (fun _ => rfl) (hsrc.out.up' ((Below.refl _ _).alloc hz _))) (frames_cells _) (by have := HLG.out; unfold maxLen; omega) (by have := HLG.out; omega) (by simp; omega) ?_; intro v' w5 hown5 hg5 _; have hB5 : Below w1.heap.size w1 w5 := Below.grown (hB.alloc hz _) hg5 (by simp; omega) (fun j hj => (World.ownsRow.lt HOWN.out j hj).1); have e5 := (hg5.block wr.heap.size (by simp) (own_before HOWN.out (Nat.le_refl _)).symm).trans (heap_alloc_new wr _); have f1 := (block_cell e5 1).trans (rfl : _ = some (Value.int .i64 lg)); have f2 := (block_cell e5 2).trans (rfl : _ = some (Value.int .i64 tm)); have OWN5 := hide hown5; clear hg5 hown5 e5)
      go_roundw
      case rel => exact ⟨k + 1, ap, m + lg, by omega, by go_num, rfl, HTX.out, by rw [HONX.out, List.length_append, HM.out, HSEG.out], by rw [HONX.out, List.flatMap_append]; exact OWN5.out, hB5⟩
      case measure => simp [intOf]; omega
    · have htk : rs.take k = rs := take_len rs (by have := HRL.out; omega)
      have hall := And.intro HTOT.out (And.intro HM.out HOWN.out)
      rw [htk] at hall
      obtain ⟨ht, hm2, hown2⟩ := hall
      obtain ⟨A2, c2, rfl, hsl, hcc, _⟩ := sl_of_own (f := Frame.cs) (l := onceL l rs) (fun _ => rfl) hm2 hown2
      have hta : a = n := by have h1 := HS.out.tot; have := HL.out; omega
      subst hta
      have KU := hide (Unfold_ok A2 m c2 (onceL l rs) A1 N1 c1 rs wr hm200 hcc hN1 hsl (fun x hx => HF.out x (onceL_mem hx)) (HR.out.up hB) (frsErr_sub HE.out HONE.out (fun x hx => onceL_mem hx)) HOK.out (by rw [HS.out.sum, hm2]) HS.out.chain (by rw [HS.out.tot, HL.out]; omega))
      have hun : unfL (onceL l rs) rs = l := by rw [HS.out.unf, List.take_length]
      rw [hun] at KU
      have HL2 := hide (HL1.out.up hB)
      clear hun ht hm2 hown2 hsl htk HOWN
      go_wp2_with (first | (go_at_call 16; refine KU.out.mono ?_; rintro r w6 ⟨A6, N6, c6, rfl, hR6, hw6⟩; have hB6 := hB.trans (hw6.mono hz); have hl6 := HL2.out.up hw6; obtain rfl : N6 = a := hR6.len.symm.trans HL.out) | (go_at_call 14; refine (Equal_frames _ _ _ _ _ l _ hn hR6 hl6).mono ?_; rintro r w7 ⟨rfl, hw7⟩; have hB7 := hB6.trans (hw7.mono hB6.size)))
      go_ret
      exact ⟨rfl, hB1.trans (hB7.mono hB1.size)⟩
theorem StackFolds_all (hnc : n ≤ c) (hcm : c ≤ maxLen) : Calls Tryd.prog 6 #[.slice A n c] w fun e w' => e = .returned (.bool true) ∧ Below w.heap.size w w' := by
  by_cases hE : frsErr l = 0
  · exact StackFolds_G A n c l w hn hl hf hnc hcm hE
  · exact StackFolds_F A n c l w hn hl hf hE
end
namespace stackFolds
set_option maxRecDepth 100000 in
theorem walk {H : Type} {enc : TypeId × Value → H} {d0 : DataW H} {p0 : List MemPlace} {base : Nat} {W : World}
    (v0 : Value) (k0 : DataW.Trod enc Tryd.prog W 0 (fun _ => true) true 30 v0 d0 p0) (ok0 : Value.okWide Tryd.prog W .any base 30 v0) :
    Calls Tryd.prog 6 #[v0] W fun e w' => e = .returned (.bool true) ∧ Below W.heap.size W w' := by
  obtain ⟨A, n, cap, l, rfl, hl, hnc, hcm, hf⟩ := open_frames ok0 k0
  exact StackFolds_all A n cap l W (Nat.le_trans hnc hcm) hl hf hnc hcm
end stackFolds
end Go.Proofs.YtbfhicimjijdeaaDoor
