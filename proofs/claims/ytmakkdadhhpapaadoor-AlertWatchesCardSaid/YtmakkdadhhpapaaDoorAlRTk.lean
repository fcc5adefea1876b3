/- Walk of the reference's Tick (printed by gen_af.py). -/
import Derived.Test.YtmakkdadhhpapaaDoorAlRkP
namespace Go.Proofs.YtmakkdadhhpapaaDoor
open Go.RowKit
set_option linter.unusedVariables false
set_option linter.unusedSimpArgs false
set_option maxRecDepth 100000 in
set_option maxHeartbeats 16000000 in
theorem rRound (B base rw_ n m sn cr mc kc sc tc : Nat) (R A KA SA SB : Option Addr) (rl : List Rl) (l : List Stt) (cs : List Ct) (ks : List Bool) (sl : List Sil) (t wat : Int) (w : World) (hm : momB t = true) (hlt : ¬ t < wat) (hcl : cs.length = m) (hkl : ks.length = m) (hsl : sl.length = sn) (hll : l.length = n) (hn : n ≤ 1000) (hmm : m ≤ 1000) (hss : sn ≤ 1000)
    (hb : w.heap[rw_]? = some (.cells #[.slice R n cr, .int .i64 wat, .slice A m mc, .slice KA m kc, .slice SA sn sc, .slice SB n tc] 69 (0, 0))) (hrl : Sl w B Rl.cs 7 R n rl)
    (hst : w.ownsRow base 46 4 (.slice SB n tc) n (l.flatMap Stt.cs)) (hc : w.ownsRow base 73 3 (.slice A m mc) m (cs.flatMap Ct.cs)) (hk : w.ownsRow base 4 1 (.slice KA m kc) m (ks.flatMap cb)) (hs : w.ownsRow base 87 3 (.slice SA sn sc) sn (sl.flatMap Sil.cs))
    (hok : ∀ (j : Nat) (x : Rl) (s : Stt), rl[j]? = some x → l[j]? = some s → RsOk wat x s) (hw0 : 0 ≤ wat) (hcf : CtFit cs) (hB : B ≤ rw_) (hB2 : B ≤ base) (hbz : base ≤ w.heap.size) :
    Calls Tryd.prog 11 #[.pointer (some ⟨rw_, 0, none⟩), .int .i64 t] w fun e w' => ∃ ov g, lng rl = g ∧ e = .returned (.tuple #[ov, .int .i64 0]) ∧ RkI B base rw_ w.heap.size n m R cr (.slice A m mc) (.slice KA m kc) (.slice SA sn sc) (.slice SB n tc) sn rl cs (List.zipWith (keepB n t g) ks cs) sl t (fun k => k = rw_ ∨ (Value.slice SB n tc).ownBlock = some k ∨ (Value.slice KA m kc).ownBlock = some k) w (List.zipWith (rkW cs sl t) rl l) w' ∧
      w'.ownsRow (w.heap.size + 1) 41 4 ov (List.zipWith (rkN cs sl t) rl l).flatten.length ((List.zipWith (rkN cs sl t) rl l).flatten.flatMap Nt.cs) := by
  obtain ⟨i0, hi0, iz0, iz1, iz2⟩ := info_parts info_notice
  have CM := hide (show ∀ W, Calls Tryd.prog 6 #[.int .i64 t] W fun e w' => e = .returned (.bool true) ∧ W = w' from fun W => hm ▸ Moment_any t W)
  have hlt' : decide (t < wat) = false := by simpa using hlt
  have c1 : w.cell? ⟨rw_, 1, none⟩ = some (.int .i64 wat) := block_cell hb 1
  have c0 : w.cell? ⟨rw_, 0, none⟩ = some (.slice R n cr) := block_cell hb 0
  have f1 : w.frozen? ⟨rw_, 1, none⟩ = false := block_free hb 1
  have hrw := lt_of_block hb
  have hwt : wat ≤ t := by omega
  have ht0 : 0 ≤ t := by omega
  have ht1 : t ≤ 3155759999 := by unfold momB outsideB at hm; simp at hm; omega
  have hbA : Below w.heap.size w (w.alloc (.cells #[.int .i64 t] 3)) := (Below.refl w.heap.size w).alloc (Nat.le_refl _) _
  have HI0 := hide (RkI.mk (B := B) (P := fun k => k = rw_ ∨ (Value.slice SB n tc).ownBlock = some k ∨ (Value.slice KA m kc).ownBlock = some k) (w0 := w) (b3 := w.heap.size) (t := t)
    (block_set (block_below hb hbA) (i := 1) (.int .i64 t)) ((hrl.below (hbA.mono (by omega))).below (below_set (Below.refl B _) hB _)) (ownsRow_setCell_other (own_below hst hbA) (a := ⟨rw_, 1, none⟩) (own_other' (own_below hst hbA) (block_below hb hbA) (by decide)) (.int .i64 t))
    (ownsRow_setCell_other (own_below hc hbA) (a := ⟨rw_, 1, none⟩) (own_other' (own_below hc hbA) (block_below hb hbA) (by decide)) (.int .i64 t)) (ownsRow_setCell_other (own_below hk hbA) (a := ⟨rw_, 1, none⟩) (own_other' (own_below hk hbA) (block_below hb hbA) (by decide)) (.int .i64 t))
    (ownsRow_setCell_other (own_below hs hbA) (a := ⟨rw_, 1, none⟩) (own_other' (own_below hs hbA) (block_below hb hbA) (by decide)) (.int .i64 t)) (block_set_other (heap_alloc_new w _) ⟨rw_, 1, none⟩ (.int .i64 t) (by simp only; omega))
    ((Keep.of_below hbA (by omega)).trans (Keep.set _ 1 (.int .i64 t) hB (.inl rfl))))
  have HOK := hide hok
  have HCF := hide hcf
  have HB2 := hide hB2
  have HBW := hide (show B ≤ w.heap.size by omega)
  have hrn := hrl.len
  clear hbA hb hrl hst hc hk hs hm hok hlt hcf
  go_enter Tryd.func11, Tryd.ntmps11
  go_wp2_with (first | (go_at_call 6; refine (CM.out _).mono ?_; rintro e w' ⟨rfl, rfl⟩) | go_quiet (fail))
  obtain ⟨zs, hzs⟩ : ∃ zs, List.zipWith (rkW cs sl t) rl l = zs := ⟨_, rfl⟩
  obtain ⟨zn, hzn⟩ : ∃ zn, List.zipWith (rkN cs sl t) rl l = zn := ⟨_, rfl⟩
  go_loopw [6, 7, 36] (fun ov wv i wr => ∃ (j : Nat), j ≤ n ∧ i = .int .i64 j ∧ wv = .int .i64 (lng (rl.take j)) ∧ RkI B base rw_ w.heap.size n m R cr (.slice A m mc) (.slice KA m kc) (.slice SA sn sc) (.slice SB n tc) sn rl cs ks sl t (fun k => k = rw_ ∨ (Value.slice SB n tc).ownBlock = some k ∨ (Value.slice KA m kc).ownBlock = some k) w (zs.take j ++ l.drop j) wr ∧
    wr.ownsRow (w.heap.size + 1) 41 4 ov (zn.take j).flatten.length ((zn.take j).flatten.flatMap Nt.cs)) (fun _ _ i _ => n - (intOf i).toNat)
  case atStart => exact ⟨0, Nat.zero_le _, rfl, rfl, HI0.out.drewSet, World.ownsRow_nil _ _ _ _⟩
  case round =>
    obtain ⟨j, hj, rfl, rfl, hI, hO⟩ := hrel
    have hz := hI.kp.be.size
    by_cases hlt : j < n
    · obtain ⟨rb, cap', cur, hv, hbr, hblk, _⟩ := own_blk hI.strow (by omega)
      simp only [Value.slice.injEq, true_and] at hv
      obtain ⟨rfl, rfl⟩ := hv
      obtain ⟨bb, oo, ⟨rn, ky, ak, li, wi, ho, re⟩, rfl, hbb, hx, hc⟩ := hI.rules.at_ hlt
      have hzl : zs.length = n := by rw [← hzs, List.length_zipWith, hrn, hll]; omega
      obtain ⟨⟨nm, st, si, va⟩, hls⟩ : ∃ s, l[j]? = some s := ⟨_, List.getElem?_eq_getElem (by omega)⟩
      have hlj := (td_get zs l j (by omega)).trans hls
      have hok := HOK.out j _ _ hx hls
      obtain ⟨ha0, ha1, hwi0, hwi1, hs0, hs3, hi0', hi1⟩ := hok
      simp only at ha0 ha1 hwi0 hwi1 hs0 hs3 hi0' hi1
      have c0 : wr.cell? ⟨bb, oo + j * 7, none⟩ = some (.string rn) := by simpa using hc 0 _ rfl
      have c1 : wr.cell? ⟨bb, oo + j * 7 + 1, none⟩ = some (.string ky) := by simpa using hc 1 _ rfl
      have c2 : wr.cell? ⟨bb, oo + j * 7 + 2, none⟩ = some (.int .i64 ak) := by simpa using hc 2 _ rfl
      have c3 : wr.cell? ⟨bb, oo + j * 7 + 3, none⟩ = some (.int .i64 li) := by simpa using hc 3 _ rfl
      have c4 : wr.cell? ⟨bb, oo + j * 7 + 4, none⟩ = some (.int .i64 wi) := by simpa using hc 4 _ rfl
      have c5 : wr.cell? ⟨bb, oo + j * 7 + 5, none⟩ = some (.int .i64 ho) := by simpa using hc 5 _ rfl
      have c6 : wr.cell? ⟨bb, oo + j * 7 + 6, none⟩ = some (.int .i64 re) := by simpa using hc 6 _ rfl
      have d5 : wr.cell? ⟨rw_, 5, none⟩ = some (.slice (some ⟨rb, 0, none⟩) n tc) := block_cell hI.box 5
      have y3 : wr.cell? ⟨w.heap.size, 0, none⟩ = some (.int .i64 t) := block_cell hI.x3 0
      obtain ⟨ns, hns⟩ : ∃ ns, (zn.take j).flatten = ns := ⟨_, rfl⟩
      rw [hns] at hO
      obtain ⟨ao, oc, rfl⟩ := own_sl hO
      have hnl : ns.length ≤ 1000 := by
        rw [← hns, ← hzn]
        exact Nat.le_trans (rkN_len cs sl t rl l j) (by omega)
      have hb2 : Below wr.heap.size wr ((wr.alloc (.cells #[.string rn, .string ky, .int .i64 ak, .int .i64 li, .int .i64 wi, .int .i64 ho, .int .i64 re] 55)).alloc (.cells #[.pointer (some ⟨rb, j * 4, none⟩)] 80)) := ((Below.refl _ _).alloc (Nat.le_refl _) _).alloc (by simp) _
      have HJ := hide (RkJ.mk (hI.below HBW.out hb2) (q9 := wr.heap.size) (q10 := wr.heap.size + 1) (x := ⟨rn, ky, ak, li, wi, ho, re⟩) (block_below (heap_alloc_new wr _) ((Below.refl _ _).alloc (Nat.le_refl _) _))
        (show ((wr.alloc (.cells #[.string rn, .string ky, .int .i64 ak, .int .i64 li, .int .i64 wi, .int .i64 ho, .int .i64 re] 55)).alloc (.cells #[.pointer (some ⟨rb, j * 4, none⟩)] 80)).heap[wr.heap.size + 1]? = _ by have h := heap_alloc_new (wr.alloc (.cells #[.string rn, .string ky, .int .i64 ak, .int .i64 li, .int .i64 wi, .int .i64 ho, .int .i64 re] 55)) (.cells #[.pointer (some ⟨rb, j * 4, none⟩)] 80); simpa using h)
        (own_below hO hb2))
      obtain ⟨g, hg⟩ : ∃ g, lng (rl.take j) = g := ⟨_, rfl⟩
      obtain ⟨g2, hg2⟩ : ∃ g2, max g wi = g2 := ⟨_, rfl⟩
      have HWD := hide (show lng (rl.take (j + 1)) = g2 by rw [take_succ_get hx, lng_snoc, hg, hg2])
      rw [hg]
      obtain ⟨⟨v, hh⟩, hvh⟩ : ∃ q, valV cs (⟨rn, ky, ak, li, wi, ho, re⟩ : Rl) t = q := ⟨_, rfl⟩
      have hzj : zs[j]? = some (rkW cs sl t ⟨rn, ky, ak, li, wi, ho, re⟩ ⟨nm, st, si, va⟩) := by rw [← hzs, List.getElem?_zipWith, hx, hls]
      have hznj : zn[j]? = some (rkN cs sl t ⟨rn, ky, ak, li, wi, ho, re⟩ ⟨nm, st, si, va⟩) := by rw [← hzn, List.getElem?_zipWith, hx, hls]
      have HZL := hide (fun (a b kd : Int) (h : goS st si hh t ho re (silB rn t sl) = (a, b, kd)) => show zs.take (j + 1) ++ l.drop (j + 1) = (zs.take j ++ l.drop j).set j ⟨nm, a, b, v⟩ by
        rw [← td_set zs l j _ hzj (by omega)]; unfold rkW rkR; rw [hvh]; simp only; rw [h])
      have HZN := hide (fun (a b kd : Int) (h : goS st si hh t ho re (silB rn t sl) = (a, b, kd)) => show (zn.take (j + 1)).flatten = ns ++ (if kd = 0 then [] else [⟨t, rn, kd, v⟩]) by
        rw [take_succ_get hznj, List.flatten_append, hns]; unfold rkN rkR; rw [hvh]; simp only; rw [h]; simp)
      have HLJ := hide hlj
      have CV := hide (hvh ▸ value_any rw_ ⟨rn, ky, ak, li, wi, ho, re⟩ t A m mc cs _ ht0 ht1 hwi0 hwi1 (block_cell HJ.out.i.box 2) (ct_sl hcl HJ.out.i.crow) HCF.out ha0 ha1)
      clear hI hO hc hx hls hlj hzj hznj hvh hblk hg hns
      go_wp2_with (fail)
      refine CV.out.mono ?_
      rintro e w2 ⟨rfl, hw2⟩
      have HN0 := hide (show 0 < n by omega)
      have HPR := hide (show (fun k => k = rw_ ∨ (Value.slice (some ⟨rb, 0, none⟩) n tc).ownBlock = some k ∨ (Value.slice KA m kc).ownBlock = some k) rb from .inr (.inl rfl))
      have hJ2 := HJ.out.below HBW.out hw2
      obtain ⟨ra0, ra1, ra2, ra3, ra4, ra5, ra6, pa, ya3, sa0, sa1, sa2, sa3, fa1, fa2, fa3⟩ := hJ2.xs HLJ.out
      dsimp only at sa0 sa1 sa2 sa3
      have hX := hide (set_get HLJ.out (⟨nm, st, si, v⟩ : Stt))
      have hJ := hide (hJ2.setVa HLJ.out HB2.out HPR.out HN0.out v)
      dsimp only at hJ
      clear HJ HLJ hw2 hJ2 c0 c1 c2 c3 c4 c5 c6 d5 y3 CV
      have HJ := hJ
      have HX := hX
      clear hJ hX
      obtain ⟨sb, hsb⟩ : ∃ sb, silB rn t sl = sb := ⟨_, rfl⟩
      have HSI := hide hsb
      clear hsb
      rcases (show st = 0 ∨ st = 1 ∨ st = 2 ∨ st = 3 by omega) with rfl | rfl | rfl | rfl
      · cases hh
        · have HG := hide (show goS 0 si false t ho re (silB rn t sl) = (0, si, 0) by rw [HSI.out]; simp [goS])
          obtain ⟨r0, r1, r2, r3, r4, r5, r6, p, y3, s0, s1, s2, s3, f1, f2, f3⟩ := HJ.out.xs HX.out; dsimp only at s0 s1 s2 s3
          go_wp2_with (first | go_quiet (fail))
          go_roundw
          case rel => exact ⟨j + 1, by omega, by go_num, by rw [HWD.out], by rw [HZL.out 0 si 0 HG.out] ; (first | exact ends3 HJ.out.i | exact ends2 HJ.out.i | exact ends1 HJ.out.i | exact ends3 (HJ.out.drewN _).i | exact ends2 (HJ.out.drewN _).i | exact ends1 (HJ.out.drewN _).i), by rw [HZN.out 0 si 0 HG.out, if_pos rfl, List.append_nil]; exact HJ.out.out⟩
          case measure => simp [intOf]; omega
        · by_cases hr : ho ≤ 0
          · have HSIL := HSI
            have hwr : IntKind.i64.wrap 0 = 0 := by decide
            have hrd : decide (ho ≤ 0) = true := by simpa using hr
            obtain ⟨r0, r1, r2, r3, r4, r5, r6, p, y3, s0, s1, s2, s3, f1, f2, f3⟩ := HJ.out.xs HX.out; dsimp only at s0 s1 s2 s3
            go_wp2_with (first | (go_at_call 38; (first | with_reducible refine (rBec_any HJ.out HX.out HB2.out HPR.out HN0.out 1).mono ?_ | with_reducible refine (rBec_any (HJ.out.drewN _) HX.out HB2.out HPR.out HN0.out 1).mono ?_); rintro e w5 ⟨rfl, hJ⟩; dsimp only at hJ; have hX := hide (set_get HX.out (⟨nm, 1, t, v⟩ : Stt)); clear HJ HX r0 r1 r2 r3 r4 r5 r6 p y3 s0 s1 s2 s3 f1 f2 f3; have HJ := hide hJ; clear hJ; have HX := hX; clear hX; obtain ⟨r0, r1, r2, r3, r4, r5, r6, p, y3, s0, s1, s2, s3, f1, f2, f3⟩ := HJ.out.xs HX.out; dsimp only at s0 s1 s2 s3))
            refine wp_region_chain (fun W => RkX (wr.heap.size) (wr.heap.size + 1) w.heap.size rb j t (⟨rn, ky, ak, li, wi, ho, re⟩ : Rl) (⟨nm, 1, t, v⟩ : Stt) W) 21 (by as_aux_lemma => kernel_rfl) (N := 25) (by as_aux_lemma => kernel_rfl) ?_; intro hsh
            have HS := HJ.out.drew.xs HX.out
            refine wpAnyC_take (i := 0) (k := 21) (f := 40) (v := ?_) (d := some 97) rfl (by rfl) (by as_aux_lemma => kernel_rfl) (by as_aux_lemma => kernel_rfl) (by as_aux_lemma => kernel_rfl) hsh (by decide) (by as_aux_lemma => kernel_rfl) (by intro _ _ _ h; exact h) (by assumption) (Or.inl ⟨by rfl, ?hy⟩) ?_; (case hy => (rintro W ⟨r0, r1, r2, r3, r4, r5, r6, p, y3, s0, s1, s2, s3, f1, f2, f3⟩; go_simp; (try with_reducible rfl))); clear hsh; intro hsh
            refine wpAnyC_take0 (i := 1) (k := 21) (v := ?_) (d := some 98) rfl (by rfl) (by as_aux_lemma => kernel_rfl) (by as_aux_lemma => kernel_rfl) (by as_aux_lemma => kernel_rfl) hsh (by decide) (by intro _ _ _ h; exact h) (by assumption) (Or.inl ⟨by rfl, ?hy⟩) ?_; (case hy => (intro W _; go_simp; (try with_reducible rfl))); clear hsh; intro hsh
            refine wpAnyC_take0 (i := 2) (k := 21) (v := ?_) (d := some 99) rfl (by rfl) (by as_aux_lemma => kernel_rfl) (by as_aux_lemma => kernel_rfl) (by as_aux_lemma => kernel_rfl) hsh (by decide) (by intro _ _ _ h; exact h) (by assumption) (Or.inl ⟨by rfl, ?hy⟩) ?_; (case hy => (intro W _; go_simp; (try with_reducible rfl))); clear hsh; intro hsh
            refine wpAnyC_take (i := 3) (k := 21) (f := 40) (v := ?_) (d := some 100) rfl (by rfl) (by as_aux_lemma => kernel_rfl) (by as_aux_lemma => kernel_rfl) (by as_aux_lemma => kernel_rfl) hsh (by decide) (by as_aux_lemma => kernel_rfl) (by intro _ _ _ h; exact h) (by assumption) (Or.inl ⟨by rfl, ?hy⟩) ?_; (case hy => (rintro W ⟨r0, r1, r2, r3, r4, r5, r6, p, y3, s0, s1, s2, s3, f1, f2, f3⟩; go_simp; (try with_reducible rfl))); clear hsh; intro hsh
            refine wpAnyC_take0 (i := 4) (k := 21) (v := ?_) (d := some 101) rfl (by rfl) (by as_aux_lemma => kernel_rfl) (by as_aux_lemma => kernel_rfl) (by as_aux_lemma => kernel_rfl) hsh (by decide) (by intro _ _ _ h; exact h) (by assumption) (Or.inl ⟨by rfl, ?hy⟩) ?_; (case hy => (intro W _; go_simp; (try with_reducible rfl))); clear hsh; intro hsh
            refine wpAnyC_take0 (i := 5) (k := 21) (v := ?_) (d := some 102) rfl (by rfl) (by as_aux_lemma => kernel_rfl) (by as_aux_lemma => kernel_rfl) (by as_aux_lemma => kernel_rfl) hsh (by decide) (by intro _ _ _ h; exact h) (by assumption) (Or.inl ⟨by rfl, ?hy⟩) ?_; (case hy => (intro W _; go_simp; (try with_reducible rfl))); clear hsh; intro hsh
            refine wpAnyC_take (i := 6) (k := 21) (f := 40) (v := ?_) (d := some 103) rfl (by rfl) (by as_aux_lemma => kernel_rfl) (by as_aux_lemma => kernel_rfl) (by as_aux_lemma => kernel_rfl) hsh (by decide) (by as_aux_lemma => kernel_rfl) (by intro _ _ _ h; exact h) (by assumption) (Or.inl ⟨(by as_aux_lemma => kernel_rfl), ?hy⟩) ?_; (case hy => (rintro W ⟨r0, r1, r2, r3, r4, r5, r6, p, y3, s0, s1, s2, s3, f1, f2, f3⟩; go_simp; (try with_reducible rfl))); clear hsh; intro hsh
            refine wpAnyC_take (i := 7) (k := 21) (f := 40) (v := ?_) (d := some 104) rfl (by rfl) (by as_aux_lemma => kernel_rfl) (by as_aux_lemma => kernel_rfl) (by as_aux_lemma => kernel_rfl) hsh (by decide) (by as_aux_lemma => kernel_rfl) (by intro _ _ _ h; exact h) (by assumption) (Or.inl ⟨(by as_aux_lemma => kernel_rfl), ?hy⟩) ?_; (case hy => (rintro W ⟨r0, r1, r2, r3, r4, r5, r6, p, y3, s0, s1, s2, s3, f1, f2, f3⟩; go_simp; (try with_reducible rfl))); clear hsh; intro hsh
            refine wpAnyC_take0 (i := 8) (k := 21) (v := ?_) (d := some 105) rfl (by rfl) (by as_aux_lemma => kernel_rfl) (by as_aux_lemma => kernel_rfl) (by as_aux_lemma => kernel_rfl) hsh (by decide) (by intro _ _ _ h; exact h) (by assumption) (Or.inl ⟨(by as_aux_lemma => kernel_rfl), ?hy⟩) ?_; (case hy => (intro W _; go_simp; (try with_reducible rfl))); clear hsh; intro hsh
            refine wpAnyC_take0 (i := 9) (k := 21) (v := ?_) (d := some 106) rfl (by rfl) (by as_aux_lemma => kernel_rfl) (by as_aux_lemma => kernel_rfl) (by as_aux_lemma => kernel_rfl) hsh (by decide) (by intro _ _ _ h; exact h) (by assumption) (Or.inl ⟨(by as_aux_lemma => kernel_rfl), ?hy⟩) ?_; (case hy => (intro W _; go_simp; (try with_reducible rfl))); clear hsh; intro hsh
            refine wpAnyC_take (i := 10) (k := 21) (f := 40) (v := ?_) (d := some 107) rfl (by rfl) (by as_aux_lemma => kernel_rfl) (by as_aux_lemma => kernel_rfl) (by as_aux_lemma => kernel_rfl) hsh (by decide) (by as_aux_lemma => kernel_rfl) (by intro _ _ _ h; exact h) (by assumption) (Or.inl ⟨(by as_aux_lemma => kernel_rfl), ?hy⟩) ?_; (case hy => (rintro W ⟨r0, r1, r2, r3, r4, r5, r6, p, y3, s0, s1, s2, s3, f1, f2, f3⟩; go_simp; (try with_reducible rfl))); clear hsh; intro hsh
            refine wpAnyC_take0 (i := 11) (k := 21) (v := ?_) (d := some 108) rfl (by rfl) (by as_aux_lemma => kernel_rfl) (by as_aux_lemma => kernel_rfl) (by as_aux_lemma => kernel_rfl) hsh (by decide) (by intro _ _ _ h; exact h) (by assumption) (Or.inl ⟨(by as_aux_lemma => kernel_rfl), ?hy⟩) ?_; (case hy => (intro W _; go_simp; (try with_reducible rfl))); clear hsh; intro hsh
            refine wpAnyC_take0 (i := 12) (k := 21) (v := ?_) (d := some 109) rfl (by rfl) (by as_aux_lemma => kernel_rfl) (by as_aux_lemma => kernel_rfl) (by as_aux_lemma => kernel_rfl) hsh (by decide) (by intro _ _ _ h; exact h) (by assumption) (Or.inl ⟨(by as_aux_lemma => kernel_rfl), ?hy⟩) ?_; (case hy => (intro W _; go_simp; (try with_reducible rfl))); clear hsh; intro hsh
            refine wpAnyC_take (i := 13) (k := 21) (f := 40) (v := ?_) (d := some 110) rfl (by rfl) (by as_aux_lemma => kernel_rfl) (by as_aux_lemma => kernel_rfl) (by as_aux_lemma => kernel_rfl) hsh (by decide) (by as_aux_lemma => kernel_rfl) (by intro _ _ _ h; exact h) (by assumption) (Or.inl ⟨(by as_aux_lemma => kernel_rfl), ?hy⟩) ?_; (case hy => (rintro W ⟨r0, r1, r2, r3, r4, r5, r6, p, y3, s0, s1, s2, s3, f1, f2, f3⟩; go_simp; (try with_reducible rfl))); clear hsh; intro hsh
            refine wpAnyC_take0 (i := 14) (k := 21) (v := ?_) (d := some 111) rfl (by rfl) (by as_aux_lemma => kernel_rfl) (by as_aux_lemma => kernel_rfl) (by as_aux_lemma => kernel_rfl) hsh (by decide) (by intro _ _ _ h; exact h) (by assumption) (Or.inl ⟨(by as_aux_lemma => kernel_rfl), ?hy⟩) ?_; (case hy => (intro W _; go_simp; (try with_reducible rfl))); clear hsh; intro hsh
            refine wpAnyC_take0 (i := 15) (k := 21) (v := ?_) (d := some 112) rfl (by rfl) (by as_aux_lemma => kernel_rfl) (by as_aux_lemma => kernel_rfl) (by as_aux_lemma => kernel_rfl) hsh (by decide) (by intro _ _ _ h; exact h) (by assumption) (Or.inl ⟨by rfl, ?hy⟩) ?_; (case hy => (intro W _; go_simp; (try with_reducible rfl))); clear hsh; intro hsh
            refine wpAnyC_take0 (i := 16) (k := 21) (v := ?_) (d := some 113) rfl (by rfl) (by as_aux_lemma => kernel_rfl) (by as_aux_lemma => kernel_rfl) (by as_aux_lemma => kernel_rfl) hsh (by decide) (by intro _ _ _ h; exact h) (by assumption) (Or.inl ⟨by rfl, ?hy⟩) ?_; (case hy => (intro W _; go_simp; (try with_reducible rfl))); clear hsh; intro hsh
            refine wpAnyC_take0 (i := 17) (k := 21) (v := ?_) (d := some 114) rfl (by rfl) (by as_aux_lemma => kernel_rfl) (by as_aux_lemma => kernel_rfl) (by as_aux_lemma => kernel_rfl) hsh (by decide) (by intro _ _ _ h; exact h) (by assumption) (Or.inl ⟨(by as_aux_lemma => kernel_rfl), ?hy⟩) ?_; (case hy => (intro W _; go_simp; (try with_reducible rfl))); clear hsh; intro hsh
            refine wpAnyC_take0 (i := 18) (k := 21) (v := ?_) (d := some 115) rfl (by rfl) (by as_aux_lemma => kernel_rfl) (by as_aux_lemma => kernel_rfl) (by as_aux_lemma => kernel_rfl) hsh (by decide) (by intro _ _ _ h; exact h) (by assumption) (Or.inl ⟨(by as_aux_lemma => kernel_rfl), ?hy⟩) ?_; (case hy => (intro W _; go_simp; (try with_reducible rfl))); clear hsh; intro hsh
            refine wpAnyC_take (i := 19) (k := 21) (f := 40) (v := ?_) (d := some 116) rfl (by rfl) (by as_aux_lemma => kernel_rfl) (by as_aux_lemma => kernel_rfl) (by as_aux_lemma => kernel_rfl) hsh (by decide) (by as_aux_lemma => kernel_rfl) (by intro _ _ _ h; exact h) (by assumption) (Or.inl ⟨(by as_aux_lemma => kernel_rfl), ?hy⟩) ?_; (case hy => (rintro W ⟨r0, r1, r2, r3, r4, r5, r6, p, y3, s0, s1, s2, s3, f1, f2, f3⟩; go_simp; (try with_reducible rfl))); clear hsh; intro hsh
            refine wpAnyC_take (i := 20) (k := 21) (f := 40) (v := ?_) (d := some 117) rfl (by rfl) (by as_aux_lemma => kernel_rfl) (by as_aux_lemma => kernel_rfl) (by as_aux_lemma => kernel_rfl) hsh (by decide) (by as_aux_lemma => kernel_rfl) (by intro _ _ _ h; exact h) (by assumption) (Or.inl ⟨(by as_aux_lemma => kernel_rfl), ?hy⟩) ?_; (case hy => (rintro W ⟨r0, r1, r2, r3, r4, r5, r6, p, y3, s0, s1, s2, s3, f1, f2, f3⟩; go_simp; (try with_reducible rfl))); clear hsh; intro hsh
            refine wpAnyC_ready (rs := [21]) (by as_aux_lemma => kernel_rfl) (by simp) ?_; refine AllC.cons (i := 21) rfl (by as_aux_lemma => kernel_rfl) hsh (fun K hK => ?_) AllC.nil
            go_simp
            go_at_call 39
            refine (HSIL.out ▸ rSilent_any rw_ rn t SA sn sc sl _ (by unfold maxLen; omega) (block_cell HJ.out.drew.i.box 4) (sil_sl hsl HJ.out.drew.i.srow)).mono ?_
            rintro e w6 ⟨rfl, hw6⟩
            have hJ := HJ.out.drew.below HBW.out hw6
            clear HJ HS r0 r1 r2 r3 r4 r5 r6 p y3 s0 s1 s2 s3 f1 f2 f3 hw6
            have HJ := hide hJ
            clear hJ
            obtain ⟨r0, r1, r2, r3, r4, r5, r6, p, y3, s0, s1, s2, s3, f1, f2, f3⟩ := HJ.out.xs HX.out; dsimp only at s0 s1 s2 s3
            try go_simp
            refine hK _ _ (fun h => absurd (h.symm.trans (by kernel_rfl)) (show ¬ (false = true) by decide)) ?_
            clear hK K hsh
            intro hsh
            cases sb
            · have HG := hide (show goS 0 si true t ho re (silB rn t sl) = (2, t, 1) by rw [HSI.out]; simp [goS, hr])
              refine wpAnyC_take1 (i := 22) (k := 21) (v := ?_) (d := some 119) rfl (by rfl) (by as_aux_lemma => kernel_rfl) (by as_aux_lemma => kernel_rfl) (by as_aux_lemma => kernel_rfl) hsh (by as_aux_lemma => kernel_rfl) (by decide) (by intro _ _ _ h; exact h) (Or.inl ⟨(by as_aux_lemma => kernel_rfl), ?hy⟩) ?_; (case hy => (intro W _; go_simp; (try with_reducible rfl))); clear hsh; intro hsh
              refine wpAnyC_take1 (i := 23) (k := 21) (v := ?_) (d := some 120) rfl (by rfl) (by as_aux_lemma => kernel_rfl) (by as_aux_lemma => kernel_rfl) (by as_aux_lemma => kernel_rfl) hsh (by as_aux_lemma => kernel_rfl) (by decide) (by intro _ _ _ h; exact h) (Or.inl ⟨by rfl, ?hy⟩) ?_; (case hy => (intro W _; go_simp; (try with_reducible rfl))); clear hsh; intro hsh
              refine wpAnyC_take1 (i := 24) (k := 21) (v := ?_) (d := some 96) rfl (by rfl) (by as_aux_lemma => kernel_rfl) (by as_aux_lemma => kernel_rfl) (by as_aux_lemma => kernel_rfl) hsh (by as_aux_lemma => kernel_rfl) (by decide) (by intro _ _ _ h; exact h) (Or.inl ⟨by rfl, ?hy⟩) ?_; (case hy => (intro W _; go_simp; (try with_reducible rfl))); clear hsh; intro hsh
              refine wpAnyC_done (by as_aux_lemma => kernel_rfl) ?_; clear hsh
              go_wp2_with (first | (go_at_call 38; (first | with_reducible refine (rBec_any HJ.out HX.out HB2.out HPR.out HN0.out 2).mono ?_ | with_reducible refine (rBec_any (HJ.out.drewN _) HX.out HB2.out HPR.out HN0.out 2).mono ?_); rintro e w5 ⟨rfl, hJ⟩; dsimp only at hJ; have hX := hide (set_get HX.out (⟨nm, 2, t, v⟩ : Stt)); clear HJ HX r0 r1 r2 r3 r4 r5 r6 p y3 s0 s1 s2 s3 f1 f2 f3; have HJ := hide hJ; clear hJ; have HX := hX; clear hX; obtain ⟨r0, r1, r2, r3, r4, r5, r6, p, y3, s0, s1, s2, s3, f1, f2, f3⟩ := HJ.out.xs HX.out; dsimp only at s0 s1 s2 s3) | (at_builtin; refine wpList_append_own _ rfl (.tmp 123) (.tmp 129) 36 rfl (w.heap.size + 1) 41 i0 (.agg #[.int .i64 0, .string ByteArray.empty, .int .i64 0, .int .i64 0]) 4 40 Tryd.underlying36 hi0 iz0 iz1 iz2 rfl (by decide) _ ns.length _ rfl (HJ.out.out.alloc _) ⟨_, 0, none⟩ 1 1 [.int .i64 t, .string rn, .int .i64 1, .int .i64 v] (by rfl) rfl (cells_at _ [.int .i64 t, .string rn, .int .i64 1, .int .i64 v] _ _ rfl) (by intro u hu; simp at hu; rcases hu with rfl | rfl | rfl | rfl <;> rfl) (by unfold maxLen; omega) (by omega) (by have := HJ.out.i.kp.be.size; have := lt_of_block HJ.out.i.x3; simp; omega) ?_; intro v8 w8 hown8 hg8 _; have hJ := RkJ.grown (ns' := ns ++ [⟨t, rn, 1, v⟩]) (HJ.out.below HBW.out ((Below.refl _ _).alloc (Nat.le_refl _) _)) (by omega) HBW.out hg8 (by simpa [Nt.cs] using hown8); clear HJ r0 r1 r2 r3 r4 r5 r6 p y3 s0 s1 s2 s3 f1 f2 f3 hown8 hg8; have HJ := hide hJ; clear hJ) | go_quiet (fail))
              go_roundw
              case rel => exact ⟨j + 1, by omega, by go_num, by rw [HWD.out], by rw [HZL.out 2 t 1 HG.out] ; (first | exact ends3 HJ.out.i | exact ends2 HJ.out.i | exact ends1 HJ.out.i | exact ends3 (HJ.out.drewN _).i | exact ends2 (HJ.out.drewN _).i | exact ends1 (HJ.out.drewN _).i), by rw [HZN.out 2 t 1 HG.out, if_neg (by decide)]; exact HJ.out.out⟩
              case measure => simp [intOf]; omega
            · have HG := hide (show goS 0 si true t ho re (silB rn t sl) = (1, t, 0) by rw [HSI.out]; simp [goS])
              refine wpAnyC_take1 (i := 22) (k := 21) (v := ?_) (d := some 119) rfl (by rfl) (by as_aux_lemma => kernel_rfl) (by as_aux_lemma => kernel_rfl) (by as_aux_lemma => kernel_rfl) hsh (by as_aux_lemma => kernel_rfl) (by decide) (by intro _ _ _ h; exact h) (Or.inl ⟨(by as_aux_lemma => kernel_rfl), ?hy⟩) ?_; (case hy => (intro W _; go_simp; (try with_reducible rfl))); clear hsh; intro hsh
              refine wpAnyC_take1 (i := 23) (k := 21) (v := ?_) (d := some 120) rfl (by rfl) (by as_aux_lemma => kernel_rfl) (by as_aux_lemma => kernel_rfl) (by as_aux_lemma => kernel_rfl) hsh (by as_aux_lemma => kernel_rfl) (by decide) (by intro _ _ _ h; exact h) (Or.inl ⟨by rfl, ?hy⟩) ?_; (case hy => (intro W _; go_simp; (try with_reducible rfl))); clear hsh; intro hsh
              refine wpAnyC_take1 (i := 24) (k := 21) (v := ?_) (d := some 96) rfl (by rfl) (by as_aux_lemma => kernel_rfl) (by as_aux_lemma => kernel_rfl) (by as_aux_lemma => kernel_rfl) hsh (by as_aux_lemma => kernel_rfl) (by decide) (by intro _ _ _ h; exact h) (Or.inl ⟨by rfl, ?hy⟩) ?_; (case hy => (intro W _; go_simp; (try with_reducible rfl))); clear hsh; intro hsh
              refine wpAnyC_done (by as_aux_lemma => kernel_rfl) ?_; clear hsh
              go_wp2_with (first | go_quiet (fail))
              go_roundw
              case rel => exact ⟨j + 1, by omega, by go_num, by rw [HWD.out], by rw [HZL.out 1 t 0 HG.out] ; (first | exact ends3 HJ.out.i | exact ends2 HJ.out.i | exact ends1 HJ.out.i | exact ends3 (HJ.out.drewN _).i | exact ends2 (HJ.out.drewN _).i | exact ends1 (HJ.out.drewN _).i), by rw [HZN.out 1 t 0 HG.out, if_pos rfl, List.append_nil]; exact HJ.out.out⟩
              case measure => simp [intOf]; omega
          · have HG := hide (show goS 0 si true t ho re (silB rn t sl) = (1, t, 0) by rw [HSI.out]; simp [goS, hr])
            have hr2 : decide (ho ≤ 0) = false := by simpa using hr
            obtain ⟨r0, r1, r2, r3, r4, r5, r6, p, y3, s0, s1, s2, s3, f1, f2, f3⟩ := HJ.out.xs HX.out; dsimp only at s0 s1 s2 s3
            go_wp2_with (first | (go_at_call 38; (first | with_reducible refine (rBec_any HJ.out HX.out HB2.out HPR.out HN0.out 1).mono ?_ | with_reducible refine (rBec_any (HJ.out.drewN _) HX.out HB2.out HPR.out HN0.out 1).mono ?_); rintro e w5 ⟨rfl, hJ⟩; dsimp only at hJ; have hX := hide (set_get HX.out (⟨nm, 1, t, v⟩ : Stt)); clear HJ HX r0 r1 r2 r3 r4 r5 r6 p y3 s0 s1 s2 s3 f1 f2 f3; have HJ := hide hJ; clear hJ; have HX := hX; clear hX; obtain ⟨r0, r1, r2, r3, r4, r5, r6, p, y3, s0, s1, s2, s3, f1, f2, f3⟩ := HJ.out.xs HX.out; dsimp only at s0 s1 s2 s3) | go_quiet (fail))
            go_roundw
            case rel => exact ⟨j + 1, by omega, by go_num, by rw [HWD.out], by rw [HZL.out 1 t 0 HG.out] ; (first | exact ends3 HJ.out.i | exact ends2 HJ.out.i | exact ends1 HJ.out.i | exact ends3 (HJ.out.drewN _).i | exact ends2 (HJ.out.drewN _).i | exact ends1 (HJ.out.drewN _).i), by rw [HZN.out 1 t 0 HG.out, if_pos rfl, List.append_nil]; exact HJ.out.out⟩
            case measure => simp [intOf]; omega
      · cases hh
        · have HG := hide (show goS 1 si false t ho re (silB rn t sl) = (0, t, 0) by rw [HSI.out]; simp [goS])
          obtain ⟨r0, r1, r2, r3, r4, r5, r6, p, y3, s0, s1, s2, s3, f1, f2, f3⟩ := HJ.out.xs HX.out; dsimp only at s0 s1 s2 s3
          go_wp2_with (first | (go_at_call 38; (first | with_reducible refine (rBec_any HJ.out HX.out HB2.out HPR.out HN0.out 0).mono ?_ | with_reducible refine (rBec_any (HJ.out.drewN _) HX.out HB2.out HPR.out HN0.out 0).mono ?_); rintro e w5 ⟨rfl, hJ⟩; dsimp only at hJ; have hX := hide (set_get HX.out (⟨nm, 0, t, v⟩ : Stt)); clear HJ HX r0 r1 r2 r3 r4 r5 r6 p y3 s0 s1 s2 s3 f1 f2 f3; have HJ := hide hJ; clear hJ; have HX := hX; clear hX; obtain ⟨r0, r1, r2, r3, r4, r5, r6, p, y3, s0, s1, s2, s3, f1, f2, f3⟩ := HJ.out.xs HX.out; dsimp only at s0 s1 s2 s3) | go_quiet (fail))
          go_roundw
          case rel => exact ⟨j + 1, by omega, by go_num, by rw [HWD.out], by rw [HZL.out 0 t 0 HG.out] ; (first | exact ends3 HJ.out.i | exact ends2 HJ.out.i | exact ends1 HJ.out.i | exact ends3 (HJ.out.drewN _).i | exact ends2 (HJ.out.drewN _).i | exact ends1 (HJ.out.drewN _).i), by rw [HZN.out 0 t 0 HG.out, if_pos rfl, List.append_nil]; exact HJ.out.out⟩
          case measure => simp [intOf]; omega
        · by_cases hr : ho ≤ t - si
          · have HSIL := HSI
            have hwr : IntKind.i64.wrap (t - si) = t - si := IntWalk.i64_in _ (by omega)
            have hrd : decide (ho ≤ t - si) = true := by simpa using hr
            obtain ⟨r0, r1, r2, r3, r4, r5, r6, p, y3, s0, s1, s2, s3, f1, f2, f3⟩ := HJ.out.xs HX.out; dsimp only at s0 s1 s2 s3
            go_wp2_with (fail)
            refine wp_region_chain (fun W => RkX (wr.heap.size) (wr.heap.size + 1) w.heap.size rb j t (⟨rn, ky, ak, li, wi, ho, re⟩ : Rl) (⟨nm, 1, si, v⟩ : Stt) W) 21 (by as_aux_lemma => kernel_rfl) (N := 25) (by as_aux_lemma => kernel_rfl) ?_; intro hsh
            have HS := HJ.out.drew.xs HX.out
            refine wpAnyC_take (i := 0) (k := 21) (f := 40) (v := ?_) (d := some 97) rfl (by rfl) (by as_aux_lemma => kernel_rfl) (by as_aux_lemma => kernel_rfl) (by as_aux_lemma => kernel_rfl) hsh (by decide) (by as_aux_lemma => kernel_rfl) (by intro _ _ _ h; exact h) (by assumption) (Or.inl ⟨by rfl, ?hy⟩) ?_; (case hy => (rintro W ⟨r0, r1, r2, r3, r4, r5, r6, p, y3, s0, s1, s2, s3, f1, f2, f3⟩; go_simp; (try with_reducible rfl))); clear hsh; intro hsh
            refine wpAnyC_take0 (i := 1) (k := 21) (v := ?_) (d := some 98) rfl (by rfl) (by as_aux_lemma => kernel_rfl) (by as_aux_lemma => kernel_rfl) (by as_aux_lemma => kernel_rfl) hsh (by decide) (by intro _ _ _ h; exact h) (by assumption) (Or.inl ⟨by rfl, ?hy⟩) ?_; (case hy => (intro W _; go_simp; (try with_reducible rfl))); clear hsh; intro hsh
            refine wpAnyC_take0 (i := 2) (k := 21) (v := ?_) (d := some 99) rfl (by rfl) (by as_aux_lemma => kernel_rfl) (by as_aux_lemma => kernel_rfl) (by as_aux_lemma => kernel_rfl) hsh (by decide) (by intro _ _ _ h; exact h) (by assumption) (Or.inl ⟨by rfl, ?hy⟩) ?_; (case hy => (intro W _; go_simp; (try with_reducible rfl))); clear hsh; intro hsh
            refine wpAnyC_take (i := 3) (k := 21) (f := 40) (v := ?_) (d := some 100) rfl (by rfl) (by as_aux_lemma => kernel_rfl) (by as_aux_lemma => kernel_rfl) (by as_aux_lemma => kernel_rfl) hsh (by decide) (by as_aux_lemma => kernel_rfl) (by intro _ _ _ h; exact h) (by assumption) (Or.inl ⟨by rfl, ?hy⟩) ?_; (case hy => (rintro W ⟨r0, r1, r2, r3, r4, r5, r6, p, y3, s0, s1, s2, s3, f1, f2, f3⟩; go_simp; (try with_reducible rfl))); clear hsh; intro hsh
            refine wpAnyC_take0 (i := 4) (k := 21) (v := ?_) (d := some 101) rfl (by rfl) (by as_aux_lemma => kernel_rfl) (by as_aux_lemma => kernel_rfl) (by as_aux_lemma => kernel_rfl) hsh (by decide) (by intro _ _ _ h; exact h) (by assumption) (Or.inl ⟨by rfl, ?hy⟩) ?_; (case hy => (intro W _; go_simp; (try with_reducible rfl))); clear hsh; intro hsh
            refine wpAnyC_take0 (i := 5) (k := 21) (v := ?_) (d := some 102) rfl (by rfl) (by as_aux_lemma => kernel_rfl) (by as_aux_lemma => kernel_rfl) (by as_aux_lemma => kernel_rfl) hsh (by decide) (by intro _ _ _ h; exact h) (by assumption) (Or.inl ⟨by rfl, ?hy⟩) ?_; (case hy => (intro W _; go_simp; (try with_reducible rfl))); clear hsh; intro hsh
            refine wpAnyC_take (i := 6) (k := 21) (f := 40) (v := ?_) (d := some 103) rfl (by rfl) (by as_aux_lemma => kernel_rfl) (by as_aux_lemma => kernel_rfl) (by as_aux_lemma => kernel_rfl) hsh (by decide) (by as_aux_lemma => kernel_rfl) (by intro _ _ _ h; exact h) (by assumption) (Or.inl ⟨(by as_aux_lemma => kernel_rfl), ?hy⟩) ?_; (case hy => (rintro W ⟨r0, r1, r2, r3, r4, r5, r6, p, y3, s0, s1, s2, s3, f1, f2, f3⟩; go_simp; (try with_reducible rfl))); clear hsh; intro hsh
            refine wpAnyC_take (i := 7) (k := 21) (f := 40) (v := ?_) (d := some 104) rfl (by rfl) (by as_aux_lemma => kernel_rfl) (by as_aux_lemma => kernel_rfl) (by as_aux_lemma => kernel_rfl) hsh (by decide) (by as_aux_lemma => kernel_rfl) (by intro _ _ _ h; exact h) (by assumption) (Or.inl ⟨(by as_aux_lemma => kernel_rfl), ?hy⟩) ?_; (case hy => (rintro W ⟨r0, r1, r2, r3, r4, r5, r6, p, y3, s0, s1, s2, s3, f1, f2, f3⟩; go_simp; (try with_reducible rfl))); clear hsh; intro hsh
            refine wpAnyC_take0 (i := 8) (k := 21) (v := ?_) (d := some 105) rfl (by rfl) (by as_aux_lemma => kernel_rfl) (by as_aux_lemma => kernel_rfl) (by as_aux_lemma => kernel_rfl) hsh (by decide) (by intro _ _ _ h; exact h) (by assumption) (Or.inl ⟨(by as_aux_lemma => kernel_rfl), ?hy⟩) ?_; (case hy => (intro W _; go_simp; (try with_reducible rfl))); clear hsh; intro hsh
            refine wpAnyC_take0 (i := 9) (k := 21) (v := ?_) (d := some 106) rfl (by rfl) (by as_aux_lemma => kernel_rfl) (by as_aux_lemma => kernel_rfl) (by as_aux_lemma => kernel_rfl) hsh (by decide) (by intro _ _ _ h; exact h) (by assumption) (Or.inl ⟨(by as_aux_lemma => kernel_rfl), ?hy⟩) ?_; (case hy => (intro W _; go_simp; (try with_reducible rfl))); clear hsh; intro hsh
            refine wpAnyC_take (i := 10) (k := 21) (f := 40) (v := ?_) (d := some 107) rfl (by rfl) (by as_aux_lemma => kernel_rfl) (by as_aux_lemma => kernel_rfl) (by as_aux_lemma => kernel_rfl) hsh (by decide) (by as_aux_lemma => kernel_rfl) (by intro _ _ _ h; exact h) (by assumption) (Or.inl ⟨(by as_aux_lemma => kernel_rfl), ?hy⟩) ?_; (case hy => (rintro W ⟨r0, r1, r2, r3, r4, r5, r6, p, y3, s0, s1, s2, s3, f1, f2, f3⟩; go_simp; (try with_reducible rfl))); clear hsh; intro hsh
            refine wpAnyC_take0 (i := 11) (k := 21) (v := ?_) (d := some 108) rfl (by rfl) (by as_aux_lemma => kernel_rfl) (by as_aux_lemma => kernel_rfl) (by as_aux_lemma => kernel_rfl) hsh (by decide) (by intro _ _ _ h; exact h) (by assumption) (Or.inl ⟨(by as_aux_lemma => kernel_rfl), ?hy⟩) ?_; (case hy => (intro W _; go_simp; (try with_reducible rfl))); clear hsh; intro hsh
            refine wpAnyC_take0 (i := 12) (k := 21) (v := ?_) (d := some 109) rfl (by rfl) (by as_aux_lemma => kernel_rfl) (by as_aux_lemma => kernel_rfl) (by as_aux_lemma => kernel_rfl) hsh (by decide) (by intro _ _ _ h; exact h) (by assumption) (Or.inl ⟨(by as_aux_lemma => kernel_rfl), ?hy⟩) ?_; (case hy => (intro W _; go_simp; (try with_reducible rfl))); clear hsh; intro hsh
            refine wpAnyC_take (i := 13) (k := 21) (f := 40) (v := ?_) (d := some 110) rfl (by rfl) (by as_aux_lemma => kernel_rfl) (by as_aux_lemma => kernel_rfl) (by as_aux_lemma => kernel_rfl) hsh (by decide) (by as_aux_lemma => kernel_rfl) (by intro _ _ _ h; exact h) (by assumption) (Or.inl ⟨(by as_aux_lemma => kernel_rfl), ?hy⟩) ?_; (case hy => (rintro W ⟨r0, r1, r2, r3, r4, r5, r6, p, y3, s0, s1, s2, s3, f1, f2, f3⟩; go_simp; (try with_reducible rfl))); clear hsh; intro hsh
            refine wpAnyC_take0 (i := 14) (k := 21) (v := ?_) (d := some 111) rfl (by rfl) (by as_aux_lemma => kernel_rfl) (by as_aux_lemma => kernel_rfl) (by as_aux_lemma => kernel_rfl) hsh (by decide) (by intro _ _ _ h; exact h) (by assumption) (Or.inl ⟨(by as_aux_lemma => kernel_rfl), ?hy⟩) ?_; (case hy => (intro W _; go_simp; (try with_reducible rfl))); clear hsh; intro hsh
            refine wpAnyC_take0 (i := 15) (k := 21) (v := ?_) (d := some 112) rfl (by rfl) (by as_aux_lemma => kernel_rfl) (by as_aux_lemma => kernel_rfl) (by as_aux_lemma => kernel_rfl) hsh (by decide) (by intro _ _ _ h; exact h) (by assumption) (Or.inl ⟨by rfl, ?hy⟩) ?_; (case hy => (intro W _; go_simp; (try with_reducible rfl))); clear hsh; intro hsh
            refine wpAnyC_take0 (i := 16) (k := 21) (v := ?_) (d := some 113) rfl (by rfl) (by as_aux_lemma => kernel_rfl) (by as_aux_lemma => kernel_rfl) (by as_aux_lemma => kernel_rfl) hsh (by decide) (by intro _ _ _ h; exact h) (by assumption) (Or.inl ⟨by rfl, ?hy⟩) ?_; (case hy => (intro W _; go_simp; (try with_reducible rfl))); clear hsh; intro hsh
            refine wpAnyC_take0 (i := 17) (k := 21) (v := ?_) (d := some 114) rfl (by rfl) (by as_aux_lemma => kernel_rfl) (by as_aux_lemma => kernel_rfl) (by as_aux_lemma => kernel_rfl) hsh (by decide) (by intro _ _ _ h; exact h) (by assumption) (Or.inl ⟨(by as_aux_lemma => kernel_rfl), ?hy⟩) ?_; (case hy => (intro W _; go_simp; (try with_reducible rfl))); clear hsh; intro hsh
            refine wpAnyC_take0 (i := 18) (k := 21) (v := ?_) (d := some 115) rfl (by rfl) (by as_aux_lemma => kernel_rfl) (by as_aux_lemma => kernel_rfl) (by as_aux_lemma => kernel_rfl) hsh (by decide) (by intro _ _ _ h; exact h) (by assumption) (Or.inl ⟨(by as_aux_lemma => kernel_rfl), ?hy⟩) ?_; (case hy => (intro W _; go_simp; (try with_reducible rfl))); clear hsh; intro hsh
            refine wpAnyC_take (i := 19) (k := 21) (f := 40) (v := ?_) (d := some 116) rfl (by rfl) (by as_aux_lemma => kernel_rfl) (by as_aux_lemma => kernel_rfl) (by as_aux_lemma => kernel_rfl) hsh (by decide) (by as_aux_lemma => kernel_rfl) (by intro _ _ _ h; exact h) (by assumption) (Or.inl ⟨(by as_aux_lemma => kernel_rfl), ?hy⟩) ?_; (case hy => (rintro W ⟨r0, r1, r2, r3, r4, r5, r6, p, y3, s0, s1, s2, s3, f1, f2, f3⟩; go_simp; (try with_reducible rfl))); clear hsh; intro hsh
            refine wpAnyC_take (i := 20) (k := 21) (f := 40) (v := ?_) (d := some 117) rfl (by rfl) (by as_aux_lemma => kernel_rfl) (by as_aux_lemma => kernel_rfl) (by as_aux_lemma => kernel_rfl) hsh (by decide) (by as_aux_lemma => kernel_rfl) (by intro _ _ _ h; exact h) (by assumption) (Or.inl ⟨(by as_aux_lemma => kernel_rfl), ?hy⟩) ?_; (case hy => (rintro W ⟨r0, r1, r2, r3, r4, r5, r6, p, y3, s0, s1, s2, s3, f1, f2, f3⟩; go_simp; (try with_reducible rfl))); clear hsh; intro hsh
            refine wpAnyC_ready (rs := [21]) (by as_aux_lemma => kernel_rfl) (by simp) ?_; refine AllC.cons (i := 21) rfl (by as_aux_lemma => kernel_rfl) hsh (fun K hK => ?_) AllC.nil
            go_simp
            go_at_call 39
            refine (HSIL.out ▸ rSilent_any rw_ rn t SA sn sc sl _ (by unfold maxLen; omega) (block_cell HJ.out.drew.i.box 4) (sil_sl hsl HJ.out.drew.i.srow)).mono ?_
            rintro e w6 ⟨rfl, hw6⟩
            have hJ := HJ.out.drew.below HBW.out hw6
            clear HJ HS r0 r1 r2 r3 r4 r5 r6 p y3 s0 s1 s2 s3 f1 f2 f3 hw6
            have HJ := hide hJ
            clear hJ
            obtain ⟨r0, r1, r2, r3, r4, r5, r6, p, y3, s0, s1, s2, s3, f1, f2, f3⟩ := HJ.out.xs HX.out; dsimp only at s0 s1 s2 s3
            try go_simp
            refine hK _ _ (fun h => absurd (h.symm.trans (by kernel_rfl)) (show ¬ (false = true) by decide)) ?_
            clear hK K hsh
            intro hsh
            cases sb
            · have HG := hide (show goS 1 si true t ho re (silB rn t sl) = (2, t, 1) by rw [HSI.out]; simp [goS, hr])
              refine wpAnyC_take1 (i := 22) (k := 21) (v := ?_) (d := some 119) rfl (by rfl) (by as_aux_lemma => kernel_rfl) (by as_aux_lemma => kernel_rfl) (by as_aux_lemma => kernel_rfl) hsh (by as_aux_lemma => kernel_rfl) (by decide) (by intro _ _ _ h; exact h) (Or.inl ⟨(by as_aux_lemma => kernel_rfl), ?hy⟩) ?_; (case hy => (intro W _; go_simp; (try with_reducible rfl))); clear hsh; intro hsh
              refine wpAnyC_take1 (i := 23) (k := 21) (v := ?_) (d := some 120) rfl (by rfl) (by as_aux_lemma => kernel_rfl) (by as_aux_lemma => kernel_rfl) (by as_aux_lemma => kernel_rfl) hsh (by as_aux_lemma => kernel_rfl) (by decide) (by intro _ _ _ h; exact h) (Or.inl ⟨by rfl, ?hy⟩) ?_; (case hy => (intro W _; go_simp; (try with_reducible rfl))); clear hsh; intro hsh
              refine wpAnyC_take1 (i := 24) (k := 21) (v := ?_) (d := some 96) rfl (by rfl) (by as_aux_lemma => kernel_rfl) (by as_aux_lemma => kernel_rfl) (by as_aux_lemma => kernel_rfl) hsh (by as_aux_lemma => kernel_rfl) (by decide) (by intro _ _ _ h; exact h) (Or.inl ⟨by rfl, ?hy⟩) ?_; (case hy => (intro W _; go_simp; (try with_reducible rfl))); clear hsh; intro hsh
              refine wpAnyC_done (by as_aux_lemma => kernel_rfl) ?_; clear hsh
              go_wp2_with (first | (go_at_call 38; (first | with_reducible refine (rBec_any HJ.out HX.out HB2.out HPR.out HN0.out 2).mono ?_ | with_reducible refine (rBec_any (HJ.out.drewN _) HX.out HB2.out HPR.out HN0.out 2).mono ?_); rintro e w5 ⟨rfl, hJ⟩; dsimp only at hJ; have hX := hide (set_get HX.out (⟨nm, 2, t, v⟩ : Stt)); clear HJ HX r0 r1 r2 r3 r4 r5 r6 p y3 s0 s1 s2 s3 f1 f2 f3; have HJ := hide hJ; clear hJ; have HX := hX; clear hX; obtain ⟨r0, r1, r2, r3, r4, r5, r6, p, y3, s0, s1, s2, s3, f1, f2, f3⟩ := HJ.out.xs HX.out; dsimp only at s0 s1 s2 s3) | (at_builtin; refine wpList_append_own _ rfl (.tmp 123) (.tmp 129) 36 rfl (w.heap.size + 1) 41 i0 (.agg #[.int .i64 0, .string ByteArray.empty, .int .i64 0, .int .i64 0]) 4 40 Tryd.underlying36 hi0 iz0 iz1 iz2 rfl (by decide) _ ns.length _ rfl (HJ.out.out.alloc _) ⟨_, 0, none⟩ 1 1 [.int .i64 t, .string rn, .int .i64 1, .int .i64 v] (by rfl) rfl (cells_at _ [.int .i64 t, .string rn, .int .i64 1, .int .i64 v] _ _ rfl) (by intro u hu; simp at hu; rcases hu with rfl | rfl | rfl | rfl <;> rfl) (by unfold maxLen; omega) (by omega) (by have := HJ.out.i.kp.be.size; have := lt_of_block HJ.out.i.x3; simp; omega) ?_; intro v8 w8 hown8 hg8 _; have hJ := RkJ.grown (ns' := ns ++ [⟨t, rn, 1, v⟩]) (HJ.out.below HBW.out ((Below.refl _ _).alloc (Nat.le_refl _) _)) (by omega) HBW.out hg8 (by simpa [Nt.cs] using hown8); clear HJ r0 r1 r2 r3 r4 r5 r6 p y3 s0 s1 s2 s3 f1 f2 f3 hown8 hg8; have HJ := hide hJ; clear hJ) | go_quiet (fail))
              go_roundw
              case rel => exact ⟨j + 1, by omega, by go_num, by rw [HWD.out], by rw [HZL.out 2 t 1 HG.out] ; (first | exact ends3 HJ.out.i | exact ends2 HJ.out.i | exact ends1 HJ.out.i | exact ends3 (HJ.out.drewN _).i | exact ends2 (HJ.out.drewN _).i | exact ends1 (HJ.out.drewN _).i), by rw [HZN.out 2 t 1 HG.out, if_neg (by decide)]; exact HJ.out.out⟩
              case measure => simp [intOf]; omega
            · have HG := hide (show goS 1 si true t ho re (silB rn t sl) = (1, si, 0) by rw [HSI.out]; simp [goS])
              refine wpAnyC_take1 (i := 22) (k := 21) (v := ?_) (d := some 119) rfl (by rfl) (by as_aux_lemma => kernel_rfl) (by as_aux_lemma => kernel_rfl) (by as_aux_lemma => kernel_rfl) hsh (by as_aux_lemma => kernel_rfl) (by decide) (by intro _ _ _ h; exact h) (Or.inl ⟨(by as_aux_lemma => kernel_rfl), ?hy⟩) ?_; (case hy => (intro W _; go_simp; (try with_reducible rfl))); clear hsh; intro hsh
              refine wpAnyC_take1 (i := 23) (k := 21) (v := ?_) (d := some 120) rfl (by rfl) (by as_aux_lemma => kernel_rfl) (by as_aux_lemma => kernel_rfl) (by as_aux_lemma => kernel_rfl) hsh (by as_aux_lemma => kernel_rfl) (by decide) (by intro _ _ _ h; exact h) (Or.inl ⟨by rfl, ?hy⟩) ?_; (case hy => (intro W _; go_simp; (try with_reducible rfl))); clear hsh; intro hsh
              refine wpAnyC_take1 (i := 24) (k := 21) (v := ?_) (d := some 96) rfl (by rfl) (by as_aux_lemma => kernel_rfl) (by as_aux_lemma => kernel_rfl) (by as_aux_lemma => kernel_rfl) hsh (by as_aux_lemma => kernel_rfl) (by decide) (by intro _ _ _ h; exact h) (Or.inl ⟨by rfl, ?hy⟩) ?_; (case hy => (intro W _; go_simp; (try with_reducible rfl))); clear hsh; intro hsh
              refine wpAnyC_done (by as_aux_lemma => kernel_rfl) ?_; clear hsh
              go_wp2_with (first | go_quiet (fail))
              go_roundw
              case rel => exact ⟨j + 1, by omega, by go_num, by rw [HWD.out], by rw [HZL.out 1 si 0 HG.out] ; (first | exact ends3 HJ.out.i | exact ends2 HJ.out.i | exact ends1 HJ.out.i | exact ends3 (HJ.out.drewN _).i | exact ends2 (HJ.out.drewN _).i | exact ends1 (HJ.out.drewN _).i), by rw [HZN.out 1 si 0 HG.out, if_pos rfl, List.append_nil]; exact HJ.out.out⟩
              case measure => simp [intOf]; omega
          · have HG := hide (show goS 1 si true t ho re (silB rn t sl) = (1, si, 0) by rw [HSI.out]; simp [goS, hr])
            have hr2 : decide (ho ≤ t - si) = false := by simpa using hr
            obtain ⟨r0, r1, r2, r3, r4, r5, r6, p, y3, s0, s1, s2, s3, f1, f2, f3⟩ := HJ.out.xs HX.out; dsimp only at s0 s1 s2 s3
            go_wp2_with (first | go_quiet (fail))
            go_roundw
            case rel => exact ⟨j + 1, by omega, by go_num, by rw [HWD.out], by rw [HZL.out 1 si 0 HG.out] ; (first | exact ends3 HJ.out.i | exact ends2 HJ.out.i | exact ends1 HJ.out.i | exact ends3 (HJ.out.drewN _).i | exact ends2 (HJ.out.drewN _).i | exact ends1 (HJ.out.drewN _).i), by rw [HZN.out 1 si 0 HG.out, if_pos rfl, List.append_nil]; exact HJ.out.out⟩
            case measure => simp [intOf]; omega
      · cases hh
        · by_cases hr : re ≤ 0
          · have HG := hide (show goS 2 si false t ho re (silB rn t sl) = (0, t, 2) by rw [HSI.out]; simp [goS, hr])
            obtain ⟨r0, r1, r2, r3, r4, r5, r6, p, y3, s0, s1, s2, s3, f1, f2, f3⟩ := HJ.out.xs HX.out; dsimp only at s0 s1 s2 s3
            go_wp2_with (first | (go_at_call 38; (first | with_reducible refine (rBec_any HJ.out HX.out HB2.out HPR.out HN0.out 3).mono ?_ | with_reducible refine (rBec_any (HJ.out.drewN _) HX.out HB2.out HPR.out HN0.out 3).mono ?_); rintro e w5 ⟨rfl, hJ⟩; dsimp only at hJ; have hX := hide (set_get HX.out (⟨nm, 3, t, v⟩ : Stt)); clear HJ HX r0 r1 r2 r3 r4 r5 r6 p y3 s0 s1 s2 s3 f1 f2 f3; have HJ := hide hJ; clear hJ; have HX := hX; clear hX; obtain ⟨r0, r1, r2, r3, r4, r5, r6, p, y3, s0, s1, s2, s3, f1, f2, f3⟩ := HJ.out.xs HX.out; dsimp only at s0 s1 s2 s3) | (go_at_call 38; (first | with_reducible refine (rBec_any HJ.out HX.out HB2.out HPR.out HN0.out 0).mono ?_ | with_reducible refine (rBec_any (HJ.out.drewN _) HX.out HB2.out HPR.out HN0.out 0).mono ?_); rintro e w5 ⟨rfl, hJ⟩; dsimp only at hJ; have hX := hide (set_get HX.out (⟨nm, 0, t, v⟩ : Stt)); clear HJ HX r0 r1 r2 r3 r4 r5 r6 p y3 s0 s1 s2 s3 f1 f2 f3; have HJ := hide hJ; clear hJ; have HX := hX; clear hX; obtain ⟨r0, r1, r2, r3, r4, r5, r6, p, y3, s0, s1, s2, s3, f1, f2, f3⟩ := HJ.out.xs HX.out; dsimp only at s0 s1 s2 s3) | (at_builtin; refine wpList_append_own _ rfl (.tmp 161) (.tmp 167) 36 rfl (w.heap.size + 1) 41 i0 (.agg #[.int .i64 0, .string ByteArray.empty, .int .i64 0, .int .i64 0]) 4 40 Tryd.underlying36 hi0 iz0 iz1 iz2 rfl (by decide) _ ns.length _ rfl (HJ.out.out.alloc _) ⟨_, 0, none⟩ 1 1 [.int .i64 t, .string rn, .int .i64 2, .int .i64 v] (by rfl) rfl (cells_at _ [.int .i64 t, .string rn, .int .i64 2, .int .i64 v] _ _ rfl) (by intro u hu; simp at hu; rcases hu with rfl | rfl | rfl | rfl <;> rfl) (by unfold maxLen; omega) (by omega) (by have := HJ.out.i.kp.be.size; have := lt_of_block HJ.out.i.x3; simp; omega) ?_; intro v8 w8 hown8 hg8 _; have hJ := RkJ.grown (ns' := ns ++ [⟨t, rn, 2, v⟩]) (HJ.out.below HBW.out ((Below.refl _ _).alloc (Nat.le_refl _) _)) (by omega) HBW.out hg8 (by simpa [Nt.cs] using hown8); clear HJ r0 r1 r2 r3 r4 r5 r6 p y3 s0 s1 s2 s3 f1 f2 f3 hown8 hg8; have HJ := hide hJ; clear hJ) | go_quiet (fail))
            go_roundw
            case rel => exact ⟨j + 1, by omega, by go_num, by rw [HWD.out], by rw [HZL.out 0 t 2 HG.out] ; (first | exact ends3 HJ.out.i | exact ends2 HJ.out.i | exact ends1 HJ.out.i | exact ends3 (HJ.out.drewN _).i | exact ends2 (HJ.out.drewN _).i | exact ends1 (HJ.out.drewN _).i), by rw [HZN.out 0 t 2 HG.out, if_neg (by decide)]; exact HJ.out.out⟩
            case measure => simp [intOf]; omega
          · have HG := hide (show goS 2 si false t ho re (silB rn t sl) = (3, t, 0) by rw [HSI.out]; simp [goS, hr])
            have hr2 : decide (re ≤ 0) = false := by simpa using hr
            obtain ⟨r0, r1, r2, r3, r4, r5, r6, p, y3, s0, s1, s2, s3, f1, f2, f3⟩ := HJ.out.xs HX.out; dsimp only at s0 s1 s2 s3
            go_wp2_with (first | (go_at_call 38; (first | with_reducible refine (rBec_any HJ.out HX.out HB2.out HPR.out HN0.out 3).mono ?_ | with_reducible refine (rBec_any (HJ.out.drewN _) HX.out HB2.out HPR.out HN0.out 3).mono ?_); rintro e w5 ⟨rfl, hJ⟩; dsimp only at hJ; have hX := hide (set_get HX.out (⟨nm, 3, t, v⟩ : Stt)); clear HJ HX r0 r1 r2 r3 r4 r5 r6 p y3 s0 s1 s2 s3 f1 f2 f3; have HJ := hide hJ; clear hJ; have HX := hX; clear hX; obtain ⟨r0, r1, r2, r3, r4, r5, r6, p, y3, s0, s1, s2, s3, f1, f2, f3⟩ := HJ.out.xs HX.out; dsimp only at s0 s1 s2 s3) | go_quiet (fail))
            go_roundw
            case rel => exact ⟨j + 1, by omega, by go_num, by rw [HWD.out], by rw [HZL.out 3 t 0 HG.out] ; (first | exact ends3 HJ.out.i | exact ends2 HJ.out.i | exact ends1 HJ.out.i | exact ends3 (HJ.out.drewN _).i | exact ends2 (HJ.out.drewN _).i | exact ends1 (HJ.out.drewN _).i), by rw [HZN.out 3 t 0 HG.out, if_pos rfl, List.append_nil]; exact HJ.out.out⟩
            case measure => simp [intOf]; omega
        · have HG := hide (show goS 2 si true t ho re (silB rn t sl) = (2, si, 0) by rw [HSI.out]; simp [goS])
          obtain ⟨r0, r1, r2, r3, r4, r5, r6, p, y3, s0, s1, s2, s3, f1, f2, f3⟩ := HJ.out.xs HX.out; dsimp only at s0 s1 s2 s3
          go_wp2_with (first | go_quiet (fail))
          go_roundw
          case rel => exact ⟨j + 1, by omega, by go_num, by rw [HWD.out], by rw [HZL.out 2 si 0 HG.out] ; (first | exact ends3 HJ.out.i | exact ends2 HJ.out.i | exact ends1 HJ.out.i | exact ends3 (HJ.out.drewN _).i | exact ends2 (HJ.out.drewN _).i | exact ends1 (HJ.out.drewN _).i), by rw [HZN.out 2 si 0 HG.out, if_pos rfl, List.append_nil]; exact HJ.out.out⟩
          case measure => simp [intOf]; omega
      · cases hh
        · by_cases hr : re ≤ t - si
          · have HG := hide (show goS 3 si false t ho re (silB rn t sl) = (0, t, 2) by rw [HSI.out]; simp [goS, hr])
            obtain ⟨r0, r1, r2, r3, r4, r5, r6, p, y3, s0, s1, s2, s3, f1, f2, f3⟩ := HJ.out.xs HX.out; dsimp only at s0 s1 s2 s3
            go_wp2_with (first | (go_at_call 38; (first | with_reducible refine (rBec_any HJ.out HX.out HB2.out HPR.out HN0.out 0).mono ?_ | with_reducible refine (rBec_any (HJ.out.drewN _) HX.out HB2.out HPR.out HN0.out 0).mono ?_); rintro e w5 ⟨rfl, hJ⟩; dsimp only at hJ; have hX := hide (set_get HX.out (⟨nm, 0, t, v⟩ : Stt)); clear HJ HX r0 r1 r2 r3 r4 r5 r6 p y3 s0 s1 s2 s3 f1 f2 f3; have HJ := hide hJ; clear hJ; have HX := hX; clear hX; obtain ⟨r0, r1, r2, r3, r4, r5, r6, p, y3, s0, s1, s2, s3, f1, f2, f3⟩ := HJ.out.xs HX.out; dsimp only at s0 s1 s2 s3) | (at_builtin; refine wpList_append_own _ rfl (.tmp 161) (.tmp 167) 36 rfl (w.heap.size + 1) 41 i0 (.agg #[.int .i64 0, .string ByteArray.empty, .int .i64 0, .int .i64 0]) 4 40 Tryd.underlying36 hi0 iz0 iz1 iz2 rfl (by decide) _ ns.length _ rfl (HJ.out.out.alloc _) ⟨_, 0, none⟩ 1 1 [.int .i64 t, .string rn, .int .i64 2, .int .i64 v] (by rfl) rfl (cells_at _ [.int .i64 t, .string rn, .int .i64 2, .int .i64 v] _ _ rfl) (by intro u hu; simp at hu; rcases hu with rfl | rfl | rfl | rfl <;> rfl) (by unfold maxLen; omega) (by omega) (by have := HJ.out.i.kp.be.size; have := lt_of_block HJ.out.i.x3; simp; omega) ?_; intro v8 w8 hown8 hg8 _; have hJ := RkJ.grown (ns' := ns ++ [⟨t, rn, 2, v⟩]) (HJ.out.below HBW.out ((Below.refl _ _).alloc (Nat.le_refl _) _)) (by omega) HBW.out hg8 (by simpa [Nt.cs] using hown8); clear HJ r0 r1 r2 r3 r4 r5 r6 p y3 s0 s1 s2 s3 f1 f2 f3 hown8 hg8; have HJ := hide hJ; clear hJ) | go_quiet (fail))
            go_roundw
            case rel => exact ⟨j + 1, by omega, by go_num, by rw [HWD.out], by rw [HZL.out 0 t 2 HG.out] ; (first | exact ends3 HJ.out.i | exact ends2 HJ.out.i | exact ends1 HJ.out.i | exact ends3 (HJ.out.drewN _).i | exact ends2 (HJ.out.drewN _).i | exact ends1 (HJ.out.drewN _).i), by rw [HZN.out 0 t 2 HG.out, if_neg (by decide)]; exact HJ.out.out⟩
            case measure => simp [intOf]; omega
          · have HG := hide (show goS 3 si false t ho re (silB rn t sl) = (3, si, 0) by rw [HSI.out]; simp [goS, hr])
            have hr2 : decide (re ≤ t - si) = false := by simpa using hr
            obtain ⟨r0, r1, r2, r3, r4, r5, r6, p, y3, s0, s1, s2, s3, f1, f2, f3⟩ := HJ.out.xs HX.out; dsimp only at s0 s1 s2 s3
            go_wp2_with (first | go_quiet (fail))
            go_roundw
            case rel => exact ⟨j + 1, by omega, by go_num, by rw [HWD.out], by rw [HZL.out 3 si 0 HG.out] ; (first | exact ends3 HJ.out.i | exact ends2 HJ.out.i | exact ends1 HJ.out.i | exact ends3 (HJ.out.drewN _).i | exact ends2 (HJ.out.drewN _).i | exact ends1 (HJ.out.drewN _).i), by rw [HZN.out 3 si 0 HG.out, if_pos rfl, List.append_nil]; exact HJ.out.out⟩
            case measure => simp [intOf]; omega
        · have HG := hide (show goS 3 si true t ho re (silB rn t sl) = (2, t, 0) by rw [HSI.out]; simp [goS])
          obtain ⟨r0, r1, r2, r3, r4, r5, r6, p, y3, s0, s1, s2, s3, f1, f2, f3⟩ := HJ.out.xs HX.out; dsimp only at s0 s1 s2 s3
          go_wp2_with (first | (go_at_call 38; (first | with_reducible refine (rBec_any HJ.out HX.out HB2.out HPR.out HN0.out 2).mono ?_ | with_reducible refine (rBec_any (HJ.out.drewN _) HX.out HB2.out HPR.out HN0.out 2).mono ?_); rintro e w5 ⟨rfl, hJ⟩; dsimp only at hJ; have hX := hide (set_get HX.out (⟨nm, 2, t, v⟩ : Stt)); clear HJ HX r0 r1 r2 r3 r4 r5 r6 p y3 s0 s1 s2 s3 f1 f2 f3; have HJ := hide hJ; clear hJ; have HX := hX; clear hX; obtain ⟨r0, r1, r2, r3, r4, r5, r6, p, y3, s0, s1, s2, s3, f1, f2, f3⟩ := HJ.out.xs HX.out; dsimp only at s0 s1 s2 s3) | go_quiet (fail))
          go_roundw
          case rel => exact ⟨j + 1, by omega, by go_num, by rw [HWD.out], by rw [HZL.out 2 t 0 HG.out] ; (first | exact ends3 HJ.out.i | exact ends2 HJ.out.i | exact ends1 HJ.out.i | exact ends3 (HJ.out.drewN _).i | exact ends2 (HJ.out.drewN _).i | exact ends1 (HJ.out.drewN _).i), by rw [HZN.out 2 t 0 HG.out, if_pos rfl, List.append_nil]; exact HJ.out.out⟩
          case measure => simp [intOf]; omega
    · obtain rfl : j = n := by omega
      have hzl : zs.length = j := by rw [← hzs, List.length_zipWith, hrn, hll]; omega
      have hznl : zn.length = j := by rw [← hzn, List.length_zipWith, hrn, hll]; omega
      have e1 : zs.take j ++ l.drop j = zs := by rw [take_len zs (by omega), List.drop_of_length_le (by omega), List.append_nil]
      have e2 : zn.take j = zn := take_len zn (by omega)
      have e3 : rl.take j = rl := take_len rl (by omega)
      rw [e1] at hI
      rw [e2] at hO
      rw [e3]
      have HLN := hide (lng_le rl (fun x hx => by
        obtain ⟨q, hq⟩ := List.getElem?_of_mem hx
        have hql := (List.getElem?_eq_some_iff.1 hq).1
        have := HOK.out q x _ hq (List.getElem?_eq_getElem (by omega))
        exact ⟨this.w0, this.w1⟩))
      obtain ⟨g, hg⟩ : ∃ g, lng rl = g := ⟨_, rfl⟩
      rw [hg] at HLN ⊢
      have hg0 := HLN.out.1
      have hg1 := HLN.out.2
      obtain ⟨zk, hzk⟩ : ∃ zk, List.zipWith (keepB j t g) ks cs = zk := ⟨_, rfl⟩
      have hzkl : zk.length = m := by rw [← hzk, List.length_zipWith, hcl, hkl]; omega
      have HG := hide hg
      have HI := hide hI
      have HO := hide hO
      have d2 : wr.cell? ⟨rw_, 2, none⟩ = some (.slice A m mc) := block_cell hI.box 2
      clear e1 e2 e3 hI hO hg
      obtain ⟨wo, rfl⟩ : ∃ wo : World, wo = wr := ⟨_, rfl⟩
      go_wp2_with (fail)
      go_loopw [175] (fun i wq => ∃ k : Nat, k ≤ m ∧ i = .int .i64 k ∧ RkI B base rw_ w.heap.size j m R cr (.slice A m mc) (.slice KA m kc) (.slice SA sn sc) (.slice SB j tc) sn rl cs (zk.take k ++ ks.drop k) sl t (fun k => k = rw_ ∨ (Value.slice SB j tc).ownBlock = some k ∨ (Value.slice KA m kc).ownBlock = some k) w zs wq ∧
        wq.ownsRow (w.heap.size + 1) 41 4 u6 zn.flatten.length (zn.flatten.flatMap Nt.cs)) (fun i _ => m - (intOf i).toNat)
      case atStart => exact ⟨0, Nat.zero_le _, rfl, by simpa using HI.out, HO.out⟩
      case round =>
        clear HI HO d2
        obtain ⟨k, hk, rfl, hI, hO⟩ := hrel
        by_cases hkm : k < m
        · obtain ⟨kb, cap', cur, hv, hbr, hblk, _⟩ := own_blk hI.krow (by omega)
          simp only [Value.slice.injEq, true_and] at hv
          obtain ⟨rfl, rfl⟩ := hv
          obtain ⟨cb_, cap', cur2, hv, hbr2, hblk2, _⟩ := own_blk hI.crow (by omega)
          simp only [Value.slice.injEq, true_and] at hv
          obtain ⟨rfl, rfl⟩ := hv
          obtain ⟨⟨ck, cat, cn⟩, hck⟩ : ∃ c, cs[k]? = some c := ⟨_, List.getElem?_eq_getElem (by omega)⟩
          obtain ⟨kk, hkk⟩ : ∃ c, ks[k]? = some c := ⟨_, List.getElem?_eq_getElem (by omega)⟩
          have hzkk : zk[k]? = some (keepB j t g kk ⟨ck, cat, cn⟩) := by rw [← hzk, List.getElem?_zipWith, hck, hkk]
          obtain ⟨p0, p1, p2⟩ := ct_cells hck
          have c0 : wr.cell? ⟨cb_, k * 3, none⟩ = some (.string ck) := own_cell hI.crow _ _ p0
          have c1 : wr.cell? ⟨cb_, k * 3 + 1, none⟩ = some (.int .i64 cat) := own_cell hI.crow _ _ p1
          have c2 : wr.cell? ⟨cb_, k * 3 + 2, none⟩ = some (.int .i64 cn) := own_cell hI.crow _ _ p2
          have hba : Below wr.heap.size wr (wr.alloc (.cells #[.string ck, .int .i64 cat, .int .i64 cn] 73)) := (Below.refl _ _).alloc (Nat.le_refl _) _
          have HQ := hide (heap_alloc_new wr (.cells #[.string ck, .int .i64 cat, .int .i64 cn] 73))
          have HI := hide (hI.below HBW.out hba)
          have HO := hide (own_below hO hba)
          have HKK := hide ((td_get zk ks k (by omega)).trans hkk)
          have HTD := hide (td_set zk ks k _ hzkk (by omega))
          have HPK := hide (show (fun q => q = rw_ ∨ (Value.slice SB j tc).ownBlock = some q ∨ (Value.slice (some ⟨kb, 0, none⟩) m kc).ownBlock = some q) kb from .inr (.inr rfl))
          have hzs2 := hI.kp.be.size
          clear hI hO hba hck hkk hzkk p0 p1 p2 hblk hblk2
          go_wp2_with (fail)
          obtain ⟨w1, hw1⟩ : ∃ w1, wr.alloc (.cells #[.string ck, .int .i64 cat, .int .i64 cn] 73) = w1 := ⟨_, rfl⟩
          rw [hw1] at HQ HI HO ⊢
          have q0 : w1.cell? ⟨wr.heap.size, 0, none⟩ = some (.string ck) := block_cell HQ.out 0
          have q1 : w1.cell? ⟨wr.heap.size, 1, none⟩ = some (.int .i64 cat) := block_cell HQ.out 1
          have q2 : w1.cell? ⟨wr.heap.size, 2, none⟩ = some (.int .i64 cn) := block_cell HQ.out 2
          have k3 : w1.cell? ⟨rw_, 3, none⟩ = some (.slice (some ⟨kb, 0, none⟩) m kc) := block_cell HI.out.box 3
          have k0 : w1.cell? ⟨rw_, 0, none⟩ = some (.slice R j cr) := block_cell HI.out.box 0
          have kt : w1.cell? ⟨w.heap.size, 0, none⟩ = some (.int .i64 t) := block_cell HI.out.x3 0
          have ke : w1.cell? ⟨kb, k, none⟩ = some (.bool kk) := own_cell HI.out.krow _ _ (cb_cell HKK.out)
          have kf : w1.frozen? ⟨kb, k, none⟩ = false := own_free HI.out.krow _
          clear hw1 c0 c1 c2 HQ
          have HEND := hide (fun (u : Bool) (hu : keepB j t g kk ⟨ck, cat, cn⟩ = u) => show RkI B base rw_ w.heap.size j m R cr (.slice (some ⟨cb_, 0, none⟩) m mc) (.slice (some ⟨kb, 0, none⟩) m kc) (.slice SA sn sc) (.slice SB j tc) sn rl cs (zk.take (k + 1) ++ ks.drop (k + 1)) sl t _ w zs (w1.drew.setCell ⟨kb, k, none⟩ (.bool u)) by
            rw [← HTD.out, hu]
            refine (HI.out.drewN 1).writeK HB2.out (ButAt.set _ _ _) HPK.out ?_ (by omega)
            rw [cb_set _ _ _ (by rw [List.length_append, List.length_take, List.length_drop]; omega)]
            exact own_set (HI.out.drewN 1).krow _ _)
          have HEO := hide (fun (u : Bool) => show (w1.drew.setCell ⟨kb, k, none⟩ (.bool u)).ownsRow (w.heap.size + 1) 41 4 u6 zn.flatten.length (zn.flatten.flatMap Nt.cs) from ownsRow_setCell_other (show w1.drew.ownsRow _ _ _ _ _ _ from HO.out) (a := ⟨kb, k, none⟩) (by obtain ⟨_, cu, hbk⟩ := row_blk HI.out.krow (by omega); exact own_other' HO.out hbk (by decide)) _)
          clear HI HO HTD HKK
          cases kk
          · refine wp_region_still_tail 30 (by kernel_rfl) (by kernel_rfl) ?_; simp only [List.take_succ_cons, List.take_zero, List.drop_succ_cons, List.drop_zero]; change wpStill _ _ w1.drew _ _ _; refine wpStill_of_quiet _ _ ?_; (repeat (go_big_quiet_step (fail))); refine wpQuiet_nil ?_; change wpList _ _ _ _ _ w1.drew
            go_wp2_with (fail)
            go_roundw
            case rel => exact ⟨k + 1, by omega, by go_num, HEND.out false rfl, HEO.out false⟩
            case measure => simp [intOf]; omega
          · by_cases hj0 : 0 < j
            · have hwm : IntKind.i64.wrap (2 * g) = 2 * g := IntWalk.i64_in _ (by omega)
              have hws : IntKind.i64.wrap (t - 2 * g) = t - 2 * g := IntWalk.i64_in _ (by omega)
              have hj2 : (0 : Int) < (j : Int) := by omega
              by_cases hcmp : t - 2 * g < cat
              · have HU := hide (show keepB j t g true ⟨ck, cat, cn⟩ = true by simp [keepB, hj0, hcmp])
                refine wp_region_still_tail 30 (by kernel_rfl) (by kernel_rfl) ?_; simp only [List.take_succ_cons, List.take_zero, List.drop_succ_cons, List.drop_zero]; change wpStill _ _ w1.drew _ _ _; refine wpStill_of_quiet _ _ ?_; (repeat (go_big_quiet_step (fail))); refine wpQuiet_nil ?_; change wpList _ _ _ _ _ w1.drew
                go_wp2_with (fail)
                go_roundw
                case rel => exact ⟨k + 1, by omega, by go_num, HEND.out true HU.out, HEO.out true⟩
                case measure => simp [intOf]; omega
              · have hcmp2 : decide (t - 2 * g < cat) = false := by simpa using hcmp
                have HU := hide (show keepB j t g true ⟨ck, cat, cn⟩ = false by simp [keepB, hj0]; omega)
                refine wp_region_still_tail 30 (by kernel_rfl) (by kernel_rfl) ?_; simp only [List.take_succ_cons, List.take_zero, List.drop_succ_cons, List.drop_zero]; change wpStill _ _ w1.drew _ _ _; refine wpStill_of_quiet _ _ ?_; (repeat (go_big_quiet_step (fail))); refine wpQuiet_nil ?_; change wpList _ _ _ _ _ w1.drew
                go_wp2_with (fail)
                go_roundw
                case rel => exact ⟨k + 1, by omega, by go_num, HEND.out false HU.out, HEO.out false⟩
                case measure => simp [intOf]; omega
            · obtain rfl : j = 0 := by omega
              have HU := hide (show keepB 0 t g true ⟨ck, cat, cn⟩ = false by simp [keepB])
              refine wp_region_still_tail 30 (by kernel_rfl) (by kernel_rfl) ?_; simp only [List.take_succ_cons, List.take_zero, List.drop_succ_cons, List.drop_zero]; change wpStill _ _ w1.drew _ _ _; refine wpStill_of_quiet _ _ ?_; (repeat (go_big_quiet_step (fail))); refine wpQuiet_nil ?_; change wpList _ _ _ _ _ w1.drew
              go_wp2_with (fail)
              go_roundw
              case rel => exact ⟨k + 1, by omega, by go_num, HEND.out false HU.out, HEO.out false⟩
              case measure => simp [intOf]; omega
        · obtain rfl : k = m := by omega
          have e4 : zk.take k ++ ks.drop k = zk := by rw [take_len zk (by omega), List.drop_of_length_le (by omega), List.append_nil]
          rw [e4] at hI
          have HI := hide hI
          have HO := hide hO
          clear hI hO e4
          go_wp2_with (fail)
          go_ret2
          subst hzk hzn hzs
          exact ⟨u6, g, HG.out, rfl, HI.out, HO.out⟩
end Go.Proofs.YtmakkdadhhpapaaDoor
