/- RateGates, RateGatesL: texts of one's own, in one file. -/
import Derived.Test.YtkoijhecahebgaaDoorGtZE
import Derived.Test.YtkoijhecahebgaaDoorGtTls
import Derived.Test.YtkoijhecahebgaaDoorGtZD
import Derived.Test.YtkoijhecahebgaaDoorGtZB
import Derived.Test.YtkoijhecahebgaaDoorGtZF
import Derived.Test.YtkoijhecahebgaaDoorRows
/- The law RateGates: the walk. -/
namespace Go.Proofs.YtkoijhecahebgaaDoor
open Go.RowKit Go.Maps
set_option linter.unusedVariables false
set_option linter.unusedSimpArgs false
theorem sl_own {α : Type} {w : World} {base sz n c : Nat} {e : TypeId} {A : Option Addr} {f : α → List Value} {l : List α} (hf : ∀ a, (f a).length = sz) (hn : l.length = n) (h : w.ownsRow base e sz (.slice A n c) n (l.flatMap f)) : Sl w w.heap.size f sz A n l := by
  obtain ⟨A', c', e', hs, _⟩ := sl_of_own hf hn h
  cases e'
  exact hs
section
variable {B : Nat} {W W' : World} {p n qc lc rb tb m tn tc : Nat} {qA lA tA : Option Addr} {rv : Value} {RD : DataW Unit} {Q : List Qt} {RT : List RtK} {g t : Int} {V : List Lv} {TL : List Tl}
theorem GP.rated (h : GP B W p n qc lc rb tb m tn qA lA RD Q RT g V TL) {rb2 m2 : Nat} {D2 : DataW Unit} {RT2 : List RtK} (hbx : W'.heap[p]? = some (.cells #[.slice qA n qc, .slice lA n lc, .map (some rb2), .int .i64 g, .map (some tb)] 64 (0, 0)))
    (hM : W'.ownsMap Tryd.prog 9 (plainElem Tryd.prog 3) rb2 m2 D2) (hD : MapR D2 RT2) (hk : Keep B (fun k => k = p) W W') (hrb : W.heap.size ≤ rb2) (hBz : B ≤ W.heap.size) : GP B W' p n qc lc rb2 tb m2 tn qA lA D2 Q RT2 g V TL := by
  obtain ⟨D, h1, h2⟩ := h.tal
  obtain ⟨es, ck, ht⟩ := map_blk h1
  have htl := h1.lt
  exact ⟨hbx, own_stay h.quo (fun k o e ho => hk.keep k o ho (h.qsep e).1), own_stay h.lev (fun k o e ho => hk.keep k o ho (h.lsep e).1), hM, hD,
    ⟨D, ownsMap_block h1 ((hk.keep tb _ ht h.msep.2).trans ht.symm), h2⟩, h.pl, by omega, h.tl, by omega⟩
theorem GRm.rates (h : GRm B W p n qc lc tc qA lA tA rv g V TL) (rv' : Value) : GRm B (W.setCell ⟨p, 1, none⟩ rv') p n qc lc tc qA lA tA rv' g V TL :=
  ⟨(block_set (i := 1) h.box _).trans rfl, own_stay h.lev (fun k o e ho => block_set_other ho _ _ (h.lne e).1), own_stay h.tal (fun k o e ho => block_set_other ho _ _ (h.tne e)), h.pl⟩
end
theorem askE_ok {id key : ByteArray} {t g : Int} (h : askE id key t g = 0) : id.size ≤ 200 ∧ keyErr key = 0 ∧ momE t g = 0 := by
  unfold askE at h
  split at h
  · cases h
  · rename_i h1
    split at h
    · rename_i h2; exact ⟨by omega, h2, h⟩
    · rename_i h2; exact absurd h h2
theorem momE_ok {t g : Int} (h : momE t g = 0) : g ≤ t ∧ t ≤ 3155759999 ∧ outsideB t 0 3155759999 = false := by
  unfold momE at h
  split at h
  · cases h
  · rename_i ho
    split at h
    · cases h
    · have ho' : outsideB t 0 3155759999 = false := by simpa using ho
      refine ⟨by omega, ?_, ho'⟩
      simp [outsideB] at ho'; omega
set_option maxRecDepth 100000 in
set_option maxHeartbeats 16000000 in
theorem RateGates_any (qA rA kA : Option Addr) (qn qc rn rc kn kc : Nat) (Q : List Qt) (RT : List RtK) (KS : List KnockT) (at_ : Int) (w : World)
    (hqn : qn ≤ maxLen) (hqc : qn ≤ qc) (hq : Sl w w.heap.size Qt.cs 5 qA qn Q) (hqf : QtFit Q) (hrn : rn ≤ maxLen) (hrc : rn ≤ rc) (hr : Sl w w.heap.size RtK.cs 2 rA rn RT) (hrf : RkFit RT)
    (hkn : kn ≤ maxLen) (hkc : kn ≤ kc) (hk : Sl w w.heap.size KnockT.cs 5 kA kn KS) (hko : ∀ x ∈ KS, x.ok w) :
    Calls Tryd.prog 3 #[.slice qA qn qc, .slice rA rn rc, .int .i64 at_, .slice kA kn kc] w fun e w' => e = .returned (.bool true) ∧ Below w.heap.size w w' := by
  have q : ∀ (w : World) (a : Option Addr), (binOp .eql 25 (.pointer a) (.pointer none)).run Tryd.prog w = .ok (.bool a.isNone) w := fun w a => by
    cases a <;> kernel_rfl
  have HQ := hide hq
  have HR := hide hr
  have HK := hide hk
  have HKO := hide hko
  have hkl := hk.len
  have hql := hq.len
  have CQE := hide (fun (W : World) (hb : Below w.heap.size w W) => QuotasError_any qA qn qc Q W hqn hqc (Sl.up hq hb) hqf)
  have CQC := hide (fun (W : World) (hb : Below w.heap.size w W) => CheckQuotas_any qA qn qc Q W hqn (Sl.up hq hb) hqf)
  have CRE := hide (fun (W : World) (hb : Below w.heap.size w W) => RatesError_any rA rn rc RT W hrn hrc (Sl.up hr hb) hrf)
  have CM := hide (fun W => Moment_any at_ W)
  obtain ⟨kk, hkk⟩ : ∃ kk : Nat, min kn 60 = kk := ⟨_, rfl⟩
  have hk60 : kk ≤ 60 := by omega
  have hk2 : kk ≤ kn := by omega
  clear hk hko
  by_cases h1 : qtErr Q = 0
  · by_cases h2 : rtErr RT = 0
    · by_cases h3 : outsideB at_ 0 3155759999 = true
      · have hnew : newE Q RT at_ = 2 := by rw [newE, if_pos h1, if_pos h2, if_pos h3]
        have hE : newE Q RT at_ ≠ 0 := by rw [hnew]; decide
        have HN := hide (NewGate_bad qn qc rn rc qA rA Q RT at_ w hqn hq hqf hrn hr hrf hE)
        rw [hnew] at HN
        rw [h3] at CM
        rw [h2] at CRE
        rw [h1] at CQE CQC
        clear hq hr hE
        go_enter Tryd.func3, Tryd.ntmps3
        go_wp2_with (first | (go_at_call 5; refine HN.out.mono ?_; rintro e w3 ⟨rfl, hw3⟩; have HB3 := hide hw3; have hz3 := hw3.size; clear hw3) | (go_at_call 6; refine (CQE.out _ HB3.out).mono ?_; rintro e w4 ⟨rfl, hw4⟩; have HS4 := hide hw4; have HB4 := hide (HB3.out.trans (hw4.mono hz3)); have hz4 := hw4.size; clear hw4) | (go_at_call 7; refine (CQC.out _ HB4.out).mono ?_; rintro e w5 ⟨rfl, hw5⟩; have HS5 := hide hw5; have HB5 := hide (HB4.out.trans (hw5.mono (by omega))); have hz5 := hw5.size; clear hw5) | (go_at_call 8; refine (CRE.out _ HB5.out).mono ?_; rintro e w6 ⟨rfl, hw6⟩; have HS6 := hide hw6; have HB6 := hide (HB5.out.trans (hw6.mono (by omega))); have hz6 := hw6.size; clear hw6) | (go_at_call 9; refine (CM.out _).mono ?_; rintro e w' ⟨rfl, rfl⟩))
        go_ret
        exact ⟨rfl, HB6.out⟩
      · have h3f : outsideB at_ 0 3155759999 = false := by simpa using h3
        have hE : newE Q RT at_ = 0 := by rw [newE, if_pos h1, if_pos h2, if_neg h3]
        have hat : 0 ≤ at_ ∧ at_ ≤ 3155759999 := by simp [outsideB] at h3f; omega
        have HN := hide (NewGate_ok qn qc rn rc qA rA Q RT at_ w hqn hq hqf hrn hr hrf hE)
        obtain ⟨hQ50', hQb⟩ := qt_ok h1
        have hQ50 : qn ≤ 50 := by omega
        have HGI := hide (GI.start hQb hat.1 hat.2)
        have H2 := hide h2
        rw [h3f] at CM
        rw [h2] at CRE
        rw [h1] at CQE CQC
        clear hq hr hE h1 h2 h3 h3f hQb
        go_enter Tryd.func3, Tryd.ntmps3
        go_wp2_with (first | (go_at_call 5; refine HN.out.mono ?_; rintro e w3 ⟨p, qcP, lcP, rb, tb, m, qAP, lAP, RD, rfl, hmade⟩; have HG3 := hide (GP.made hmade); have HB3 := hide hmade.be; have hz3 := hmade.be.size; clear hmade) | (go_at_call 6; refine (CQE.out _ HB3.out).mono ?_; rintro e w4 ⟨rfl, hw4⟩; have HS4 := hide hw4; have HB4 := hide (HB3.out.trans (hw4.mono hz3)); have hz4 := hw4.size; clear hw4) | (go_at_call 7; refine (CQC.out _ HB4.out).mono ?_; rintro e w5 ⟨rfl, hw5⟩; have HS5 := hide hw5; have HB5 := hide (HB4.out.trans (hw5.mono (by omega))); have hz5 := hw5.size; clear hw5) | (go_at_call 8; refine (CRE.out _ HB5.out).mono ?_; rintro e w6 ⟨rfl, hw6⟩; have HS6 := hide hw6; have HB6 := hide (HB5.out.trans (hw6.mono (by omega))); have hz6 := hw6.size; clear hw6) | (go_at_call 9; refine (CM.out _).mono ?_; rintro e w' ⟨rfl, rfl⟩) | (go_at_call 10; refine (NewGateR_any qn qc qA (.slice rA rn rc) rn rc rA rfl Q at_ _ hQ50 (Sl.up HQ.out HB6.out)).mono ?_; rintro e w7 ⟨rp, lAR, lcR, rfl, hgr, hw7⟩; have HGR7 := hide hgr; have HS7 := hide hw7; have HB7 := hide (HB6.out.trans (hw7.mono (by omega))); have hz7 := hw7.size; clear hgr hw7))
        have HP7 := hide ((((HG3.out.below HS4.out).below HS5.out).below HS6.out).below HS7.out)
        have hPB6 : ∀ k, PB p qn qcP lcP rb tb qAP lAP k → k < w6.heap.size := fun k hk => (((HG3.out.below HS4.out).below HS5.out).below HS6.out).lt hk
        have HDJ := hide (show ∀ k, PB p qn qcP lcP rb tb qAP lAP k → ¬ RB rp qn lcR 0 0 lAR none k from fun k hk hr => by
          have h9 := hPB6 k hk
          rcases hr with rfl | e | e
          · have := HGR7.out.pl; omega
          · have := (HGR7.out.lev.lt k e).1; omega
          · cases e)
        clear HG3 HS4 HS5 HS6 CQE CQC CRE HN hPB6
        go_loopw [77] (fun tI wr => ∃ (i : Nat) (g : Int) (V W : List Lv) (TL : List Tl) (RTc : List RtK) (rb m tn lc tc rn2 rc2 : Nat) (lA tA rA2 : Option Addr) (RD : DataW Unit), tI = .int .i64 (i : Int) ∧ i ≤ kk ∧ GP w.heap.size wr p qn qcP lcP rb tb m tn qAP lAP RD Q RTc g V TL ∧ GRm w6.heap.size wr rp qn qc lc tc qA lA tA (.slice rA2 rn2 rc2) g W TL ∧ GI Q V W g ∧ TI TL i ∧ tn ≤ i ∧ rtErr RTc = 0 ∧ rn2 ≤ maxLen ∧ rn2 ≤ rc2 ∧ Sl w w.heap.size RtK.cs 2 rA2 rn2 RTc ∧ (∀ k, PB p qn qcP lcP rb tb qAP lAP k → ¬ RB rp qn lc TL.length tc lA tA k) ∧ 0 ≤ g ∧ g ≤ 3155759999 ∧ Below w.heap.size w wr ∧ w6.heap.size ≤ wr.heap.size) (fun i _ => kk - (intOf i).toNat)
        case atStart => exact ⟨0, at_, _, _, [], RT, rb, m, 0, lcR, 0, rn, rc, lAR, none, rA, RD, rfl, Nat.zero_le _, HP7.out, HGR7.out, HGI.out, TI.empty, Nat.le_refl _, H2.out, hrn, hrc, HR.out, HDJ.out, hat.1, hat.2, HB7.out, by omega⟩
        case round =>
          obtain ⟨i, g, V, W, TL, RTc, rb', m', tn, lc, tc, rn2, rc2, lA, tA, rA2, RD', rfl, hi, hP, hRm, hgi, hti, htn, hrt, hrn2, hrc2, hr2, hdj, hg0, hg1, hBw, hz⟩ := hrel
          by_cases hlt : i < kk
          · obtain ⟨bb, oo, x, rfl, hbb, hx, hc⟩ := (HK.out.below hBw).at_ (show i < kn by omega)
            have kc0 := hc 0 _ rfl
            have kc1 := hc 1 _ rfl
            have kc2 := hc 2 _ rfl
            have kc3 := hc 3 _ rfl
            have kc4 := hc 4 _ rfl
            simp only [Nat.add_zero] at kc0
            have hxo := HKO.out x (List.mem_of_getElem? hx)
            clear hc hx
            obtain ⟨what, kid, kkey, kat, kA2, kN, kcap, rates⟩ := x
            obtain ⟨hkid, hkk2, hkN, hkNc, hkr, hkrf⟩ := hxo
            simp only at hkid hkk2 hkN hkNc hkr hkrf kc0 kc1 kc2 kc3 kc4
            have HKR := hide hkr
            have HPL : ∀ k, PB p qn qcP lcP rb' tb qAP lAP k → k < wr.heap.size := fun k hk => hP.lt hk
            clear hkr
            by_cases c0 : what = 0
            · subst c0
              have hki : (i : Int) < (kk : Int) := by omega
              have hbk : Below wr.heap.size wr (wr.alloc (.cells #[.int .i64 0, .string kid, .string kkey, .int .i64 kat, .slice kA2 kN kcap] 35)) := (Below.refl _ _).alloc (Nat.le_refl _) _
              have HBK := hide hbk
              have HNK := hide (heap_alloc_new wr (.cells #[.int .i64 0, .string kid, .string kkey, .int .i64 kat, .slice kA2 kN kcap] 35))
              have HPk := hide (hP.below hbk)
              have HRk := hide (hRm.below hbk)
              have HBWK := hide (hBw.trans (hbk.mono (by have := hBw.size; omega)))
              have hszk : (wr.alloc (.cells #[.int .i64 0, .string kid, .string kkey, .int .i64 kat, .slice kA2 kN kcap] 35)).heap.size = wr.heap.size + 1 := by simp
              have hpw := lt_of_block hP.box
              have hrpw := lt_of_block hRm.box
              have HDJ2 := hide hdj
              have HGI2 := hide hgi
              have HTI2 := hide hti
              have HRT2 := hide hrt
              have HR2 := hide hr2
              have hBws := hBw.size
              clear hP hRm hBw hdj hgi hti hrt hr2 hbk
              have HPW := hide (show ∀ k, PB p qn qcP lcP rb' tb qAP lAP k → k < wr.heap.size from HPL)
              have k1 : (wr.alloc (.cells #[.int .i64 0, .string kid, .string kkey, .int .i64 kat, .slice kA2 kN kcap] 35)).cell? ⟨wr.heap.size, 1, none⟩ = some (.string kid) := (block_cell HNK.out 1).trans rfl
              by_cases hE : askE kid kkey kat g = 0
              · obtain ⟨he1, he2, he3⟩ := askE_ok hE
                obtain ⟨hm1, hm2, hm3⟩ := momE_ok he3
                obtain ⟨o1, o2, o3, ho⟩ : ∃ o1 o2 o3, (askO Q RTc V TL kid kkey kat).1 = (o1, o2, o3) := ⟨_, _, _, rfl⟩
                obtain ⟨ha1, ha2⟩ := HGI2.out.askO hm1 RTc TL kid kkey
                have CA := Ask_gpK HPk.out kat kid kkey hql (by have := HGI2.out.len; omega) HGI2.out.ok hQ50 (by omega) HGI2.out.g_ (fun q hq => (hqf q hq).1) (getR_rng HRT2.out kkey) (by omega) (fun y => HTI2.out.get (by omega) y) he1 he2 hkk2 he3
                rw [ho] at CA
                simp only [askV] at CA
                have HCA := hide CA
                have HCR := hide (fun (X : World) (hX : GRm w6.heap.size X rp qn qc lc tc qA lA tA (.slice rA2 rn2 rc2) g W TL) (hb : Below w.heap.size w X) (hs : w6.heap.size ≤ X.heap.size) => AskR_ok hX kat kid kkey ((HQ.out.below hb).more (by omega)) ((HR2.out.below hb).more (by omega)) (by have := rt_len HRT2.out; have := HR2.out.len; omega) (by have := HGI2.out.wlen; omega) HGI2.out.wok hQ50 hs HGI2.out.wg (rt_un HRT2.out) (by have := HTI2.out.len; omega) (fun y hy => by have := HTI2.out.many y hy; omega) he1 he2 hkk2 he3)
                rw [ha1, ha2, ho] at HCR
                simp only [askV] at HCR
                have HGN := hide (HGI2.out.asked hm1 hm2 RTc TL kid kkey)
                have HTN := hide (HTI2.out.ask (Q := Q) (fun q hq => (hqf q hq).1) hkk2 RTc V kid kat)
                obtain ⟨Vn, hVn⟩ : ∃ Vn, (askO Q RTc V TL kid kkey kat).2.1 = Vn := ⟨_, rfl⟩
                obtain ⟨Tn, hTn⟩ : ∃ Tn, (askO Q RTc V TL kid kkey kat).2.2 = Tn := ⟨_, rfl⟩
                obtain ⟨Wn, hWn⟩ : ∃ Wn, askVR Q RTc W kid kkey kat = Wn := ⟨_, rfl⟩
                rw [hVn] at HCA HGN
                rw [hTn] at HCA HCR HTN
                rw [hWn] at HCR HGN
                clear CA ho ha1 ha2 hVn hTn hWn hE
                go_wp2_with (first
                  | (go_at_call 11; refine HCA.out.mono ?_; rintro e4 wa ⟨rfl, hPa, hKa⟩; have HPa := hide hPa; have HKa := hide hKa; have hsa := hKa.be.size; have HBa := hide (HBWK.out.trans hKa.be); have hna := hKa.keep _ _ HNK.out (fun e => by rcases e with e | e | e; (omega); (have h9 := HPk.out.msep; have h8 := HPk.out.lt (k := tb) (.inr (.inr (.inl rfl))); have h7 : tb < wr.heap.size := (HPW.out tb (.inr (.inr (.inl rfl)))); omega); (have h7 := HPW.out wr.heap.size (.inr (.inr (.inr (.inr e)))); omega)); have HRa := hide (HRk.out.keep (W' := wa) (fun k o hk ho => hKa.keep k o ho (fun e => HDJ2.out k (by rcases e with e | e | e; (exact .inl e); (exact .inr (.inr (.inl e))); (exact .inr (.inr (.inr (.inr e))))) hk))); have j1 : wa.cell? ⟨wr.heap.size, 1, none⟩ = some (.string kid) := (block_cell hna 1).trans rfl; have j2 : wa.cell? ⟨wr.heap.size, 2, none⟩ = some (.string kkey) := (block_cell hna 2).trans rfl; have j3 : wa.cell? ⟨wr.heap.size, 3, none⟩ = some (.int .i64 kat) := (block_cell hna 3).trans rfl; clear hPa hKa hna)
                  | (go_at_call 12; refine (HCR.out wa HRa.out HBa.out (by omega)).mono ?_; rintro e5 wb ⟨rfl, lA', lc', tA', tc', hRb, hKb, hTb, hLb⟩; have HPx := hide (HPa.out.keep (W' := wb) (fun k o hk ho => hKb.keep k o ho (fun e => HDJ2.out k hk (by rcases e with e | e; (exact .inl e); (exact .inr (.inr e)))))); have HRx := hide hRb; have HBb := hide (HBa.out.trans (hKb.be.mono (by omega))); have hsb := hKb.be.size; have HDJN := hide (show ∀ k, PB p qn qcP lcP rb' tb qAP lAP k → ¬ RB rp qn lc' Tn.length tc' lA' tA' k from fun k hk hr => by have hkl3 := HPa.out.lt hk; rcases hr with e | e | e; (exact HDJ2.out k hk (.inl e)); (rcases hLb k e with h9 | h9; (exact HDJ2.out k hk (.inr (.inl h9))); (omega)); (rcases hTb k e with h9 | h9; (exact HDJ2.out k hk (.inr (.inr h9))); (omega))); clear hRb hKb hTb hLb))
                obtain ⟨Dx, hTx, hTDx⟩ := HPx.out.tal
                have hlenx := (HTN.out).len
                have CT1 := hide (Tallies_any p tb (tn + 1) Dx (Tn) wb ((block_cell HPx.out.box 4).trans rfl) hTx hTDx (HTN.out).nd (HTN.out).ok (by omega))
                have HNDX := hide (HTN.out).nd
                have hslx : (srtT (Tn)).length = (Tn).length := (srtT_perm _).length_eq
                have hHBx := HBb.out
                have hszx := hHBx.size
                clear hTx hTDx
                go_wp2_with (first
                  | (go_at_call 18; refine CT1.out.mono ?_; rintro e8 wt ⟨v1, rfl, hrow1, hbt⟩; obtain ⟨A1, c1, rfl⟩ := own_sl hrow1; have HPt := hide (HPx.out.below hbt); have HRt := hide (HRx.out.below hbt); have HO1 := hide hrow1; have HBt := hide (hHBx.trans (hbt.mono hszx)); have hst := hbt.size; clear hrow1 hbt CT1)
                  | (go_at_call 19; refine (TalliesR_any rp (tA') (tc') w6.heap.size (Tn) wt ((block_cell HRt.out.box 4).trans rfl) HRt.out.tal HNDX.out (by omega)).mono ?_; rintro e9 wu ⟨v2, rfl, hrow2, hbu⟩; obtain ⟨A2, c2, rfl⟩ := own_sl hrow2; have HPu := hide (HPt.out.below hbu); have HRu := hide (HRt.out.below hbu); have HO1u := hide (own_below HO1.out hbu); have HO2 := hide hrow2; have HBu := hide (HBt.out.trans (hbu.mono (by omega))); have hsu := hbu.size; clear hrow2 hbu)
                  | (go_at_call 17; refine (Equal_tl A1 _ c1 A2 c2 (srtT (Tn)) wu (by unfold maxLen; omega) (sl_own (fun _ => rfl) hslx HO1u.out) (sl_own (fun _ => rfl) hslx HO2.out)).mono ?_; rintro e9 wv ⟨rfl, hbv⟩; have HPv := hide (HPu.out.below hbv); have HRv := hide (HRu.out.below hbv); have HBv := hide (HBu.out.trans (hbv.mono (by omega))); have hsv := hbv.size; clear hbv))
                go_roundw
                case rel => exact ⟨i + 1, kat, Vn, Wn, Tn, RTc, rb', m', (tn + 1), lc', tc', rn2, rc2, lA', tA', rA2, RD', by go_num, by omega, HPv.out, HRv.out, HGN.out, HTN.out, by omega, HRT2.out, hrn2, hrc2, HR2.out, HDJN.out, (by omega), hm2, HBv.out, by omega⟩
                case measure => simp [intOf]; omega
              · obtain ⟨y, hy⟩ : ∃ y, askE kid kkey kat g = y := ⟨_, rfl⟩
                have CA := Ask_err p g kat kid kkey (wr.alloc (.cells #[.int .i64 0, .string kid, .string kkey, .int .i64 kat, .slice kA2 kN kcap] 35)) hkid hkk2 ((block_cell HPk.out.box 3).trans rfl) hE
                have CR := AskR_err rp g kat kid kkey (wr.alloc (.cells #[.int .i64 0, .string kid, .string kkey, .int .i64 kat, .slice kA2 kN kcap] 35)) hkid hkk2 ((block_cell HRk.out.box 2).trans rfl) hE
                rw [hy] at CA CR
                have HCA := hide CA
                have HCR := hide CR
                clear CA CR hy hE
                go_wp2_with (first | (go_at_call 11; refine (HCA.out).mono ?_; rintro e w' ⟨rfl, rfl⟩) | (go_at_call 12; refine (HCR.out).mono ?_; rintro e w' ⟨rfl, rfl⟩))
                obtain ⟨Dx, hTx, hTDx⟩ := HPk.out.tal
                have hlenx := ((HTI2.out.more (Nat.le_succ i))).len
                have CT1 := hide (Tallies_any p tb tn Dx (TL) (wr.alloc (.cells #[.int .i64 0, .string kid, .string kkey, .int .i64 kat, .slice kA2 kN kcap] 35)) ((block_cell HPk.out.box 4).trans rfl) hTx hTDx ((HTI2.out.more (Nat.le_succ i))).nd ((HTI2.out.more (Nat.le_succ i))).ok (by omega))
                have HNDX := hide ((HTI2.out.more (Nat.le_succ i))).nd
                have hslx : (srtT (TL)).length = (TL).length := (srtT_perm _).length_eq
                have hHBx := HBWK.out
                have hszx := hHBx.size
                clear hTx hTDx
                go_wp2_with (first
                  | (go_at_call 18; refine CT1.out.mono ?_; rintro e8 wt ⟨v1, rfl, hrow1, hbt⟩; obtain ⟨A1, c1, rfl⟩ := own_sl hrow1; have HPt := hide (HPk.out.below hbt); have HRt := hide (HRk.out.below hbt); have HO1 := hide hrow1; have HBt := hide (hHBx.trans (hbt.mono hszx)); have hst := hbt.size; clear hrow1 hbt CT1)
                  | (go_at_call 19; refine (TalliesR_any rp (tA) (tc) w6.heap.size (TL) wt ((block_cell HRt.out.box 4).trans rfl) HRt.out.tal HNDX.out (by omega)).mono ?_; rintro e9 wu ⟨v2, rfl, hrow2, hbu⟩; obtain ⟨A2, c2, rfl⟩ := own_sl hrow2; have HPu := hide (HPt.out.below hbu); have HRu := hide (HRt.out.below hbu); have HO1u := hide (own_below HO1.out hbu); have HO2 := hide hrow2; have HBu := hide (HBt.out.trans (hbu.mono (by omega))); have hsu := hbu.size; clear hrow2 hbu)
                  | (go_at_call 17; refine (Equal_tl A1 _ c1 A2 c2 (srtT (TL)) wu (by unfold maxLen; omega) (sl_own (fun _ => rfl) hslx HO1u.out) (sl_own (fun _ => rfl) hslx HO2.out)).mono ?_; rintro e9 wv ⟨rfl, hbv⟩; have HPv := hide (HPu.out.below hbv); have HRv := hide (HRu.out.below hbv); have HBv := hide (HBu.out.trans (hbv.mono (by omega))); have hsv := hbv.size; clear hbv))
                go_roundw
                case rel => exact ⟨i + 1, g, V, W, TL, RTc, rb', m', tn, lc, tc, rn2, rc2, lA, tA, rA2, RD', by go_num, by omega, HPv.out, HRv.out, HGI2.out, (HTI2.out.more (Nat.le_succ i)), by omega, HRT2.out, hrn2, hrc2, HR2.out, HDJ2.out, hg0, hg1, HBv.out, by omega⟩
                case measure => simp [intOf]; omega
            · by_cases c1 : what = 1
              · subst c1
                have hki : (i : Int) < (kk : Int) := by omega
                have hbk : Below wr.heap.size wr (wr.alloc (.cells #[.int .i64 1, .string kid, .string kkey, .int .i64 kat, .slice kA2 kN kcap] 35)) := (Below.refl _ _).alloc (Nat.le_refl _) _
                have HBK := hide hbk
                have HNK := hide (heap_alloc_new wr (.cells #[.int .i64 1, .string kid, .string kkey, .int .i64 kat, .slice kA2 kN kcap] 35))
                have HPk := hide (hP.below hbk)
                have HRk := hide (hRm.below hbk)
                have HBWK := hide (hBw.trans (hbk.mono (by have := hBw.size; omega)))
                have hszk : (wr.alloc (.cells #[.int .i64 1, .string kid, .string kkey, .int .i64 kat, .slice kA2 kN kcap] 35)).heap.size = wr.heap.size + 1 := by simp
                have hpw := lt_of_block hP.box
                have hrpw := lt_of_block hRm.box
                have HDJ2 := hide hdj
                have HGI2 := hide hgi
                have HTI2 := hide hti
                have HRT2 := hide hrt
                have HR2 := hide hr2
                have hBws := hBw.size
                clear hP hRm hBw hdj hgi hti hrt hr2 hbk
                have hrsl : Sl (wr.alloc (.cells #[.int .i64 1, .string kid, .string kkey, .int .i64 kat, .slice kA2 kN kcap] 35)) (wr.alloc (.cells #[.int .i64 1, .string kid, .string kkey, .int .i64 kat, .slice kA2 kN kcap] 35)).heap.size RtK.cs 2 kA2 kN rates := (HKR.out.below HBWK.out).more (by have := HBWK.out.size; omega)
                have hAp : 0 < kN → ∀ b o, kA2 = some ⟨b, o, none⟩ → b ≠ p := fun h0 b o e => by
                  obtain ⟨b', o', e', hlt9, _⟩ := HKR.out.cells h0
                  rw [e] at e'; cases e'
                  have := HPk.out.pl; omega
                have CR1 := hide (Rates_ok p w.heap.size kN kcap kA2 rates _ _ _ _ _ (wr.alloc (.cells #[.int .i64 1, .string kid, .string kkey, .int .i64 kat, .slice kA2 kN kcap] 35)) hkN hrsl hkrf HPk.out.box HPk.out.pl hAp)
                have CE1 := hide (fun (X : World) (hb : Below w.heap.size w X) => RatesError_any kA2 kN kcap rates X hkN hkNc ((HKR.out.below hb).more (by have := hb.size; omega)) hkrf)
                have hsk := HBWK.out.size
                clear hrsl hAp
                by_cases hre : rtErr rates = 0
                · rw [hre] at CR1 CE1
                  have HRE := hide hre
                  clear hre
                  go_wp2_with (first
                    | (go_at_call 13; refine CR1.out.mono ?_; rintro e4 wa ⟨rfl, _, h3⟩; obtain ⟨rb2, D2, m2, hrb2, hbx2, hM2, hD2, hm2, hKa⟩ := h3 rfl; have HPa := hide (HPk.out.rated hbx2 hM2 hD2 hKa hrb2 hsk); have hsa := hKa.be.size; have HBa := hide (HBWK.out.trans hKa.be); have HNa := hide (hKa.keep _ _ HNK.out (by omega)); have HRa := hide (HRk.out.keep (W' := wa) (fun k o hk ho => hKa.keep k o ho (fun e => HDJ2.out k (.inl e) hk))); have HDJN := hide (show ∀ k, PB p qn qcP lcP rb2 tb qAP lAP k → ¬ RB rp qn lc TL.length tc lA tA k from fun k hk hr => by rcases hk with e | e | e | e | e; (exact HDJ2.out k (.inl e) hr); (have h9 := HRk.out.lt hr; omega); (exact HDJ2.out k (.inr (.inr (.inl e))) hr); (exact HDJ2.out k (.inr (.inr (.inr (.inl e)))) hr); (exact HDJ2.out k (.inr (.inr (.inr (.inr e)))) hr)); have j4 : wa.cell? ⟨wr.heap.size, 4, none⟩ = some (.slice kA2 kN kcap) := (block_cell HNa.out 4).trans rfl; clear h3 hbx2 hM2 hD2 hKa)
                    | (go_at_call 8; refine (CE1.out wa HBa.out).mono ?_; rintro e5 wb ⟨rfl, hwb⟩; have HRb := hide (HRa.out.below hwb); have HPb := hide (HPa.out.below hwb); have HBb := hide (HBa.out.trans (hwb.mono (by omega))); have hsb := hwb.size; have hnb := block_below HNa.out hwb; have j4 : wb.cell? ⟨wr.heap.size, 4, none⟩ = some (.slice kA2 kN kcap) := (block_cell hnb 4).trans rfl; have rc1 : wb.cell? ⟨rp, 1, none⟩ = some (.slice rA2 rn2 rc2) := (block_cell HRb.out.box 1).trans rfl; have rf1 : wb.frozen? ⟨rp, 1, none⟩ = false := block_free HRb.out.box 1; have HRx := hide (HRb.out.rates (.slice kA2 kN kcap)); have HPx := hide (HPb.out.keep (W' := wb.setCell ⟨rp, 1, none⟩ (.slice kA2 kN kcap)) (fun k o hk ho => block_set_other ho _ _ (fun e => HDJN.out k hk (.inl e)))); have HBx := hide (below_set (i := 1) HBb.out (b := rp) (by have := HRb.out.pl; omega) (.slice kA2 kN kcap)); clear hwb hnb))
                  have hssx : (wb.setCell ⟨rp, 1, none⟩ (.slice kA2 kN kcap)).heap.size = wb.heap.size := by simp
                  obtain ⟨Dx, hTx, hTDx⟩ := HPx.out.tal
                  have hlenx := ((HTI2.out.more (Nat.le_succ i))).len
                  have CT1 := hide (Tallies_any p tb tn Dx (TL) (wb.setCell ⟨rp, 1, none⟩ (.slice kA2 kN kcap)) ((block_cell HPx.out.box 4).trans rfl) hTx hTDx ((HTI2.out.more (Nat.le_succ i))).nd ((HTI2.out.more (Nat.le_succ i))).ok (by omega))
                  have HNDX := hide ((HTI2.out.more (Nat.le_succ i))).nd
                  have hslx : (srtT (TL)).length = (TL).length := (srtT_perm _).length_eq
                  have hHBx := HBx.out
                  have hszx := hHBx.size
                  clear hTx hTDx
                  go_wp2_with (first
                    | (go_at_call 18; refine CT1.out.mono ?_; rintro e8 wt ⟨v1, rfl, hrow1, hbt⟩; obtain ⟨A1, c1, rfl⟩ := own_sl hrow1; have HPt := hide (HPx.out.below hbt); have HRt := hide (HRx.out.below hbt); have HO1 := hide hrow1; have HBt := hide (hHBx.trans (hbt.mono hszx)); have hst := hbt.size; clear hrow1 hbt CT1)
                    | (go_at_call 19; refine (TalliesR_any rp (tA) (tc) w6.heap.size (TL) wt ((block_cell HRt.out.box 4).trans rfl) HRt.out.tal HNDX.out (by omega)).mono ?_; rintro e9 wu ⟨v2, rfl, hrow2, hbu⟩; obtain ⟨A2, c2, rfl⟩ := own_sl hrow2; have HPu := hide (HPt.out.below hbu); have HRu := hide (HRt.out.below hbu); have HO1u := hide (own_below HO1.out hbu); have HO2 := hide hrow2; have HBu := hide (HBt.out.trans (hbu.mono (by omega))); have hsu := hbu.size; clear hrow2 hbu)
                    | (go_at_call 17; refine (Equal_tl A1 _ c1 A2 c2 (srtT (TL)) wu (by unfold maxLen; omega) (sl_own (fun _ => rfl) hslx HO1u.out) (sl_own (fun _ => rfl) hslx HO2.out)).mono ?_; rintro e9 wv ⟨rfl, hbv⟩; have HPv := hide (HPu.out.below hbv); have HRv := hide (HRu.out.below hbv); have HBv := hide (HBu.out.trans (hbv.mono (by omega))); have hsv := hbv.size; clear hbv))
                  go_roundw
                  case rel => exact ⟨i + 1, g, V, W, TL, rates, rb2, m2, tn, lc, tc, kN, kcap, lA, tA, kA2, D2, by go_num, by omega, HPv.out, HRv.out, HGI2.out, (HTI2.out.more (Nat.le_succ i)), by omega, HRE.out, hkN, hkNc, HKR.out, HDJN.out, hg0, hg1, HBv.out, by omega⟩
                  case measure => simp [intOf]; omega
                · have hne : (rtErr rates == 0) = false := by simpa using hre
                  obtain ⟨y, hy⟩ : ∃ y, rtErr rates = y := ⟨_, rfl⟩
                  rw [hy] at CR1 CE1 hne hre
                  go_wp2_with (first
                    | (go_at_call 13; refine CR1.out.mono ?_; rintro e4 wa ⟨rfl, h3, _⟩; have hwa := h3 hre; have HPa := hide (HPk.out.below hwa); have HRa := hide (HRk.out.below hwa); have hsa := hwa.size; have HBa := hide (HBWK.out.trans (hwa.mono hsk)); have HNa := hide (block_below HNK.out hwa); have j4 : wa.cell? ⟨wr.heap.size, 4, none⟩ = some (.slice kA2 kN kcap) := (block_cell HNa.out 4).trans rfl; clear h3 hwa)
                    | (go_at_call 8; refine (CE1.out wa HBa.out).mono ?_; rintro e5 wb ⟨rfl, hwb⟩; have HRx := hide (HRa.out.below hwb); have HPx := hide (HPa.out.below hwb); have HBb := hide (HBa.out.trans (hwb.mono (by omega))); have hsb := hwb.size; clear hwb))
                  obtain ⟨Dx, hTx, hTDx⟩ := HPx.out.tal
                  have hlenx := ((HTI2.out.more (Nat.le_succ i))).len
                  have CT1 := hide (Tallies_any p tb tn Dx (TL) wb ((block_cell HPx.out.box 4).trans rfl) hTx hTDx ((HTI2.out.more (Nat.le_succ i))).nd ((HTI2.out.more (Nat.le_succ i))).ok (by omega))
                  have HNDX := hide ((HTI2.out.more (Nat.le_succ i))).nd
                  have hslx : (srtT (TL)).length = (TL).length := (srtT_perm _).length_eq
                  have hHBx := HBb.out
                  have hszx := hHBx.size
                  clear hTx hTDx
                  go_wp2_with (first
                    | (go_at_call 18; refine CT1.out.mono ?_; rintro e8 wt ⟨v1, rfl, hrow1, hbt⟩; obtain ⟨A1, c1, rfl⟩ := own_sl hrow1; have HPt := hide (HPx.out.below hbt); have HRt := hide (HRx.out.below hbt); have HO1 := hide hrow1; have HBt := hide (hHBx.trans (hbt.mono hszx)); have hst := hbt.size; clear hrow1 hbt CT1)
                    | (go_at_call 19; refine (TalliesR_any rp (tA) (tc) w6.heap.size (TL) wt ((block_cell HRt.out.box 4).trans rfl) HRt.out.tal HNDX.out (by omega)).mono ?_; rintro e9 wu ⟨v2, rfl, hrow2, hbu⟩; obtain ⟨A2, c2, rfl⟩ := own_sl hrow2; have HPu := hide (HPt.out.below hbu); have HRu := hide (HRt.out.below hbu); have HO1u := hide (own_below HO1.out hbu); have HO2 := hide hrow2; have HBu := hide (HBt.out.trans (hbu.mono (by omega))); have hsu := hbu.size; clear hrow2 hbu)
                    | (go_at_call 17; refine (Equal_tl A1 _ c1 A2 c2 (srtT (TL)) wu (by unfold maxLen; omega) (sl_own (fun _ => rfl) hslx HO1u.out) (sl_own (fun _ => rfl) hslx HO2.out)).mono ?_; rintro e9 wv ⟨rfl, hbv⟩; have HPv := hide (HPu.out.below hbv); have HRv := hide (HRu.out.below hbv); have HBv := hide (HBu.out.trans (hbv.mono (by omega))); have hsv := hbv.size; clear hbv))
                  go_roundw
                  case rel => exact ⟨i + 1, g, V, W, TL, RTc, rb', m', tn, lc, tc, rn2, rc2, lA, tA, rA2, RD', by go_num, by omega, HPv.out, HRv.out, HGI2.out, (HTI2.out.more (Nat.le_succ i)), by omega, HRT2.out, hrn2, hrc2, HR2.out, HDJ2.out, hg0, hg1, HBv.out, by omega⟩
                  case measure => simp [intOf]; omega
              · skip
                have hki : (i : Int) < (kk : Int) := by omega
                have hbk : Below wr.heap.size wr (wr.alloc (.cells #[.int .i64 what, .string kid, .string kkey, .int .i64 kat, .slice kA2 kN kcap] 35)) := (Below.refl _ _).alloc (Nat.le_refl _) _
                have HBK := hide hbk
                have HNK := hide (heap_alloc_new wr (.cells #[.int .i64 what, .string kid, .string kkey, .int .i64 kat, .slice kA2 kN kcap] 35))
                have HPk := hide (hP.below hbk)
                have HRk := hide (hRm.below hbk)
                have HBWK := hide (hBw.trans (hbk.mono (by have := hBw.size; omega)))
                have hszk : (wr.alloc (.cells #[.int .i64 what, .string kid, .string kkey, .int .i64 kat, .slice kA2 kN kcap] 35)).heap.size = wr.heap.size + 1 := by simp
                have hpw := lt_of_block hP.box
                have hrpw := lt_of_block hRm.box
                have HDJ2 := hide hdj
                have HGI2 := hide hgi
                have HTI2 := hide hti
                have HRT2 := hide hrt
                have HR2 := hide hr2
                have hBws := hBw.size
                clear hP hRm hBw hdj hgi hti hrt hr2 hbk
                have hsk := HBWK.out.size
                have CMo := hide (fun X => Moment_any kat X)
                have g0 : (wr.alloc (.cells #[.int .i64 what, .string kid, .string kkey, .int .i64 kat, .slice kA2 kN kcap] 35)).cell? ⟨rp, 2, none⟩ = some (.int .i64 g) := (block_cell HRk.out.box 2).trans rfl
                by_cases hE : momE kat g = 0
                · obtain ⟨hm1, hm2, hm3⟩ := momE_ok hE
                  rw [hm3] at CMo
                  have hnlt : ¬ kat < g := by omega
                  have CL := hide (Levels_ok p qn qcP lcP qAP lAP _ _ g kat Q V (wr.alloc (.cells #[.int .i64 what, .string kid, .string kkey, .int .i64 kat, .slice kA2 kN kcap] 35)) HPk.out.box (sl_own (fun _ => rfl) hql HPk.out.quo) (sl_own (fun _ => rfl) (by have := HGI2.out.len; omega) HPk.out.lev) HGI2.out.ok hQ50 hE HGI2.out.g_)
                  have HPO := hide (HGI2.out.pour hm1)
                  have hplen : (poured kat Q V).length = qn := by rw [poured_len HGI2.out.len]; exact hql
                  clear hE
                  go_wp2_with (first
                    | (go_at_call 14; refine CL.out.mono ?_; rintro e4 wa ⟨v4, rfl, hrow4, hwa⟩; obtain ⟨A4, c4, rfl⟩ := own_sl hrow4; have HO4 := hide hrow4; have HPa := hide (HPk.out.below hwa); have HRa := hide (HRk.out.below hwa); have hsa := hwa.size; have HBa := hide (HBWK.out.trans (hwa.mono hsk)); have HNa := hide (block_below HNK.out hwa); have j3 : wa.cell? ⟨wr.heap.size, 3, none⟩ = some (.int .i64 kat) := (block_cell HNa.out 3).trans rfl; have g1 : wa.cell? ⟨rp, 2, none⟩ = some (.int .i64 g) := (block_cell HRa.out.box 2).trans rfl; clear hrow4 hwa)
                    | (go_at_call 9; refine (CMo.out _).mono ?_; rintro e w' ⟨rfl, rfl⟩))
                  go_region
                  obtain ⟨wd, hwd⟩ : ∃ wd, wa.drew = wd := ⟨_, rfl⟩
                  have hbd : Below wa.heap.size wa wd := hwd ▸ below_drewN (Below.refl _ _) 1
                  have HPd := hide (HPa.out.below hbd)
                  have HRd := hide (HRa.out.below hbd)
                  have HOd := hide (own_below HO4.out hbd)
                  have hsd := hbd.size
                  have HBd := hide (HBa.out.trans (hbd.mono (by omega)))
                  have HNd := hide (block_below HNa.out hbd)
                  have i3 : wd.cell? ⟨wr.heap.size, 3, none⟩ = some (.int .i64 kat) := (block_cell HNd.out 3).trans rfl
                  have CLA := hide (LevelsAt_ok rp qn qc lc qA lA _ _ g kat Q W wd HRd.out.box ((HQ.out.below HBd.out).more (by omega)) (sl_own (fun _ => rfl) (by have := HGI2.out.wlen; omega) HRd.out.lev) HGI2.out.wok hQ50 (fun y hy => by have := HGI2.out.wg y hy; omega) hm2)
                  rw [HPO.out] at CLA
                  (try rw [hwd])
                  clear hbd hwd
                  go_wp2_with (first
                    | (go_at_call 16; refine CLA.out.mono ?_; rintro e5 wb ⟨v5, rfl, hrow5, hwb⟩; obtain ⟨A5, c5, rfl⟩ := own_sl hrow5; have HO5 := hide hrow5; have HOb := hide (own_below HOd.out hwb); have HPb := hide (HPd.out.below hwb); have HRb := hide (HRd.out.below hwb); have hsb := hwb.size; have HBb := hide (HBd.out.trans (hwb.mono (by omega))); clear hrow5 hwb)
                    | (go_at_call 15; refine (Equal_lv A4 qn c4 A5 c5 (poured kat Q V) wb (by unfold maxLen; omega) (sl_own (fun _ => rfl) hplen HOb.out) (sl_own (fun _ => rfl) hplen HO5.out)).mono ?_; rintro e6 wc ⟨rfl, hwc⟩; have HPx := hide (HPb.out.below hwc); have HRx := hide (HRb.out.below hwc); have HBc := hide (HBb.out.trans (hwc.mono (by omega))); have hsc := hwc.size; clear hwc))
                  obtain ⟨Dx, hTx, hTDx⟩ := HPx.out.tal
                  have hlenx := ((HTI2.out.more (Nat.le_succ i))).len
                  have CT1 := hide (Tallies_any p tb tn Dx (TL) wc ((block_cell HPx.out.box 4).trans rfl) hTx hTDx ((HTI2.out.more (Nat.le_succ i))).nd ((HTI2.out.more (Nat.le_succ i))).ok (by omega))
                  have HNDX := hide ((HTI2.out.more (Nat.le_succ i))).nd
                  have hslx : (srtT (TL)).length = (TL).length := (srtT_perm _).length_eq
                  have hHBx := HBc.out
                  have hszx := hHBx.size
                  clear hTx hTDx
                  go_wp2_with (first
                    | (go_at_call 18; refine CT1.out.mono ?_; rintro e8 wt ⟨v1, rfl, hrow1, hbt⟩; obtain ⟨A1, c1, rfl⟩ := own_sl hrow1; have HPt := hide (HPx.out.below hbt); have HRt := hide (HRx.out.below hbt); have HO1 := hide hrow1; have HBt := hide (hHBx.trans (hbt.mono hszx)); have hst := hbt.size; clear hrow1 hbt CT1)
                    | (go_at_call 19; refine (TalliesR_any rp (tA) (tc) w6.heap.size (TL) wt ((block_cell HRt.out.box 4).trans rfl) HRt.out.tal HNDX.out (by omega)).mono ?_; rintro e9 wu ⟨v2, rfl, hrow2, hbu⟩; obtain ⟨A2, c2, rfl⟩ := own_sl hrow2; have HPu := hide (HPt.out.below hbu); have HRu := hide (HRt.out.below hbu); have HO1u := hide (own_below HO1.out hbu); have HO2 := hide hrow2; have HBu := hide (HBt.out.trans (hbu.mono (by omega))); have hsu := hbu.size; clear hrow2 hbu)
                    | (go_at_call 17; refine (Equal_tl A1 _ c1 A2 c2 (srtT (TL)) wu (by unfold maxLen; omega) (sl_own (fun _ => rfl) hslx HO1u.out) (sl_own (fun _ => rfl) hslx HO2.out)).mono ?_; rintro e9 wv ⟨rfl, hbv⟩; have HPv := hide (HPu.out.below hbv); have HRv := hide (HRu.out.below hbv); have HBv := hide (HBu.out.trans (hbv.mono (by omega))); have hsv := hbv.size; clear hbv))
                  go_roundw
                  case rel => exact ⟨i + 1, g, V, W, TL, RTc, rb', m', tn, lc, tc, rn2, rc2, lA, tA, rA2, RD', by go_num, by omega, HPv.out, HRv.out, HGI2.out, (HTI2.out.more (Nat.le_succ i)), by omega, HRT2.out, hrn2, hrc2, HR2.out, HDJ2.out, hg0, hg1, HBv.out, by omega⟩
                  case measure => simp [intOf]; omega
                · have CLB := hide (Levels_bad p g kat (wr.alloc (.cells #[.int .i64 what, .string kid, .string kkey, .int .i64 kat, .slice kA2 kN kcap] 35)) ((block_cell HPk.out.box 3).trans rfl) hE)
                  cases ho : outsideB kat 0 3155759999
                  · have hlt9 : kat < g := by
                      have h5 := hE
                      rw [momE, ho, if_neg (by decide)] at h5
                      by_cases hc : kat < g
                      · exact hc
                      · rw [if_neg hc] at h5; exact absurd rfl h5
                    have hy : momE kat g = 5 := by rw [momE, ho, if_neg (by decide), if_pos hlt9]
                    rw [hy] at CLB
                    rw [ho] at CMo
                    clear hE hy ho
                    have j3 : (wr.alloc (.cells #[.int .i64 what, .string kid, .string kkey, .int .i64 kat, .slice kA2 kN kcap] 35)).cell? ⟨wr.heap.size, 3, none⟩ = some (.int .i64 kat) := (block_cell HNK.out 3).trans rfl
                    go_wp2_with (first | (go_at_call 14; refine (CLB.out).mono ?_; rintro e w' ⟨rfl, rfl⟩) | (go_at_call 9; refine (CMo.out _).mono ?_; rintro e w' ⟨rfl, rfl⟩))
                    go_region
                    obtain ⟨wd, hwd⟩ : ∃ wd, (wr.alloc (.cells #[.int .i64 what, .string kid, .string kkey, .int .i64 kat, .slice kA2 kN kcap] 35)).drew = wd := ⟨_, rfl⟩
                    have hbd : Below (wr.alloc (.cells #[.int .i64 what, .string kid, .string kkey, .int .i64 kat, .slice kA2 kN kcap] 35)).heap.size (wr.alloc (.cells #[.int .i64 what, .string kid, .string kkey, .int .i64 kat, .slice kA2 kN kcap] 35)) wd := hwd ▸ below_drewN (Below.refl _ _) 1
                    have HPx := hide (HPk.out.below hbd)
                    have HRx := hide (HRk.out.below hbd)
                    have hsd := hbd.size
                    have HBd := hide (HBWK.out.trans (hbd.mono hsk))
                    (try rw [hwd])
                    clear hbd hwd
                    obtain ⟨Dx, hTx, hTDx⟩ := HPx.out.tal
                    have hlenx := ((HTI2.out.more (Nat.le_succ i))).len
                    have CT1 := hide (Tallies_any p tb tn Dx (TL) wd ((block_cell HPx.out.box 4).trans rfl) hTx hTDx ((HTI2.out.more (Nat.le_succ i))).nd ((HTI2.out.more (Nat.le_succ i))).ok (by omega))
                    have HNDX := hide ((HTI2.out.more (Nat.le_succ i))).nd
                    have hslx : (srtT (TL)).length = (TL).length := (srtT_perm _).length_eq
                    have hHBx := HBd.out
                    have hszx := hHBx.size
                    clear hTx hTDx
                    go_wp2_with (first
                      | (go_at_call 18; refine CT1.out.mono ?_; rintro e8 wt ⟨v1, rfl, hrow1, hbt⟩; obtain ⟨A1, c1, rfl⟩ := own_sl hrow1; have HPt := hide (HPx.out.below hbt); have HRt := hide (HRx.out.below hbt); have HO1 := hide hrow1; have HBt := hide (hHBx.trans (hbt.mono hszx)); have hst := hbt.size; clear hrow1 hbt CT1)
                      | (go_at_call 19; refine (TalliesR_any rp (tA) (tc) w6.heap.size (TL) wt ((block_cell HRt.out.box 4).trans rfl) HRt.out.tal HNDX.out (by omega)).mono ?_; rintro e9 wu ⟨v2, rfl, hrow2, hbu⟩; obtain ⟨A2, c2, rfl⟩ := own_sl hrow2; have HPu := hide (HPt.out.below hbu); have HRu := hide (HRt.out.below hbu); have HO1u := hide (own_below HO1.out hbu); have HO2 := hide hrow2; have HBu := hide (HBt.out.trans (hbu.mono (by omega))); have hsu := hbu.size; clear hrow2 hbu)
                      | (go_at_call 17; refine (Equal_tl A1 _ c1 A2 c2 (srtT (TL)) wu (by unfold maxLen; omega) (sl_own (fun _ => rfl) hslx HO1u.out) (sl_own (fun _ => rfl) hslx HO2.out)).mono ?_; rintro e9 wv ⟨rfl, hbv⟩; have HPv := hide (HPu.out.below hbv); have HRv := hide (HRu.out.below hbv); have HBv := hide (HBu.out.trans (hbv.mono (by omega))); have hsv := hbv.size; clear hbv))
                    go_roundw
                    case rel => exact ⟨i + 1, g, V, W, TL, RTc, rb', m', tn, lc, tc, rn2, rc2, lA, tA, rA2, RD', by go_num, by omega, HPv.out, HRv.out, HGI2.out, (HTI2.out.more (Nat.le_succ i)), by omega, HRT2.out, hrn2, hrc2, HR2.out, HDJ2.out, hg0, hg1, HBv.out, by omega⟩
                    case measure => simp [intOf]; omega
                  · have hy : momE kat g = 2 := by rw [momE, ho, if_pos rfl]
                    rw [hy] at CLB
                    rw [ho] at CMo
                    clear hE hy ho
                    go_wp2_with (first | (go_at_call 14; refine (CLB.out).mono ?_; rintro e w' ⟨rfl, rfl⟩) | (go_at_call 9; refine (CMo.out _).mono ?_; rintro e w' ⟨rfl, rfl⟩))
                    obtain ⟨Dx, hTx, hTDx⟩ := HPk.out.tal
                    have hlenx := ((HTI2.out.more (Nat.le_succ i))).len
                    have CT1 := hide (Tallies_any p tb tn Dx (TL) (wr.alloc (.cells #[.int .i64 what, .string kid, .string kkey, .int .i64 kat, .slice kA2 kN kcap] 35)) ((block_cell HPk.out.box 4).trans rfl) hTx hTDx ((HTI2.out.more (Nat.le_succ i))).nd ((HTI2.out.more (Nat.le_succ i))).ok (by omega))
                    have HNDX := hide ((HTI2.out.more (Nat.le_succ i))).nd
                    have hslx : (srtT (TL)).length = (TL).length := (srtT_perm _).length_eq
                    have hHBx := HBWK.out
                    have hszx := hHBx.size
                    clear hTx hTDx
                    go_wp2_with (first
                      | (go_at_call 18; refine CT1.out.mono ?_; rintro e8 wt ⟨v1, rfl, hrow1, hbt⟩; obtain ⟨A1, c1, rfl⟩ := own_sl hrow1; have HPt := hide (HPk.out.below hbt); have HRt := hide (HRk.out.below hbt); have HO1 := hide hrow1; have HBt := hide (hHBx.trans (hbt.mono hszx)); have hst := hbt.size; clear hrow1 hbt CT1)
                      | (go_at_call 19; refine (TalliesR_any rp (tA) (tc) w6.heap.size (TL) wt ((block_cell HRt.out.box 4).trans rfl) HRt.out.tal HNDX.out (by omega)).mono ?_; rintro e9 wu ⟨v2, rfl, hrow2, hbu⟩; obtain ⟨A2, c2, rfl⟩ := own_sl hrow2; have HPu := hide (HPt.out.below hbu); have HRu := hide (HRt.out.below hbu); have HO1u := hide (own_below HO1.out hbu); have HO2 := hide hrow2; have HBu := hide (HBt.out.trans (hbu.mono (by omega))); have hsu := hbu.size; clear hrow2 hbu)
                      | (go_at_call 17; refine (Equal_tl A1 _ c1 A2 c2 (srtT (TL)) wu (by unfold maxLen; omega) (sl_own (fun _ => rfl) hslx HO1u.out) (sl_own (fun _ => rfl) hslx HO2.out)).mono ?_; rintro e9 wv ⟨rfl, hbv⟩; have HPv := hide (HPu.out.below hbv); have HRv := hide (HRu.out.below hbv); have HBv := hide (HBu.out.trans (hbv.mono (by omega))); have hsv := hbv.size; clear hbv))
                    go_roundw
                    case rel => exact ⟨i + 1, g, V, W, TL, RTc, rb', m', tn, lc, tc, rn2, rc2, lA, tA, rA2, RD', by go_num, by omega, HPv.out, HRv.out, HGI2.out, (HTI2.out.more (Nat.le_succ i)), by omega, HRT2.out, hrn2, hrc2, HR2.out, HDJ2.out, hg0, hg1, HBv.out, by omega⟩
                    case measure => simp [intOf]; omega
          · have hki : ¬ (i : Int) < (kk : Int) := by omega
            go_wp2_with (fail)
            go_ret
            exact ⟨rfl, hBw⟩
    · have hnew : newE Q RT at_ = rtErr RT := by rw [newE, if_pos h1, if_neg h2]
      have hE : newE Q RT at_ ≠ 0 := by rw [hnew]; exact h2
      have hne : (rtErr RT == 0) = false := by simpa using h2
      have HN := hide (NewGate_bad qn qc rn rc qA rA Q RT at_ w hqn hq hqf hrn hr hrf hE)
      rw [hnew] at HN
      rw [h1] at CQE CQC
      clear hq hr hE
      go_enter Tryd.func3, Tryd.ntmps3
      go_wp2_with (first | (go_at_call 5; refine HN.out.mono ?_; rintro e w3 ⟨rfl, hw3⟩; have HB3 := hide hw3; have hz3 := hw3.size; clear hw3) | (go_at_call 6; refine (CQE.out _ HB3.out).mono ?_; rintro e w4 ⟨rfl, hw4⟩; have HS4 := hide hw4; have HB4 := hide (HB3.out.trans (hw4.mono hz3)); have hz4 := hw4.size; clear hw4) | (go_at_call 7; refine (CQC.out _ HB4.out).mono ?_; rintro e w5 ⟨rfl, hw5⟩; have HS5 := hide hw5; have HB5 := hide (HB4.out.trans (hw5.mono (by omega))); have hz5 := hw5.size; clear hw5) | (go_at_call 8; refine (CRE.out _ HB5.out).mono ?_; rintro e w6 ⟨rfl, hw6⟩; have HS6 := hide hw6; have HB6 := hide (HB5.out.trans (hw6.mono (by omega))); have hz6 := hw6.size; clear hw6) | (go_at_call 9; refine (CM.out _).mono ?_; rintro e w' ⟨rfl, rfl⟩))
      go_ret
      exact ⟨rfl, HB6.out⟩
  · have hnew : newE Q RT at_ = qtErr Q := by rw [newE, if_neg h1]
    have hE : newE Q RT at_ ≠ 0 := by rw [hnew]; exact h1
    have hne : (qtErr Q == 0) = false := by simpa using h1
    have HN := hide (NewGate_bad qn qc rn rc qA rA Q RT at_ w hqn hq hqf hrn hr hrf hE)
    rw [hnew] at HN
    clear hq hr hE
    go_enter Tryd.func3, Tryd.ntmps3
    go_wp2_with (first | (go_at_call 5; refine HN.out.mono ?_; rintro e w3 ⟨rfl, hw3⟩; have HB3 := hide hw3; have hz3 := hw3.size; clear hw3) | (go_at_call 6; refine (CQE.out _ HB3.out).mono ?_; rintro e w4 ⟨rfl, hw4⟩; have HS4 := hide hw4; have HB4 := hide (HB3.out.trans (hw4.mono hz3)); have hz4 := hw4.size; clear hw4) | (go_at_call 7; refine (CQC.out _ HB4.out).mono ?_; rintro e w5 ⟨rfl, hw5⟩; have HS5 := hide hw5; have HB5 := hide (HB4.out.trans (hw5.mono (by omega))); have hz5 := hw5.size; clear hw5) | (go_at_call 8; refine (CRE.out _ HB5.out).mono ?_; rintro e w6 ⟨rfl, hw6⟩; have HS6 := hide hw6; have HB6 := hide (HB5.out.trans (hw6.mono (by omega))); have hz6 := hw6.size; clear hw6) | (go_at_call 9; refine (CM.out _).mono ?_; rintro e w' ⟨rfl, rfl⟩))
    go_ret
    exact ⟨rfl, HB5.out⟩
end Go.Proofs.YtkoijhecahebgaaDoor

/- The law RateGates: its arguments opened. -/
namespace Go.Proofs.YtkoijhecahebgaaDoor
open Go.RowKit Go.ChangeShapes Go.WideShapes Go.Joins
set_option linter.unusedVariables false
namespace rateGates
set_option maxRecDepth 100000 in
theorem walk {H : Type} {enc : TypeId × Value → H} {d0 d1 d3 : DataW H} {p0 p1 p3 : List MemPlace} {base : Nat} {W : World}
    (v0 : Value) (k0 : DataW.Trod enc Tryd.prog W 0 (fun _ => true) true 22 v0 d0 p0) (ok0 : Value.okWide Tryd.prog W .any base 22 v0)
    (z0 : ∀ el sp, d0 = .slice el sp → (el.length + sp.length) * Tryd.prog.bytesOf 58 ≤ reachBytes)
    (v1 : Value) (k1 : DataW.Trod enc Tryd.prog W 0 (fun _ => true) true 23 v1 d1 p1) (ok1 : Value.okWide Tryd.prog W .any base 23 v1)
    (z1 : ∀ el sp, d1 = .slice el sp → (el.length + sp.length) * Tryd.prog.bytesOf 73 ≤ reachBytes)
    (a2 : Int) (w2 : (Lit.int .i64 a2).wf = true)
    (v3 : Value) (k3 : DataW.Trod enc Tryd.prog W 0 (fun _ => true) true 24 v3 d3 p3) (ok3 : Value.okWide Tryd.prog W .any base 24 v3)
    (z3 : ∀ el sp, d3 = .slice el sp → (el.length + sp.length) * Tryd.prog.bytesOf 35 ≤ reachBytes) :
    Calls Tryd.prog 3 #[v0, v1, .int .i64 a2, v3] W fun e w' => e = .returned (.bool true) ∧ Below W.heap.size W w' := by
  obtain ⟨A0, n0, c0, l0, rfl, h0, hnc0, hcm0, hf0⟩ := open_quotas ok0 k0
  obtain ⟨A1, n1, c1, l1, rfl, h1, hnc1, hcm1, hf1⟩ := open_rates ok1 k1
  obtain ⟨A3, n3, c3, l3, rfl, h3, hnc3, hcm3, hf3⟩ := open_knocks ok3 k3
  exact RateGates_any A0 A1 A3 n0 c0 n1 c1 n3 c3 l0 l1 l3 a2 W (Nat.le_trans hnc0 hcm0) hnc0 h0 hf0 (Nat.le_trans hnc1 hcm1) hnc1 h1 hf1 (Nat.le_trans hnc3 hcm3) hnc3 h3 hf3
end rateGates
end Go.Proofs.YtkoijhecahebgaaDoor
