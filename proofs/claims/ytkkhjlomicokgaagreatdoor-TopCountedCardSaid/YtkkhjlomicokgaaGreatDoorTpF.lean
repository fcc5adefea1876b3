/- GtAskP, GtAsk, GtAskL, GtAskK: texts of one's own, in one file. -/
import Derived.Test.YtkkhjlomicokgaaGreatDoorGtRat
import Derived.Test.YtkkhjlomicokgaaGreatDoorTpE
import Derived.Test.YtkkhjlomicokgaaGreatDoorTpB
/- What the tally's step wants: m[k]++ over the map of tallies. -/
namespace Go.Proofs.YtkkhjlomicokgaaGreatDoor
open Go.RowKit Go.Maps
set_option linter.unusedVariables false
set_option linter.unusedSimpArgs false
theorem zero_intM (w : World) : (zeroValue 3).run Tryz.prog w = .ok (.int .i64 0) w := by kernel_rfl
theorem tally_run {w : World} {tb tn : Nat} {D : DataW Unit} {TL : List Tl} (h : w.ownsMap Tryz.prog 98 (plainElem Tryz.prog 3) tb tn D) (hT : MapT D TL) (k s : ByteArray) (y : Int) (ht : TagOk (k, y, s)) (hn : tn < 1000000) (c : Int) (hc : getT (k, y, s) TL = c) (hc0 : 0 ≤ c) (hc1 : c ≤ 1000000) :
    ∃ (v0 : Value) (st : Int) (w1 w3 : World) (D' : DataW Unit), (Instr.mapEntry 68 (.map (some tb)) (.agg #[.string k, .int .i64 y, .string s])).run Tryz.prog w = .ok (.tuple #[v0, .int .i64 st]) w1 ∧ w.grownBy w1 (some tb) ∧
      (Instr.lookup 68 (.map (some tb)) (.agg #[.string k, .int .i64 y, .string s]) false).run Tryz.prog w = .ok (.int .i64 c) w ∧
      (Instr.lookup 68 (.map (some tb)) (.agg #[.string k, .int .i64 y, .string s]) false).run Tryz.prog w1 = .ok (.int .i64 c) w1 ∧
      (Instr.entryStore 68 (.map (some tb)) (.int .i64 st) (.int .i64 (c + 1))).run Tryz.prog w1 = .ok () w3 ∧ w3.ownsMap Tryz.prog 98 (plainElem Tryz.prog 3) tb (tn + 1) D' ∧ MapT D' (incT (k, y, s) TL) ∧ w1.grownBy w3 (some tb) := by
  have hkey := key_rs ht.k ht.n ht.y
  have hw : (Lit.int .i64 (c + 1)).wf = true := wf_of (by omega) (by omega)
  have hz0 : plainElem (H := Unit) Tryz.prog 3 (.int .i64 0) = some (.lit (.int .i64 0), []) := plainElem_int Tryz.underlying3 (by decide)
  obtain ⟨v0, st, w1, D1, h1, h2, h3, h4, h5⟩ := ownsMap_entry h law_rs Tryz.underlying68 (by unfold maxLen; omega) (zero_intM w) hz0 hkey hT.map
  obtain ⟨w3, h6, h7, h8⟩ := h5 w1 (.int .i64 (c + 1)) _ _ rfl (plainElem_int Tryz.underlying3 hw)
  obtain ⟨c1, l1, l2, _⟩ := h.lookup_int law_rs Tryz.underlying68 Tryz.underlying3 (zero_intM w) hkey
  obtain ⟨c2, m1, m2, _⟩ := h3.lookup_int law_rs Tryz.underlying68 Tryz.underlying3 (zero_intM w1) hkey
  have e0 := hT.at_ (k, y, s) ht
  rw [hc] at e0
  have e1 : c1 = c := by
    have := l2.symm.trans e0
    simpa using this
  have e2 : c2 = c := by
    have := m2.symm.trans (h4.trans e0)
    simpa using this
  subst e1
  subst e2
  exact ⟨v0, st, w1, w3, _, h1, h2, l1, m1, h6, h7, hT.inc ht (by rw [hc]), h8⟩
theorem tag_ok {k s : ByteArray} {y : Int} (hk : k.size ≤ maxLen) (hs : s.size ≤ maxLen) (h0 : 0 ≤ y) (h1 : y ≤ 10) : TagOk (k, y, s) := ⟨hk, hs, wf_of (y := y) (by omega) (by omega)⟩
theorem sampled_pos {s : ByteArray} {r : Int} (h : sampledB s r = true) : 1 ≤ r := by
  have h0 := fnvS_range s
  simp [sampledB] at h
  have : 0 ≤ fnvS s / 4294967296 := by omega
  omega
/-- What a gate's counting makes of the world. -/
structure Asked (w w' : World) (B p n qc lc rb tb tn : Nat) (qA lA : Option Addr) (t : Int) (V : List Lv) (TL : List Tl) : Prop where
  box : w'.heap[p]? = some (.cells #[.slice qA n qc, .slice lA n lc, .map (some rb), .int .i64 t, .map (some tb)] 72 (0, 0))
  lev : w'.ownsRow B 76 3 (.slice lA n lc) n (V.flatMap Lv.cs)
  tal : ∃ D, w'.ownsMap Tryz.prog 98 (plainElem Tryz.prog 3) tb (tn + 1) D ∧ MapT D TL
  keep : Keep B (fun k => k = p ∨ k = tb ∨ (Value.slice lA n lc).ownBlock = some k) w w'
theorem Asked.drew {w w' : World} {B p n qc lc rb tb tn : Nat} {qA lA : Option Addr} {t : Int} {V : List Lv} {TL : List Tl} (h : Asked w w' B p n qc lc rb tb tn qA lA t V TL) : Asked w w'.drew B p n qc lc rb tb tn qA lA t V TL :=
  ⟨h.box, h.lev, h.tal, ⟨below_drewN h.keep.be 1, h.keep.keep⟩⟩
theorem asked_end {w wa w1 w3 : World} {B p n qc lc rb tb tn : Nat} {qA lA : Option Addr} {t : Int} {V : List Lv} {TL : List Tl} {D : DataW Unit}
    (HA : wa.heap[p]? = some (.cells #[.slice qA n qc, .slice lA n lc, .map (some rb), .int .i64 t, .map (some tb)] 72 (0, 0))) (HV : wa.ownsRow B 76 3 (.slice lA n lc) n (V.flatMap Lv.cs))
    (HK : Keep B (fun k => k = p ∨ k = tb ∨ (Value.slice lA n lc).ownBlock = some k) w wa) (hlt : tb < wa.heap.size) (MG : wa.drew.grownBy w1 (some tb)) (MG3 : w1.grownBy w3 (some tb)) (MO : w3.ownsMap Tryz.prog 98 (plainElem Tryz.prog 3) tb (tn + 1) D) (MM : MapT D TL)
    (hpt : tb ≠ p) (hltb : ∀ k, (Value.slice lA n lc).ownBlock = some k → k ≠ tb) (hBt : B ≤ tb) : Asked w w3 B p n qc lc rb tb tn qA lA t V TL := by
  have hk : ∀ k o, k ≠ tb → wa.heap[k]? = some o → w3.heap[k]? = some o := fun k o ne h => by
    have h1 : w1.heap[k]? = some o := (MG.block k (lt_of_block h) (fun e => ne (Option.some.inj e))).trans h
    exact (MG3.block k (lt_of_block h1) (fun e => ne (Option.some.inj e))).trans h1
  have b1 : Below B wa w1 := (below_drewN (Below.refl B wa) 1).grown MG (by show B ≤ wa.heap.size; omega) (fun j hj => by cases hj; exact hBt)
  have hs := b1.size
  refine ⟨hk p _ hpt.symm HA, own_stay HV (fun k o e ho => hk k o (hltb k e) ho), ⟨D, MO, MM⟩, HK.trans ⟨b1.grown MG3 (by omega) (fun j hj => by cases hj; exact hBt), fun k o e ne => hk k o (fun e2 => ne (.inr (.inl e2))) e⟩⟩
end Go.Proofs.YtkkhjlomicokgaaGreatDoor

/- The ways of Ask. -/
namespace Go.Proofs.YtkkhjlomicokgaaGreatDoor
open Go.RowKit Go.Maps
set_option linter.unusedVariables false
set_option linter.unusedSimpArgs false
/-- The error of a question. -/
def askE (id key : ByteArray) (t g : Int) : Int := if 200 < id.size then 4 else if keyErr key = 0 then momE t g else keyErr key
set_option maxRecDepth 100000 in
set_option maxHeartbeats 4000000 in
theorem Ask_err (p : Nat) (g t : Int) (id key : ByteArray) (w : World) (hid : id.size ≤ maxLen) (hkl : key.size ≤ maxLen) (h3 : w.cell? ⟨p, 3, none⟩ = some (.int .i64 g)) (he : askE id key t g ≠ 0) :
    Calls Tryz.prog 8 #[.pointer (some ⟨p, 0, none⟩), .string id, .string key, .int .i64 t] w fun e w' => e = .returned (.tuple #[.int .i64 0, .string ⟨#[]⟩, .int .i64 0, .int .i64 (askE id key t g)]) ∧ w = w' := by
  have CK := hide (checkKey_any key w hkl)
  have CM := hide (checkMoment_any p t g w h3)
  by_cases h1 : 200 < id.size
  · have hl : (200 : Int) < (id.size : Int) := by omega
    have E := hide (show askE id key t g = 4 by rw [askE, if_pos h1])
    go_enter Tryz.func8, Tryz.ntmps8
    go_wp2_with (first | (go_at_call 27; refine (CK.out).mono ?_; rintro e w' ⟨rfl, rfl⟩) | (go_at_call 28; refine (CM.out).mono ?_; rintro e w' ⟨rfl, rfl⟩))
    refine bodyPost_ret (by simp [results, Tryz.results8, go_sem]; try rfl) rfl ?_
    exact ⟨by rw [E.out], rfl⟩
  · have hl : ¬ (200 : Int) < (id.size : Int) := by omega
    by_cases h2 : keyErr key = 0
    · rw [h2] at CK
      have E := hide (show askE id key t g = momE t g by rw [askE, if_neg h1, h2]; rfl)
      have hm : momE t g ≠ 0 := by rw [← E.out]; exact he
      have hne : (momE t g == 0) = false := by simpa using hm
      go_enter Tryz.func8, Tryz.ntmps8
      go_wp2_with (first | (go_at_call 27; refine (CK.out).mono ?_; rintro e w' ⟨rfl, rfl⟩) | (go_at_call 28; refine (CM.out).mono ?_; rintro e w' ⟨rfl, rfl⟩))
      refine bodyPost_ret (by simp [results, Tryz.results8, go_sem]; try rfl) rfl ?_
      exact ⟨by rw [E.out], rfl⟩
    · have E := hide (show askE id key t g = keyErr key by rw [askE, if_neg h1, if_neg h2])
      have hne : (keyErr key == 0) = false := by simpa using h2
      go_enter Tryz.func8, Tryz.ntmps8
      go_wp2_with (first | (go_at_call 27; refine (CK.out).mono ?_; rintro e w' ⟨rfl, rfl⟩) | (go_at_call 28; refine (CM.out).mono ?_; rintro e w' ⟨rfl, rfl⟩))
      refine bodyPost_ret (by simp [results, Tryz.results8, go_sem]; try rfl) rfl ?_
      exact ⟨by rw [E.out], rfl⟩
set_option maxRecDepth 100000 in
set_option maxHeartbeats 8000000 in
theorem Ask_smp (p n qc lc B rb rn tb tn : Nat) (qA lA : Option Addr) (g t : Int) (id key : ByteArray) (Q : List Qt) (V : List Lv) (RT : List RtK) (TL : List Tl) (RD TD : DataW Unit) (w : World) (hn : Q.length = n) (hV : V.length = n)
    (hbx : w.heap[p]? = some (.cells #[.slice qA n qc, .slice lA n lc, .map (some rb), .int .i64 g, .map (some tb)] 72 (0, 0)))
    (hq : Sl w w.heap.size Qt.cs 5 qA n Q) (hqp : 0 < n → ∀ b o, qA = some ⟨b, o, none⟩ → b ≠ p ∧ b ≠ tb) (hv : w.ownsRow B 76 3 (.slice lA n lc) n (V.flatMap Lv.cs)) (hpl : ∀ k, (Value.slice lA n lc).ownBlock = some k → k ≠ p ∧ (0 < n → ∀ b o, qA = some ⟨b, o, none⟩ → b ≠ k))
    (hok : LvsOk Q V) (hn5 : n ≤ 50) (hBz : B ≤ w.heap.size) (hBp : B ≤ p) (hBt : B ≤ tb) (hg : ∀ x ∈ V, x.t ≤ g) (hnm : ∀ q ∈ Q, q.name.size ≤ maxLen)
    (hR : w.ownsMap Tryz.prog 9 (plainElem Tryz.prog 3) rb rn RD) (hRD : MapR RD RT) (hRT : 0 ≤ getR key RT ∧ getR key RT ≤ 1000000) (hT : w.ownsMap Tryz.prog 98 (plainElem Tryz.prog 3) tb tn TD) (hTD : MapT TD TL) (htn : tn < 1000000) (hTc : ∀ x, 0 ≤ getT x TL ∧ getT x TL ≤ 1000000)
    (hid : id.size ≤ 200) (hke : keyErr key = 0) (hkl : key.size ≤ maxLen) (hE : momE t g = 0)
    (hh : hasR key RT = true) (hsm : sampledB id (getR key RT) = false) :
    Calls Tryz.prog 8 #[.pointer (some ⟨p, 0, none⟩), .string id, .string key, .int .i64 t] w fun e w' => e = .returned (.tuple #[.int .i64 1, .string ⟨#[]⟩, .int .i64 0, .int .i64 0]) ∧
      Asked w w' B p n qc lc rb tb tn qA lA t V (incT (key, 1, ⟨#[]⟩) TL) := by
  subst hn
  have hid1 : ¬ (200 : Int) < (id.size : Int) := by omega
  have hidm : id.size ≤ maxLen := by unfold maxLen; omega
  have hp := lt_of_block hbx
  have CK := hide (checkKey_any key w hkl)
  rw [hke] at CK
  have CM := hide (checkMoment_any p t g w ((block_cell hbx 3).trans rfl))
  rw [hE] at CM
  have HBX := hide hbx
  have c3 : w.cell? ⟨p, 3, none⟩ = some (.int .i64 g) := (block_cell hbx 3).trans rfl
  have f3 : w.frozen? ⟨p, 3, none⟩ = false := block_free hbx 3
  have c2 : w.cell? ⟨p, 2, none⟩ = some (.map (some rb)) := (block_cell hbx 2).trans rfl
  have HA := hide (show (w.setCell ⟨p, 3, none⟩ (.int .i64 t)).heap[p]? = some (.cells #[.slice qA Q.length qc, .slice lA Q.length lc, .map (some rb), .int .i64 t, .map (some tb)] 72 (0, 0)) from (block_set hbx _).trans rfl)
  obtain ⟨tes, tck, htb, _⟩ := (show _ from hT)
  obtain ⟨res, rck, hrb, _⟩ := (show _ from hR)
  have hpt : tb ≠ p := fun e => by rw [e, hbx] at htb; cases htb
  have hpr : rb ≠ p := fun e => by rw [e, hbx] at hrb; cases hrb
  have hltb : ∀ k, (Value.slice lA Q.length lc).ownBlock = some k → k ≠ tb := fun k e e2 => by
    obtain ⟨g1, cap, cur, h1, _, h3, _⟩ := (hv.2.resolve_left (fun h => by rw [h.1] at e; cases e))
    rw [h1] at e
    have e3 : g1 = k := Option.some.inj e
    rw [e3, e2, htb] at h3; cases h3
  have HR := hide (ownsMap_block (w' := w.setCell ⟨p, 3, none⟩ (.int .i64 t)) hR (heap_setCell_other w _ rb _ hpr))
  have HT := hide (ownsMap_block (w' := w.setCell ⟨p, 3, none⟩ (.int .i64 t)) hT (heap_setCell_other w _ tb _ hpt))
  have HV := hide (own_stay (w' := w.setCell ⟨p, 3, none⟩ (.int .i64 t)) hv (fun k o e ho => block_set_other ho _ _ (hpl k e).1))
  have HQ := hide (Sl.stay (U := fun k => k ≠ p) (W' := w.setCell ⟨p, 3, none⟩ (.int .i64 t)) hq (fun k o ho u => block_set_other ho _ _ u) (fun h0 b o e => (hqp h0 b o e).1))
  have HK1 := hide (Keep.set (B := B) (c := p) (P := fun k => k = p ∨ k = tb ∨ (Value.slice lA Q.length lc).ownBlock = some k) w 3 (.int .i64 t) hBp (.inl rfl))
  have hg2 : g ≤ t ∧ t ≤ 3155759999 := by
    unfold momE at hE
    split at hE
    · cases hE
    · rename_i ho
      split at hE
      · cases hE
      · simp [outsideB] at ho; omega
  obtain ⟨rt, hrt⟩ : ∃ rt, getR key RT = rt := ⟨_, rfl⟩
  rw [hrt] at hRT hsm
  have hat := hRD.at_ key
  rw [hrt] at hat
  have hhas := hRD.has key
  have HAT := hide hat
  have hkb := key_of key hkl
  clear hbx hR hT hv hq hat hke hE htb hrb
  rw [hh] at hhas
  have CS := hide (fun W => sampled_any id rt W hidm hRT.1 hRT.2)
  rw [hsm] at CS
  obtain ⟨cn, hcn⟩ : ∃ cn, getT (key, 1, ⟨#[]⟩) TL = cn := ⟨_, rfl⟩
  have hcb := hTc (key, 1, ⟨#[]⟩)
  rw [hcn] at hcb
  obtain ⟨v0, st, w1, w3, D', MR, MG, ML, ML1, MS, MO, MM, MG3⟩ := tally_run HT.out.drew hTD key ⟨#[]⟩ 1 (tag_ok hkl (by decide) (by decide) (by decide)) htn cn hcn hcb.1 hcb.2
  have k4 : (w.setCell ⟨p, 3, none⟩ (.int .i64 t)).drew.cell? ⟨p, 4, none⟩ = some (.map (some tb)) := (block_cell HA.out 4).trans rfl
  have HA1 := hide ((MG.block p (lt_of_block HA.out) (fun e => hpt (Option.some.inj e).symm)).trans HA.out)
  have k5 : w1.cell? ⟨p, 4, none⟩ = some (.map (some tb)) := (block_cell HA1.out 4).trans rfl
  go_enter Tryz.func8, Tryz.ntmps8
  go_wp2_with (first | (go_at_call 27; refine (CK.out).mono ?_; rintro e w' ⟨rfl, rfl⟩) | (go_at_call 28; refine (CM.out).mono ?_; rintro e w' ⟨rfl, rfl⟩) | (go_at_call 29; refine (CS.out _).mono ?_; rintro e w' ⟨rfl, rfl⟩) | (at_lookup; refine wpList_lookup_own_ok_int _ rfl _ _ 70 rfl 9 3 .i64 law_str Tryz.underlying70 Tryz.underlying3 (zero_intM _) rb rn RD rfl HR.out (.string key) _ rfl hkb ?_; intro cc hcc _; obtain rfl : cc = rt := (by have h9 := hcc.symm.trans HAT.out; simpa using h9); clear hcc; rw [hhas]))
  refine wp_region_chain (fun W' => W'.cell? ⟨p, 4, none⟩ = some (.map (some tb)) ∧ (Instr.lookup 68 (.map (some tb)) (.agg #[.string key, .int .i64 1, .string ⟨#[]⟩]) false).run Tryz.prog W' = .ok (.int .i64 cn) W') 10 (by as_aux_lemma => kernel_rfl) (N := 11) (by as_aux_lemma => kernel_rfl) ?_; intro hsh
  have HS : (fun W' => W'.cell? ⟨p, 4, none⟩ = some (.map (some tb)) ∧ (Instr.lookup 68 (.map (some tb)) (.agg #[.string key, .int .i64 1, .string ⟨#[]⟩]) false).run Tryz.prog W' = .ok (.int .i64 cn) W') (w.setCell ⟨p, 3, none⟩ (.int .i64 t)).drew := ⟨k4, ML⟩
  refine wpAnyC_take0 (i := 0) (k := 10) (v := ?_) (d := some 52) rfl (by rfl) (by as_aux_lemma => kernel_rfl) (by as_aux_lemma => kernel_rfl) (by as_aux_lemma => kernel_rfl) hsh (by decide) (by intro _ _ _ h; exact h) (by assumption) (Or.inl ⟨by rfl, ?hy⟩) ?_; (case hy => (intro W _; go_simp; (try with_reducible rfl))); clear hsh; intro hsh
  refine wpAnyC_take0 (i := 1) (k := 10) (v := ?_) (d := some 53) rfl (by rfl) (by as_aux_lemma => kernel_rfl) (by as_aux_lemma => kernel_rfl) (by as_aux_lemma => kernel_rfl) hsh (by decide) (by intro _ _ _ h; exact h) (by assumption) (Or.inl ⟨by rfl, ?hy⟩) ?_; (case hy => (intro W _; go_simp; (try with_reducible rfl))); clear hsh; intro hsh
  refine wpAnyC_take0 (i := 2) (k := 10) (v := ?_) (d := some 54) rfl (by rfl) (by as_aux_lemma => kernel_rfl) (by as_aux_lemma => kernel_rfl) (by as_aux_lemma => kernel_rfl) hsh (by decide) (by intro _ _ _ h; exact h) (by assumption) (Or.inl ⟨by rfl, ?hy⟩) ?_; (case hy => (intro W _; go_simp; (try with_reducible rfl))); clear hsh; intro hsh
  refine wpAnyC_take (i := 3) (k := 10) (f := 40) (v := ?_) (d := some 55) rfl (by rfl) (by as_aux_lemma => kernel_rfl) (by as_aux_lemma => kernel_rfl) (by as_aux_lemma => kernel_rfl) hsh (by decide) (by as_aux_lemma => kernel_rfl) (by intro _ _ _ h; exact h) (by assumption) (Or.inl ⟨by rfl, ?hy⟩) ?_; (case hy => (rintro W ⟨b0, b1⟩; go_simp; (try with_reducible rfl))); clear hsh; intro hsh
  refine wpAnyC_take0 (i := 4) (k := 10) (v := ?_) (d := some 56) rfl (by rfl) (by as_aux_lemma => kernel_rfl) (by as_aux_lemma => kernel_rfl) (by as_aux_lemma => kernel_rfl) hsh (by decide) (by intro _ _ _ h; exact h) (by assumption) (Or.inl ⟨by rfl, ?hy⟩) ?_; (case hy => (intro W _; go_simp; (try with_reducible rfl))); clear hsh; intro hsh
  refine wpAnyC_take0 (i := 5) (k := 10) (v := ?_) (d := some 57) rfl (by rfl) (by as_aux_lemma => kernel_rfl) (by as_aux_lemma => kernel_rfl) (by as_aux_lemma => kernel_rfl) hsh (by decide) (by intro _ _ _ h; exact h) (by assumption) (Or.inl ⟨by rfl, ?hy⟩) ?_; (case hy => (intro W _; go_simp; (try with_reducible rfl))); clear hsh; intro hsh
  refine wpAnyC_take (i := 6) (k := 10) (f := 40) (v := ?_) (d := some 58) rfl (by rfl) (by as_aux_lemma => kernel_rfl) (by as_aux_lemma => kernel_rfl) (by as_aux_lemma => kernel_rfl) hsh (by decide) (by as_aux_lemma => kernel_rfl) (by intro _ _ _ h; exact h) (by assumption) (Or.inl ⟨by rfl, ?hy⟩) ?_; (case hy => (rintro W ⟨b0, b1⟩; go_simp; (try with_reducible rfl))); clear hsh; intro hsh
  refine wpAnyC_take0 (i := 7) (k := 10) (v := ?_) (d := some 59) rfl (by rfl) (by as_aux_lemma => kernel_rfl) (by as_aux_lemma => kernel_rfl) (by as_aux_lemma => kernel_rfl) hsh (by decide) (by intro _ _ _ h; exact h) (by assumption) (Or.inl ⟨by rfl, ?hy⟩) ?_; (case hy => (intro W _; go_simp; (try with_reducible rfl))); clear hsh; intro hsh
  refine wpAnyC_ready (rs := [8]) (by as_aux_lemma => kernel_rfl) (by simp) ?_; refine AllC.cons (i := 8) rfl (by as_aux_lemma => kernel_rfl) hsh (fun K hK => ?_) AllC.nil
  go_simp
  refine hK _ _ (fun _ => ⟨k5, ML1⟩) ?_
  clear hK K hsh HS
  intro hsh
  have HS1 : (fun W' => W'.cell? ⟨p, 4, none⟩ = some (.map (some tb)) ∧ (Instr.lookup 68 (.map (some tb)) (.agg #[.string key, .int .i64 1, .string ⟨#[]⟩]) false).run Tryz.prog W' = .ok (.int .i64 cn) W') w1 := ⟨k5, ML1⟩
  refine wpAnyC_take0 (i := 9) (k := 10) (v := ?_) (d := some 61) rfl (by rfl) (by as_aux_lemma => kernel_rfl) (by as_aux_lemma => kernel_rfl) (by as_aux_lemma => kernel_rfl) hsh (by decide) (by intro _ _ _ h; exact h) (by assumption) (Or.inl ⟨by rfl, ?hy⟩) ?_; (case hy => (intro W _; go_simp; (try with_reducible rfl))); clear hsh; intro hsh
  refine wpAnyC_tail (by as_aux_lemma => kernel_rfl) (by simp) (by as_aux_lemma => kernel_rfl) ?_; simp only [List.drop_succ_cons, List.drop_zero]; clear hsh
  go_wp2_with (fail)
  refine bodyPost_ret (by simp [results, Tryz.results8, go_sem]; try rfl) rfl ?_
  exact ⟨rfl, asked_end HA.out HV.out HK1.out HT.out.lt MG MG3 MO MM hpt hltb hBt⟩
end Go.Proofs.YtkkhjlomicokgaaGreatDoor

/- The ways of Ask. -/
namespace Go.Proofs.YtkkhjlomicokgaaGreatDoor
open Go.RowKit Go.Maps
set_option linter.unusedVariables false
set_option linter.unusedSimpArgs false
set_option maxRecDepth 100000 in
set_option maxHeartbeats 8000000 in
theorem Ask_lim (p n qc lc B rb rn tb tn : Nat) (qA lA : Option Addr) (g t : Int) (id key : ByteArray) (Q : List Qt) (V : List Lv) (RT : List RtK) (TL : List Tl) (RD TD : DataW Unit) (w : World) (hn : Q.length = n) (hV : V.length = n)
    (hbx : w.heap[p]? = some (.cells #[.slice qA n qc, .slice lA n lc, .map (some rb), .int .i64 g, .map (some tb)] 72 (0, 0)))
    (hq : Sl w w.heap.size Qt.cs 5 qA n Q) (hqp : 0 < n → ∀ b o, qA = some ⟨b, o, none⟩ → b ≠ p ∧ b ≠ tb) (hv : w.ownsRow B 76 3 (.slice lA n lc) n (V.flatMap Lv.cs)) (hpl : ∀ k, (Value.slice lA n lc).ownBlock = some k → k ≠ p ∧ (0 < n → ∀ b o, qA = some ⟨b, o, none⟩ → b ≠ k))
    (hok : LvsOk Q V) (hn5 : n ≤ 50) (hBz : B ≤ w.heap.size) (hBp : B ≤ p) (hBt : B ≤ tb) (hg : ∀ x ∈ V, x.t ≤ g) (hnm : ∀ q ∈ Q, q.name.size ≤ maxLen)
    (hR : w.ownsMap Tryz.prog 9 (plainElem Tryz.prog 3) rb rn RD) (hRD : MapR RD RT) (hRT : 0 ≤ getR key RT ∧ getR key RT ≤ 1000000) (hT : w.ownsMap Tryz.prog 98 (plainElem Tryz.prog 3) tb tn TD) (hTD : MapT TD TL) (htn : tn < 1000000) (hTc : ∀ x, 0 ≤ getT x TL ∧ getT x TL ≤ 1000000)
    (hid : id.size ≤ 200) (hke : keyErr key = 0) (hkl : key.size ≤ maxLen) (hE : momE t g = 0)
    (hpass : hasR key RT = true → sampledB id (getR key RT) = true) (i1 : Nat) (hi1 : i1 < Q.length) (hlim : limF Q V key t = some ⟨i1, hi1⟩) :
    Calls Tryz.prog 8 #[.pointer (some ⟨p, 0, none⟩), .string id, .string key, .int .i64 t] w fun e w' => e = .returned (.tuple #[.int .i64 2, .string Q[i1].name, .int .i64 0, .int .i64 0]) ∧
      Asked w w' B p n qc lc rb tb tn qA lA t V (incT (key, 2, Q[i1].name) TL) := by
  subst hn
  have hid1 : ¬ (200 : Int) < (id.size : Int) := by omega
  have hidm : id.size ≤ maxLen := by unfold maxLen; omega
  have hp := lt_of_block hbx
  have CK := hide (checkKey_any key w hkl)
  rw [hke] at CK
  have CM := hide (checkMoment_any p t g w ((block_cell hbx 3).trans rfl))
  rw [hE] at CM
  have HBX := hide hbx
  have c3 : w.cell? ⟨p, 3, none⟩ = some (.int .i64 g) := (block_cell hbx 3).trans rfl
  have f3 : w.frozen? ⟨p, 3, none⟩ = false := block_free hbx 3
  have c2 : w.cell? ⟨p, 2, none⟩ = some (.map (some rb)) := (block_cell hbx 2).trans rfl
  have HA := hide (show (w.setCell ⟨p, 3, none⟩ (.int .i64 t)).heap[p]? = some (.cells #[.slice qA Q.length qc, .slice lA Q.length lc, .map (some rb), .int .i64 t, .map (some tb)] 72 (0, 0)) from (block_set hbx _).trans rfl)
  obtain ⟨tes, tck, htb, _⟩ := (show _ from hT)
  obtain ⟨res, rck, hrb, _⟩ := (show _ from hR)
  have hpt : tb ≠ p := fun e => by rw [e, hbx] at htb; cases htb
  have hpr : rb ≠ p := fun e => by rw [e, hbx] at hrb; cases hrb
  have hltb : ∀ k, (Value.slice lA Q.length lc).ownBlock = some k → k ≠ tb := fun k e e2 => by
    obtain ⟨g1, cap, cur, h1, _, h3, _⟩ := (hv.2.resolve_left (fun h => by rw [h.1] at e; cases e))
    rw [h1] at e
    have e3 : g1 = k := Option.some.inj e
    rw [e3, e2, htb] at h3; cases h3
  have HR := hide (ownsMap_block (w' := w.setCell ⟨p, 3, none⟩ (.int .i64 t)) hR (heap_setCell_other w _ rb _ hpr))
  have HT := hide (ownsMap_block (w' := w.setCell ⟨p, 3, none⟩ (.int .i64 t)) hT (heap_setCell_other w _ tb _ hpt))
  have HV := hide (own_stay (w' := w.setCell ⟨p, 3, none⟩ (.int .i64 t)) hv (fun k o e ho => block_set_other ho _ _ (hpl k e).1))
  have HQ := hide (Sl.stay (U := fun k => k ≠ p) (W' := w.setCell ⟨p, 3, none⟩ (.int .i64 t)) hq (fun k o ho u => block_set_other ho _ _ u) (fun h0 b o e => (hqp h0 b o e).1))
  have HK1 := hide (Keep.set (B := B) (c := p) (P := fun k => k = p ∨ k = tb ∨ (Value.slice lA Q.length lc).ownBlock = some k) w 3 (.int .i64 t) hBp (.inl rfl))
  have hg2 : g ≤ t ∧ t ≤ 3155759999 := by
    unfold momE at hE
    split at hE
    · cases hE
    · rename_i ho
      split at hE
      · cases hE
      · simp [outsideB] at ho; omega
  obtain ⟨rt, hrt⟩ : ∃ rt, getR key RT = rt := ⟨_, rfl⟩
  rw [hrt] at hRT
  have hat := hRD.at_ key
  rw [hrt] at hat
  have hhas := hRD.has key
  have HAT := hide hat
  have hkb := key_of key hkl
  clear hbx hR hT hv hq hat hke hE htb hrb
  have hgt : ∀ x ∈ V, x.t ≤ t := fun x hx => by have := hg x hx; omega
  have CL := hide (limit_ok p Q.length qc lc B qA lA (.map (some rb)) (.map (some tb)) t t key Q V (w.setCell ⟨p, 3, none⟩ (.int .i64 t)) rfl hV HA.out (HQ.out.more (by rw [World.size_setCell]; exact Nat.le_refl _)) HV.out hpl hok hn5 (by rw [World.size_setCell]; exact hBz) hgt hg2.2)
  by_cases hh : hasR key RT = true
  · have hsm := hpass hh
    rw [hrt] at hsm
    have hr1 := sampled_pos hsm
    rw [hh] at hhas
    have CS := hide (fun W => sampled_any id rt W hidm hRT.1 hRT.2)
    rw [hsm] at CS
    go_enter Tryz.func8, Tryz.ntmps8
    go_wp2_with (first | (go_at_call 27; refine (CK.out).mono ?_; rintro e w' ⟨rfl, rfl⟩) | (go_at_call 28; refine (CM.out).mono ?_; rintro e w' ⟨rfl, rfl⟩) | (at_lookup; refine wpList_lookup_own_ok_int _ rfl _ _ 70 rfl 9 3 .i64 law_str Tryz.underlying70 Tryz.underlying3 (zero_intM _) rb rn RD rfl HR.out (.string key) _ rfl hkb ?_; intro cc hcc _; obtain rfl : cc = rt := (by have h9 := hcc.symm.trans HAT.out; simpa using h9); clear hcc; rw [hhas]) | (go_at_call 29; refine (CS.out _).mono ?_; rintro e w' ⟨rfl, rfl⟩))
    refine CL.out.mono ?_
    rintro e wl (⟨i2, hi2, rfl, hwl⟩ | ⟨hi2, _⟩)
    · rw [hlim] at hi2
      obtain rfl := Option.some.inj hi2
      have hwb := hwl
      have HA2 := hide (block_below HA.out hwl)
      have HT2 := hide (HT.out.kept (grown_of_below hwl) (by simp))
      have HV2 := hide (own_below HV.out hwl)
      have HK2 := hide (HK1.out.trans (Keep.of_below hwl (by rw [World.size_setCell]; exact hBz)))
      obtain ⟨qb, qo, q, rfl, hqb, hqx, hqc⟩ := (HQ.out.below (hwl.mono (by rw [World.size_setCell]; exact Nat.le_refl _))).at_ hi1
      have q0 : wl.cell? ⟨qb, qo + i1 * 5, none⟩ = some (.string q.name) := by simpa using hqc 0 _ rfl
      have e9 : Q[i1] = q := by rw [List.getElem?_eq_getElem hi1] at hqx; exact Option.some.inj hqx
      have hqn := hnm q (List.mem_of_getElem? hqx)
      clear hqc hqx hwl
      obtain ⟨cn, hcn⟩ : ∃ cn, getT (key, 2, q.name) TL = cn := ⟨_, rfl⟩
      have hcb := hTc (key, 2, q.name)
      rw [hcn] at hcb
      obtain ⟨v0, st, w1, w3, D', MR, MG, ML, ML1, MS, MO, MM, MG3⟩ := tally_run HT2.out.drew hTD key q.name 2 (tag_ok hkl hqn (by decide) (by decide)) htn cn hcn hcb.1 hcb.2
      have k4 : wl.drew.cell? ⟨p, 4, none⟩ = some (.map (some tb)) := (block_cell HA2.out 4).trans rfl
      have HA1 := hide ((MG.block p (lt_of_block HA2.out) (fun e => hpt (Option.some.inj e).symm)).trans HA2.out)
      have k5 : w1.cell? ⟨p, 4, none⟩ = some (.map (some tb)) := (block_cell HA1.out 4).trans rfl
      have k0 : wl.cell? ⟨p, 0, none⟩ = some (.slice (some ⟨qb, qo, none⟩) Q.length qc) := (block_cell HA2.out 0).trans rfl
      go_wp2_with (fail)
      refine wp_region_chain (fun W' => W'.cell? ⟨p, 4, none⟩ = some (.map (some tb)) ∧ (Instr.lookup 68 (.map (some tb)) (.agg #[.string key, .int .i64 2, .string q.name]) false).run Tryz.prog W' = .ok (.int .i64 cn) W') 11 (by as_aux_lemma => kernel_rfl) (N := 12) (by as_aux_lemma => kernel_rfl) ?_; intro hsh
      have HS : (fun W' => W'.cell? ⟨p, 4, none⟩ = some (.map (some tb)) ∧ (Instr.lookup 68 (.map (some tb)) (.agg #[.string key, .int .i64 2, .string q.name]) false).run Tryz.prog W' = .ok (.int .i64 cn) W') (wl).drew := ⟨k4, ML⟩
      refine wpAnyC_take0 (i := 0) (k := 11) (v := ?_) (d := some 76) rfl (by rfl) (by as_aux_lemma => kernel_rfl) (by as_aux_lemma => kernel_rfl) (by as_aux_lemma => kernel_rfl) hsh (by decide) (by intro _ _ _ h; exact h) (by assumption) (Or.inl ⟨by rfl, ?hy⟩) ?_; (case hy => (intro W _; go_simp; (try with_reducible rfl))); clear hsh; intro hsh
      refine wpAnyC_take0 (i := 1) (k := 11) (v := ?_) (d := some 77) rfl (by rfl) (by as_aux_lemma => kernel_rfl) (by as_aux_lemma => kernel_rfl) (by as_aux_lemma => kernel_rfl) hsh (by decide) (by intro _ _ _ h; exact h) (by assumption) (Or.inl ⟨by rfl, ?hy⟩) ?_; (case hy => (intro W _; go_simp; (try with_reducible rfl))); clear hsh; intro hsh
      refine wpAnyC_take0 (i := 2) (k := 11) (v := ?_) (d := some 78) rfl (by rfl) (by as_aux_lemma => kernel_rfl) (by as_aux_lemma => kernel_rfl) (by as_aux_lemma => kernel_rfl) hsh (by decide) (by intro _ _ _ h; exact h) (by assumption) (Or.inl ⟨by rfl, ?hy⟩) ?_; (case hy => (intro W _; go_simp; (try with_reducible rfl))); clear hsh; intro hsh
      refine wpAnyC_take (i := 3) (k := 11) (f := 40) (v := ?_) (d := some 79) rfl (by rfl) (by as_aux_lemma => kernel_rfl) (by as_aux_lemma => kernel_rfl) (by as_aux_lemma => kernel_rfl) hsh (by decide) (by as_aux_lemma => kernel_rfl) (by intro _ _ _ h; exact h) (by assumption) (Or.inl ⟨by rfl, ?hy⟩) ?_; (case hy => (rintro W ⟨b0, b1⟩; go_simp; (try with_reducible rfl))); clear hsh; intro hsh
      refine wpAnyC_take0 (i := 4) (k := 11) (v := ?_) (d := some 80) rfl (by rfl) (by as_aux_lemma => kernel_rfl) (by as_aux_lemma => kernel_rfl) (by as_aux_lemma => kernel_rfl) hsh (by decide) (by intro _ _ _ h; exact h) (by assumption) (Or.inl ⟨by rfl, ?hy⟩) ?_; (case hy => (intro W _; go_simp; (try with_reducible rfl))); clear hsh; intro hsh
      refine wpAnyC_take0 (i := 5) (k := 11) (v := ?_) (d := some 81) rfl (by rfl) (by as_aux_lemma => kernel_rfl) (by as_aux_lemma => kernel_rfl) (by as_aux_lemma => kernel_rfl) hsh (by decide) (by intro _ _ _ h; exact h) (by assumption) (Or.inl ⟨by rfl, ?hy⟩) ?_; (case hy => (intro W _; go_simp; (try with_reducible rfl))); clear hsh; intro hsh
      refine wpAnyC_take0 (i := 6) (k := 11) (v := ?_) (d := some 82) rfl (by rfl) (by as_aux_lemma => kernel_rfl) (by as_aux_lemma => kernel_rfl) (by as_aux_lemma => kernel_rfl) hsh (by decide) (by intro _ _ _ h; exact h) (by assumption) (Or.inl ⟨by rfl, ?hy⟩) ?_; (case hy => (intro W _; go_simp; (try with_reducible rfl))); clear hsh; intro hsh
      refine wpAnyC_take (i := 7) (k := 11) (f := 40) (v := ?_) (d := some 83) rfl (by rfl) (by as_aux_lemma => kernel_rfl) (by as_aux_lemma => kernel_rfl) (by as_aux_lemma => kernel_rfl) hsh (by decide) (by as_aux_lemma => kernel_rfl) (by intro _ _ _ h; exact h) (by assumption) (Or.inl ⟨by rfl, ?hy⟩) ?_; (case hy => (rintro W ⟨b0, b1⟩; go_simp; (try with_reducible rfl))); clear hsh; intro hsh
      refine wpAnyC_take0 (i := 8) (k := 11) (v := ?_) (d := some 84) rfl (by rfl) (by as_aux_lemma => kernel_rfl) (by as_aux_lemma => kernel_rfl) (by as_aux_lemma => kernel_rfl) hsh (by decide) (by intro _ _ _ h; exact h) (by assumption) (Or.inl ⟨by rfl, ?hy⟩) ?_; (case hy => (intro W _; go_simp; (try with_reducible rfl))); clear hsh; intro hsh
      refine wpAnyC_ready (rs := [9]) (by as_aux_lemma => kernel_rfl) (by simp) ?_; refine AllC.cons (i := 9) rfl (by as_aux_lemma => kernel_rfl) hsh (fun K hK => ?_) AllC.nil
      go_simp
      refine hK _ _ (fun _ => ⟨k5, ML1⟩) ?_
      clear hK K hsh HS
      intro hsh
      have HS1 : (fun W' => W'.cell? ⟨p, 4, none⟩ = some (.map (some tb)) ∧ (Instr.lookup 68 (.map (some tb)) (.agg #[.string key, .int .i64 2, .string q.name]) false).run Tryz.prog W' = .ok (.int .i64 cn) W') w1 := ⟨k5, ML1⟩
      refine wpAnyC_take0 (i := 10) (k := 11) (v := ?_) (d := some 86) rfl (by rfl) (by as_aux_lemma => kernel_rfl) (by as_aux_lemma => kernel_rfl) (by as_aux_lemma => kernel_rfl) hsh (by decide) (by intro _ _ _ h; exact h) (by assumption) (Or.inl ⟨by rfl, ?hy⟩) ?_; (case hy => (intro W _; go_simp; (try with_reducible rfl))); clear hsh; intro hsh
      refine wpAnyC_tail (by as_aux_lemma => kernel_rfl) (by simp) (by as_aux_lemma => kernel_rfl) ?_; simp only [List.drop_succ_cons, List.drop_zero]; clear hsh
      go_wp2_with (fail)
      refine bodyPost_ret (by simp [results, Tryz.results8, go_sem]; try rfl) rfl ?_
      rw [e9]
      exact ⟨rfl, asked_end HA2.out HV2.out HK2.out HT2.out.lt MG MG3 MO MM hpt hltb hBt⟩
    · rw [hlim] at hi2; cases hi2
  · have hh2 : hasR key RT = false := by simpa using hh
    rw [hh2] at hhas
    go_enter Tryz.func8, Tryz.ntmps8
    go_wp2_with (first | (go_at_call 27; refine (CK.out).mono ?_; rintro e w' ⟨rfl, rfl⟩) | (go_at_call 28; refine (CM.out).mono ?_; rintro e w' ⟨rfl, rfl⟩) | (at_lookup; refine wpList_lookup_own_ok_int _ rfl _ _ 70 rfl 9 3 .i64 law_str Tryz.underlying70 Tryz.underlying3 (zero_intM _) rb rn RD rfl HR.out (.string key) _ rfl hkb ?_; intro cc hcc _; obtain rfl : cc = rt := (by have h9 := hcc.symm.trans HAT.out; simpa using h9); clear hcc; rw [hhas]))
    refine CL.out.mono ?_
    rintro e wl (⟨i2, hi2, rfl, hwl⟩ | ⟨hi2, _⟩)
    · rw [hlim] at hi2
      obtain rfl := Option.some.inj hi2
      have hwb := hwl
      have HA2 := hide (block_below HA.out hwl)
      have HT2 := hide (HT.out.kept (grown_of_below hwl) (by simp))
      have HV2 := hide (own_below HV.out hwl)
      have HK2 := hide (HK1.out.trans (Keep.of_below hwl (by rw [World.size_setCell]; exact hBz)))
      obtain ⟨qb, qo, q, rfl, hqb, hqx, hqc⟩ := (HQ.out.below (hwl.mono (by rw [World.size_setCell]; exact Nat.le_refl _))).at_ hi1
      have q0 : wl.cell? ⟨qb, qo + i1 * 5, none⟩ = some (.string q.name) := by simpa using hqc 0 _ rfl
      have e9 : Q[i1] = q := by rw [List.getElem?_eq_getElem hi1] at hqx; exact Option.some.inj hqx
      have hqn := hnm q (List.mem_of_getElem? hqx)
      clear hqc hqx hwl
      obtain ⟨cn, hcn⟩ : ∃ cn, getT (key, 2, q.name) TL = cn := ⟨_, rfl⟩
      have hcb := hTc (key, 2, q.name)
      rw [hcn] at hcb
      obtain ⟨v0, st, w1, w3, D', MR, MG, ML, ML1, MS, MO, MM, MG3⟩ := tally_run HT2.out.drew hTD key q.name 2 (tag_ok hkl hqn (by decide) (by decide)) htn cn hcn hcb.1 hcb.2
      have k4 : wl.drew.cell? ⟨p, 4, none⟩ = some (.map (some tb)) := (block_cell HA2.out 4).trans rfl
      have HA1 := hide ((MG.block p (lt_of_block HA2.out) (fun e => hpt (Option.some.inj e).symm)).trans HA2.out)
      have k5 : w1.cell? ⟨p, 4, none⟩ = some (.map (some tb)) := (block_cell HA1.out 4).trans rfl
      have k0 : wl.cell? ⟨p, 0, none⟩ = some (.slice (some ⟨qb, qo, none⟩) Q.length qc) := (block_cell HA2.out 0).trans rfl
      go_wp2_with (fail)
      refine wp_region_chain (fun W' => W'.cell? ⟨p, 4, none⟩ = some (.map (some tb)) ∧ (Instr.lookup 68 (.map (some tb)) (.agg #[.string key, .int .i64 2, .string q.name]) false).run Tryz.prog W' = .ok (.int .i64 cn) W') 11 (by as_aux_lemma => kernel_rfl) (N := 12) (by as_aux_lemma => kernel_rfl) ?_; intro hsh
      have HS : (fun W' => W'.cell? ⟨p, 4, none⟩ = some (.map (some tb)) ∧ (Instr.lookup 68 (.map (some tb)) (.agg #[.string key, .int .i64 2, .string q.name]) false).run Tryz.prog W' = .ok (.int .i64 cn) W') (wl).drew := ⟨k4, ML⟩
      refine wpAnyC_take0 (i := 0) (k := 11) (v := ?_) (d := some 76) rfl (by rfl) (by as_aux_lemma => kernel_rfl) (by as_aux_lemma => kernel_rfl) (by as_aux_lemma => kernel_rfl) hsh (by decide) (by intro _ _ _ h; exact h) (by assumption) (Or.inl ⟨by rfl, ?hy⟩) ?_; (case hy => (intro W _; go_simp; (try with_reducible rfl))); clear hsh; intro hsh
      refine wpAnyC_take0 (i := 1) (k := 11) (v := ?_) (d := some 77) rfl (by rfl) (by as_aux_lemma => kernel_rfl) (by as_aux_lemma => kernel_rfl) (by as_aux_lemma => kernel_rfl) hsh (by decide) (by intro _ _ _ h; exact h) (by assumption) (Or.inl ⟨by rfl, ?hy⟩) ?_; (case hy => (intro W _; go_simp; (try with_reducible rfl))); clear hsh; intro hsh
      refine wpAnyC_take0 (i := 2) (k := 11) (v := ?_) (d := some 78) rfl (by rfl) (by as_aux_lemma => kernel_rfl) (by as_aux_lemma => kernel_rfl) (by as_aux_lemma => kernel_rfl) hsh (by decide) (by intro _ _ _ h; exact h) (by assumption) (Or.inl ⟨by rfl, ?hy⟩) ?_; (case hy => (intro W _; go_simp; (try with_reducible rfl))); clear hsh; intro hsh
      refine wpAnyC_take (i := 3) (k := 11) (f := 40) (v := ?_) (d := some 79) rfl (by rfl) (by as_aux_lemma => kernel_rfl) (by as_aux_lemma => kernel_rfl) (by as_aux_lemma => kernel_rfl) hsh (by decide) (by as_aux_lemma => kernel_rfl) (by intro _ _ _ h; exact h) (by assumption) (Or.inl ⟨by rfl, ?hy⟩) ?_; (case hy => (rintro W ⟨b0, b1⟩; go_simp; (try with_reducible rfl))); clear hsh; intro hsh
      refine wpAnyC_take0 (i := 4) (k := 11) (v := ?_) (d := some 80) rfl (by rfl) (by as_aux_lemma => kernel_rfl) (by as_aux_lemma => kernel_rfl) (by as_aux_lemma => kernel_rfl) hsh (by decide) (by intro _ _ _ h; exact h) (by assumption) (Or.inl ⟨by rfl, ?hy⟩) ?_; (case hy => (intro W _; go_simp; (try with_reducible rfl))); clear hsh; intro hsh
      refine wpAnyC_take0 (i := 5) (k := 11) (v := ?_) (d := some 81) rfl (by rfl) (by as_aux_lemma => kernel_rfl) (by as_aux_lemma => kernel_rfl) (by as_aux_lemma => kernel_rfl) hsh (by decide) (by intro _ _ _ h; exact h) (by assumption) (Or.inl ⟨by rfl, ?hy⟩) ?_; (case hy => (intro W _; go_simp; (try with_reducible rfl))); clear hsh; intro hsh
      refine wpAnyC_take0 (i := 6) (k := 11) (v := ?_) (d := some 82) rfl (by rfl) (by as_aux_lemma => kernel_rfl) (by as_aux_lemma => kernel_rfl) (by as_aux_lemma => kernel_rfl) hsh (by decide) (by intro _ _ _ h; exact h) (by assumption) (Or.inl ⟨by rfl, ?hy⟩) ?_; (case hy => (intro W _; go_simp; (try with_reducible rfl))); clear hsh; intro hsh
      refine wpAnyC_take (i := 7) (k := 11) (f := 40) (v := ?_) (d := some 83) rfl (by rfl) (by as_aux_lemma => kernel_rfl) (by as_aux_lemma => kernel_rfl) (by as_aux_lemma => kernel_rfl) hsh (by decide) (by as_aux_lemma => kernel_rfl) (by intro _ _ _ h; exact h) (by assumption) (Or.inl ⟨by rfl, ?hy⟩) ?_; (case hy => (rintro W ⟨b0, b1⟩; go_simp; (try with_reducible rfl))); clear hsh; intro hsh
      refine wpAnyC_take0 (i := 8) (k := 11) (v := ?_) (d := some 84) rfl (by rfl) (by as_aux_lemma => kernel_rfl) (by as_aux_lemma => kernel_rfl) (by as_aux_lemma => kernel_rfl) hsh (by decide) (by intro _ _ _ h; exact h) (by assumption) (Or.inl ⟨by rfl, ?hy⟩) ?_; (case hy => (intro W _; go_simp; (try with_reducible rfl))); clear hsh; intro hsh
      refine wpAnyC_ready (rs := [9]) (by as_aux_lemma => kernel_rfl) (by simp) ?_; refine AllC.cons (i := 9) rfl (by as_aux_lemma => kernel_rfl) hsh (fun K hK => ?_) AllC.nil
      go_simp
      refine hK _ _ (fun _ => ⟨k5, ML1⟩) ?_
      clear hK K hsh HS
      intro hsh
      have HS1 : (fun W' => W'.cell? ⟨p, 4, none⟩ = some (.map (some tb)) ∧ (Instr.lookup 68 (.map (some tb)) (.agg #[.string key, .int .i64 2, .string q.name]) false).run Tryz.prog W' = .ok (.int .i64 cn) W') w1 := ⟨k5, ML1⟩
      refine wpAnyC_take0 (i := 10) (k := 11) (v := ?_) (d := some 86) rfl (by rfl) (by as_aux_lemma => kernel_rfl) (by as_aux_lemma => kernel_rfl) (by as_aux_lemma => kernel_rfl) hsh (by decide) (by intro _ _ _ h; exact h) (by assumption) (Or.inl ⟨by rfl, ?hy⟩) ?_; (case hy => (intro W _; go_simp; (try with_reducible rfl))); clear hsh; intro hsh
      refine wpAnyC_tail (by as_aux_lemma => kernel_rfl) (by simp) (by as_aux_lemma => kernel_rfl) ?_; simp only [List.drop_succ_cons, List.drop_zero]; clear hsh
      go_wp2_with (fail)
      refine bodyPost_ret (by simp [results, Tryz.results8, go_sem]; try rfl) rfl ?_
      rw [e9]
      exact ⟨rfl, asked_end HA2.out HV2.out HK2.out HT2.out.lt MG MG3 MO MM hpt hltb hBt⟩
    · rw [hlim] at hi2; cases hi2
end Go.Proofs.YtkkhjlomicokgaaGreatDoor

/- The ways of Ask. -/
namespace Go.Proofs.YtkkhjlomicokgaaGreatDoor
open Go.RowKit Go.Maps
set_option linter.unusedVariables false
set_option linter.unusedSimpArgs false
set_option maxRecDepth 100000 in
set_option maxHeartbeats 8000000 in
theorem Ask_kept (p n qc lc B rb rn tb tn : Nat) (qA lA : Option Addr) (g t : Int) (id key : ByteArray) (Q : List Qt) (V : List Lv) (RT : List RtK) (TL : List Tl) (RD TD : DataW Unit) (w : World) (hn : Q.length = n) (hV : V.length = n)
    (hbx : w.heap[p]? = some (.cells #[.slice qA n qc, .slice lA n lc, .map (some rb), .int .i64 g, .map (some tb)] 72 (0, 0)))
    (hq : Sl w w.heap.size Qt.cs 5 qA n Q) (hqp : 0 < n → ∀ b o, qA = some ⟨b, o, none⟩ → b ≠ p ∧ b ≠ tb) (hv : w.ownsRow B 76 3 (.slice lA n lc) n (V.flatMap Lv.cs)) (hpl : ∀ k, (Value.slice lA n lc).ownBlock = some k → k ≠ p ∧ (0 < n → ∀ b o, qA = some ⟨b, o, none⟩ → b ≠ k))
    (hok : LvsOk Q V) (hn5 : n ≤ 50) (hBz : B ≤ w.heap.size) (hBp : B ≤ p) (hBt : B ≤ tb) (hg : ∀ x ∈ V, x.t ≤ g) (hnm : ∀ q ∈ Q, q.name.size ≤ maxLen)
    (hR : w.ownsMap Tryz.prog 9 (plainElem Tryz.prog 3) rb rn RD) (hRD : MapR RD RT) (hRT : 0 ≤ getR key RT ∧ getR key RT ≤ 1000000) (hT : w.ownsMap Tryz.prog 98 (plainElem Tryz.prog 3) tb tn TD) (hTD : MapT TD TL) (htn : tn < 1000000) (hTc : ∀ x, 0 ≤ getT x TL ∧ getT x TL ≤ 1000000)
    (hid : id.size ≤ 200) (hke : keyErr key = 0) (hkl : key.size ≤ maxLen) (hE : momE t g = 0)
    (hpass : hasR key RT = true → sampledB id (getR key RT) = true) (hlim : limF Q V key t = none) :
    Calls Tryz.prog 8 #[.pointer (some ⟨p, 0, none⟩), .string id, .string key, .int .i64 t] w fun e w' => e = .returned (.tuple #[.int .i64 0, .string ⟨#[]⟩, .int .i64 (if hasR key RT = true then 1000000000000 / getR key RT else 1000000), .int .i64 0]) ∧
      Asked w w' B p n qc lc rb tb tn qA lA t (limV Q V t (fitIx Q key Q.length)) (incT (key, 0, ⟨#[]⟩) TL) := by
  subst hn
  have hid1 : ¬ (200 : Int) < (id.size : Int) := by omega
  have hidm : id.size ≤ maxLen := by unfold maxLen; omega
  have hp := lt_of_block hbx
  have CK := hide (checkKey_any key w hkl)
  rw [hke] at CK
  have CM := hide (checkMoment_any p t g w ((block_cell hbx 3).trans rfl))
  rw [hE] at CM
  have HBX := hide hbx
  have c3 : w.cell? ⟨p, 3, none⟩ = some (.int .i64 g) := (block_cell hbx 3).trans rfl
  have f3 : w.frozen? ⟨p, 3, none⟩ = false := block_free hbx 3
  have c2 : w.cell? ⟨p, 2, none⟩ = some (.map (some rb)) := (block_cell hbx 2).trans rfl
  have HA := hide (show (w.setCell ⟨p, 3, none⟩ (.int .i64 t)).heap[p]? = some (.cells #[.slice qA Q.length qc, .slice lA Q.length lc, .map (some rb), .int .i64 t, .map (some tb)] 72 (0, 0)) from (block_set hbx _).trans rfl)
  obtain ⟨tes, tck, htb, _⟩ := (show _ from hT)
  obtain ⟨res, rck, hrb, _⟩ := (show _ from hR)
  have hpt : tb ≠ p := fun e => by rw [e, hbx] at htb; cases htb
  have hpr : rb ≠ p := fun e => by rw [e, hbx] at hrb; cases hrb
  have hltb : ∀ k, (Value.slice lA Q.length lc).ownBlock = some k → k ≠ tb := fun k e e2 => by
    obtain ⟨g1, cap, cur, h1, _, h3, _⟩ := (hv.2.resolve_left (fun h => by rw [h.1] at e; cases e))
    rw [h1] at e
    have e3 : g1 = k := Option.some.inj e
    rw [e3, e2, htb] at h3; cases h3
  have HR := hide (ownsMap_block (w' := w.setCell ⟨p, 3, none⟩ (.int .i64 t)) hR (heap_setCell_other w _ rb _ hpr))
  have HT := hide (ownsMap_block (w' := w.setCell ⟨p, 3, none⟩ (.int .i64 t)) hT (heap_setCell_other w _ tb _ hpt))
  have HV := hide (own_stay (w' := w.setCell ⟨p, 3, none⟩ (.int .i64 t)) hv (fun k o e ho => block_set_other ho _ _ (hpl k e).1))
  have HQ := hide (Sl.stay (U := fun k => k ≠ p) (W' := w.setCell ⟨p, 3, none⟩ (.int .i64 t)) hq (fun k o ho u => block_set_other ho _ _ u) (fun h0 b o e => (hqp h0 b o e).1))
  have HK1 := hide (Keep.set (B := B) (c := p) (P := fun k => k = p ∨ k = tb ∨ (Value.slice lA Q.length lc).ownBlock = some k) w 3 (.int .i64 t) hBp (.inl rfl))
  have hg2 : g ≤ t ∧ t ≤ 3155759999 := by
    unfold momE at hE
    split at hE
    · cases hE
    · rename_i ho
      split at hE
      · cases hE
      · simp [outsideB] at ho; omega
  obtain ⟨rt, hrt⟩ : ∃ rt, getR key RT = rt := ⟨_, rfl⟩
  rw [hrt] at hRT
  have hat := hRD.at_ key
  rw [hrt] at hat
  have hhas := hRD.has key
  have HAT := hide hat
  have hkb := key_of key hkl
  have HTB := hide (heap_setCell_other w ⟨p, 3, none⟩ tb (.int .i64 t) hpt |>.trans htb)
  clear hbx hR hT hv hq hat hke hE htb hrb
  have hgt : ∀ x ∈ V, x.t ≤ t := fun x hx => by have := hg x hx; omega
  have CL := hide (limit_ok p Q.length qc lc B qA lA (.map (some rb)) (.map (some tb)) t t key Q V (w.setCell ⟨p, 3, none⟩ (.int .i64 t)) rfl hV HA.out (HQ.out.more (by rw [World.size_setCell]; exact Nat.le_refl _)) HV.out hpl hok hn5 (by rw [World.size_setCell]; exact hBz) hgt hg2.2)
  by_cases hh : hasR key RT = true
  · have hsm := hpass hh
    rw [hrt] at hsm
    have hr1 := sampled_pos hsm
    rw [hh] at hhas
    have CS := hide (fun W => sampled_any id rt W hidm hRT.1 hRT.2)
    rw [hsm] at CS
    go_enter Tryz.func8, Tryz.ntmps8
    go_wp2_with (first | (go_at_call 27; refine (CK.out).mono ?_; rintro e w' ⟨rfl, rfl⟩) | (go_at_call 28; refine (CM.out).mono ?_; rintro e w' ⟨rfl, rfl⟩) | (at_lookup; refine wpList_lookup_own_ok_int _ rfl _ _ 70 rfl 9 3 .i64 law_str Tryz.underlying70 Tryz.underlying3 (zero_intM _) rb rn RD rfl HR.out (.string key) _ rfl hkb ?_; intro cc hcc _; obtain rfl : cc = rt := (by have h9 := hcc.symm.trans HAT.out; simpa using h9); clear hcc; rw [hhas]) | (go_at_call 29; refine (CS.out _).mono ?_; rintro e w' ⟨rfl, rfl⟩))
    refine CL.out.mono ?_
    rintro e wl (⟨i2, hi2, _⟩ | ⟨_, rfl, hvl, hkl2⟩)
    · rw [hlim] at hi2; cases hi2
    · have hpl2 := hpl
      have HA2 := hide (hkl2.keep p _ HA.out (fun e => (hpl p e).1 rfl))
      have HT2 := hide (ownsMap_block HT.out ((hkl2.keep tb _ HTB.out (fun e => hltb tb e rfl)).trans HTB.out.symm))
      have HV2 := hide hvl
      have HK2 := hide (HK1.out.trans (hkl2.mono (Nat.le_refl _) (fun k e => .inr (.inr e))))
      clear hvl hkl2
      obtain ⟨cn, hcn⟩ : ∃ cn, getT (key, 0, ⟨#[]⟩) TL = cn := ⟨_, rfl⟩
      have hcb := hTc (key, 0, ⟨#[]⟩)
      rw [hcn] at hcb
      obtain ⟨v0, st, w1, w3, D', MR, MG, ML, ML1, MS, MO, MM, MG3⟩ := tally_run HT2.out.drew hTD key ⟨#[]⟩ 0 (tag_ok hkl (by decide) (by decide) (by decide)) htn cn hcn hcb.1 hcb.2
      have k4 : wl.drew.cell? ⟨p, 4, none⟩ = some (.map (some tb)) := (block_cell HA2.out 4).trans rfl
      have HA1 := hide ((MG.block p (lt_of_block HA2.out) (fun e => hpt (Option.some.inj e).symm)).trans HA2.out)
      have k5 : w1.cell? ⟨p, 4, none⟩ = some (.map (some tb)) := (block_cell HA1.out 4).trans rfl
      go_wp2_with (fail)
      refine wp_region_chain (fun W' => W'.cell? ⟨p, 4, none⟩ = some (.map (some tb)) ∧ (Instr.lookup 68 (.map (some tb)) (.agg #[.string key, .int .i64 0, .string ⟨#[]⟩]) false).run Tryz.prog W' = .ok (.int .i64 cn) W') 10 (by as_aux_lemma => kernel_rfl) (N := 11) (by as_aux_lemma => kernel_rfl) ?_; intro hsh
      have HS : (fun W' => W'.cell? ⟨p, 4, none⟩ = some (.map (some tb)) ∧ (Instr.lookup 68 (.map (some tb)) (.agg #[.string key, .int .i64 0, .string ⟨#[]⟩]) false).run Tryz.prog W' = .ok (.int .i64 cn) W') (wl).drew := ⟨k4, ML⟩
      refine wpAnyC_take0 (i := 0) (k := 10) (v := ?_) (d := some 88) rfl (by rfl) (by as_aux_lemma => kernel_rfl) (by as_aux_lemma => kernel_rfl) (by as_aux_lemma => kernel_rfl) hsh (by decide) (by intro _ _ _ h; exact h) (by assumption) (Or.inl ⟨by rfl, ?hy⟩) ?_; (case hy => (intro W _; go_simp; (try with_reducible rfl))); clear hsh; intro hsh
      refine wpAnyC_take0 (i := 1) (k := 10) (v := ?_) (d := some 89) rfl (by rfl) (by as_aux_lemma => kernel_rfl) (by as_aux_lemma => kernel_rfl) (by as_aux_lemma => kernel_rfl) hsh (by decide) (by intro _ _ _ h; exact h) (by assumption) (Or.inl ⟨by rfl, ?hy⟩) ?_; (case hy => (intro W _; go_simp; (try with_reducible rfl))); clear hsh; intro hsh
      refine wpAnyC_take0 (i := 2) (k := 10) (v := ?_) (d := some 90) rfl (by rfl) (by as_aux_lemma => kernel_rfl) (by as_aux_lemma => kernel_rfl) (by as_aux_lemma => kernel_rfl) hsh (by decide) (by intro _ _ _ h; exact h) (by assumption) (Or.inl ⟨by rfl, ?hy⟩) ?_; (case hy => (intro W _; go_simp; (try with_reducible rfl))); clear hsh; intro hsh
      refine wpAnyC_take (i := 3) (k := 10) (f := 40) (v := ?_) (d := some 91) rfl (by rfl) (by as_aux_lemma => kernel_rfl) (by as_aux_lemma => kernel_rfl) (by as_aux_lemma => kernel_rfl) hsh (by decide) (by as_aux_lemma => kernel_rfl) (by intro _ _ _ h; exact h) (by assumption) (Or.inl ⟨by rfl, ?hy⟩) ?_; (case hy => (rintro W ⟨b0, b1⟩; go_simp; (try with_reducible rfl))); clear hsh; intro hsh
      refine wpAnyC_take0 (i := 4) (k := 10) (v := ?_) (d := some 92) rfl (by rfl) (by as_aux_lemma => kernel_rfl) (by as_aux_lemma => kernel_rfl) (by as_aux_lemma => kernel_rfl) hsh (by decide) (by intro _ _ _ h; exact h) (by assumption) (Or.inl ⟨by rfl, ?hy⟩) ?_; (case hy => (intro W _; go_simp; (try with_reducible rfl))); clear hsh; intro hsh
      refine wpAnyC_take0 (i := 5) (k := 10) (v := ?_) (d := some 93) rfl (by rfl) (by as_aux_lemma => kernel_rfl) (by as_aux_lemma => kernel_rfl) (by as_aux_lemma => kernel_rfl) hsh (by decide) (by intro _ _ _ h; exact h) (by assumption) (Or.inl ⟨by rfl, ?hy⟩) ?_; (case hy => (intro W _; go_simp; (try with_reducible rfl))); clear hsh; intro hsh
      refine wpAnyC_take (i := 6) (k := 10) (f := 40) (v := ?_) (d := some 94) rfl (by rfl) (by as_aux_lemma => kernel_rfl) (by as_aux_lemma => kernel_rfl) (by as_aux_lemma => kernel_rfl) hsh (by decide) (by as_aux_lemma => kernel_rfl) (by intro _ _ _ h; exact h) (by assumption) (Or.inl ⟨by rfl, ?hy⟩) ?_; (case hy => (rintro W ⟨b0, b1⟩; go_simp; (try with_reducible rfl))); clear hsh; intro hsh
      refine wpAnyC_take0 (i := 7) (k := 10) (v := ?_) (d := some 95) rfl (by rfl) (by as_aux_lemma => kernel_rfl) (by as_aux_lemma => kernel_rfl) (by as_aux_lemma => kernel_rfl) hsh (by decide) (by intro _ _ _ h; exact h) (by assumption) (Or.inl ⟨by rfl, ?hy⟩) ?_; (case hy => (intro W _; go_simp; (try with_reducible rfl))); clear hsh; intro hsh
      refine wpAnyC_ready (rs := [8]) (by as_aux_lemma => kernel_rfl) (by simp) ?_; refine AllC.cons (i := 8) rfl (by as_aux_lemma => kernel_rfl) hsh (fun K hK => ?_) AllC.nil
      go_simp
      refine hK _ _ (fun _ => ⟨k5, ML1⟩) ?_
      clear hK K hsh HS
      intro hsh
      have HS1 : (fun W' => W'.cell? ⟨p, 4, none⟩ = some (.map (some tb)) ∧ (Instr.lookup 68 (.map (some tb)) (.agg #[.string key, .int .i64 0, .string ⟨#[]⟩]) false).run Tryz.prog W' = .ok (.int .i64 cn) W') w1 := ⟨k5, ML1⟩
      refine wpAnyC_take0 (i := 9) (k := 10) (v := ?_) (d := some 97) rfl (by rfl) (by as_aux_lemma => kernel_rfl) (by as_aux_lemma => kernel_rfl) (by as_aux_lemma => kernel_rfl) hsh (by decide) (by intro _ _ _ h; exact h) (by assumption) (Or.inl ⟨by rfl, ?hy⟩) ?_; (case hy => (intro W _; go_simp; (try with_reducible rfl))); clear hsh; intro hsh
      refine wpAnyC_tail (by as_aux_lemma => kernel_rfl) (by simp) (by as_aux_lemma => kernel_rfl) ?_; simp only [List.drop_succ_cons, List.drop_zero]; clear hsh
      go_wp2_with (fail)
      try go_region
      try all_goals go_wp2_with (fail)
      refine bodyPost_ret (by simp [results, Tryz.results8, go_sem]; try rfl) rfl ?_
      exact ⟨rfl, Asked.drew (asked_end HA2.out HV2.out HK2.out HT2.out.lt MG MG3 MO MM hpt hltb hBt)⟩
  · have hh2 : hasR key RT = false := by simpa using hh
    rw [hh2] at hhas
    go_enter Tryz.func8, Tryz.ntmps8
    go_wp2_with (first | (go_at_call 27; refine (CK.out).mono ?_; rintro e w' ⟨rfl, rfl⟩) | (go_at_call 28; refine (CM.out).mono ?_; rintro e w' ⟨rfl, rfl⟩) | (at_lookup; refine wpList_lookup_own_ok_int _ rfl _ _ 70 rfl 9 3 .i64 law_str Tryz.underlying70 Tryz.underlying3 (zero_intM _) rb rn RD rfl HR.out (.string key) _ rfl hkb ?_; intro cc hcc _; obtain rfl : cc = rt := (by have h9 := hcc.symm.trans HAT.out; simpa using h9); clear hcc; rw [hhas]))
    refine CL.out.mono ?_
    rintro e wl (⟨i2, hi2, _⟩ | ⟨_, rfl, hvl, hkl2⟩)
    · rw [hlim] at hi2; cases hi2
    · have hpl2 := hpl
      have HA2 := hide (hkl2.keep p _ HA.out (fun e => (hpl p e).1 rfl))
      have HT2 := hide (ownsMap_block HT.out ((hkl2.keep tb _ HTB.out (fun e => hltb tb e rfl)).trans HTB.out.symm))
      have HV2 := hide hvl
      have HK2 := hide (HK1.out.trans (hkl2.mono (Nat.le_refl _) (fun k e => .inr (.inr e))))
      clear hvl hkl2
      obtain ⟨cn, hcn⟩ : ∃ cn, getT (key, 0, ⟨#[]⟩) TL = cn := ⟨_, rfl⟩
      have hcb := hTc (key, 0, ⟨#[]⟩)
      rw [hcn] at hcb
      obtain ⟨v0, st, w1, w3, D', MR, MG, ML, ML1, MS, MO, MM, MG3⟩ := tally_run HT2.out.drew hTD key ⟨#[]⟩ 0 (tag_ok hkl (by decide) (by decide) (by decide)) htn cn hcn hcb.1 hcb.2
      have k4 : wl.drew.cell? ⟨p, 4, none⟩ = some (.map (some tb)) := (block_cell HA2.out 4).trans rfl
      have HA1 := hide ((MG.block p (lt_of_block HA2.out) (fun e => hpt (Option.some.inj e).symm)).trans HA2.out)
      have k5 : w1.cell? ⟨p, 4, none⟩ = some (.map (some tb)) := (block_cell HA1.out 4).trans rfl
      go_wp2_with (fail)
      refine wp_region_chain (fun W' => W'.cell? ⟨p, 4, none⟩ = some (.map (some tb)) ∧ (Instr.lookup 68 (.map (some tb)) (.agg #[.string key, .int .i64 0, .string ⟨#[]⟩]) false).run Tryz.prog W' = .ok (.int .i64 cn) W') 10 (by as_aux_lemma => kernel_rfl) (N := 11) (by as_aux_lemma => kernel_rfl) ?_; intro hsh
      have HS : (fun W' => W'.cell? ⟨p, 4, none⟩ = some (.map (some tb)) ∧ (Instr.lookup 68 (.map (some tb)) (.agg #[.string key, .int .i64 0, .string ⟨#[]⟩]) false).run Tryz.prog W' = .ok (.int .i64 cn) W') (wl).drew := ⟨k4, ML⟩
      refine wpAnyC_take0 (i := 0) (k := 10) (v := ?_) (d := some 88) rfl (by rfl) (by as_aux_lemma => kernel_rfl) (by as_aux_lemma => kernel_rfl) (by as_aux_lemma => kernel_rfl) hsh (by decide) (by intro _ _ _ h; exact h) (by assumption) (Or.inl ⟨by rfl, ?hy⟩) ?_; (case hy => (intro W _; go_simp; (try with_reducible rfl))); clear hsh; intro hsh
      refine wpAnyC_take0 (i := 1) (k := 10) (v := ?_) (d := some 89) rfl (by rfl) (by as_aux_lemma => kernel_rfl) (by as_aux_lemma => kernel_rfl) (by as_aux_lemma => kernel_rfl) hsh (by decide) (by intro _ _ _ h; exact h) (by assumption) (Or.inl ⟨by rfl, ?hy⟩) ?_; (case hy => (intro W _; go_simp; (try with_reducible rfl))); clear hsh; intro hsh
      refine wpAnyC_take0 (i := 2) (k := 10) (v := ?_) (d := some 90) rfl (by rfl) (by as_aux_lemma => kernel_rfl) (by as_aux_lemma => kernel_rfl) (by as_aux_lemma => kernel_rfl) hsh (by decide) (by intro _ _ _ h; exact h) (by assumption) (Or.inl ⟨by rfl, ?hy⟩) ?_; (case hy => (intro W _; go_simp; (try with_reducible rfl))); clear hsh; intro hsh
      refine wpAnyC_take (i := 3) (k := 10) (f := 40) (v := ?_) (d := some 91) rfl (by rfl) (by as_aux_lemma => kernel_rfl) (by as_aux_lemma => kernel_rfl) (by as_aux_lemma => kernel_rfl) hsh (by decide) (by as_aux_lemma => kernel_rfl) (by intro _ _ _ h; exact h) (by assumption) (Or.inl ⟨by rfl, ?hy⟩) ?_; (case hy => (rintro W ⟨b0, b1⟩; go_simp; (try with_reducible rfl))); clear hsh; intro hsh
      refine wpAnyC_take0 (i := 4) (k := 10) (v := ?_) (d := some 92) rfl (by rfl) (by as_aux_lemma => kernel_rfl) (by as_aux_lemma => kernel_rfl) (by as_aux_lemma => kernel_rfl) hsh (by decide) (by intro _ _ _ h; exact h) (by assumption) (Or.inl ⟨by rfl, ?hy⟩) ?_; (case hy => (intro W _; go_simp; (try with_reducible rfl))); clear hsh; intro hsh
      refine wpAnyC_take0 (i := 5) (k := 10) (v := ?_) (d := some 93) rfl (by rfl) (by as_aux_lemma => kernel_rfl) (by as_aux_lemma => kernel_rfl) (by as_aux_lemma => kernel_rfl) hsh (by decide) (by intro _ _ _ h; exact h) (by assumption) (Or.inl ⟨by rfl, ?hy⟩) ?_; (case hy => (intro W _; go_simp; (try with_reducible rfl))); clear hsh; intro hsh
      refine wpAnyC_take (i := 6) (k := 10) (f := 40) (v := ?_) (d := some 94) rfl (by rfl) (by as_aux_lemma => kernel_rfl) (by as_aux_lemma => kernel_rfl) (by as_aux_lemma => kernel_rfl) hsh (by decide) (by as_aux_lemma => kernel_rfl) (by intro _ _ _ h; exact h) (by assumption) (Or.inl ⟨by rfl, ?hy⟩) ?_; (case hy => (rintro W ⟨b0, b1⟩; go_simp; (try with_reducible rfl))); clear hsh; intro hsh
      refine wpAnyC_take0 (i := 7) (k := 10) (v := ?_) (d := some 95) rfl (by rfl) (by as_aux_lemma => kernel_rfl) (by as_aux_lemma => kernel_rfl) (by as_aux_lemma => kernel_rfl) hsh (by decide) (by intro _ _ _ h; exact h) (by assumption) (Or.inl ⟨by rfl, ?hy⟩) ?_; (case hy => (intro W _; go_simp; (try with_reducible rfl))); clear hsh; intro hsh
      refine wpAnyC_ready (rs := [8]) (by as_aux_lemma => kernel_rfl) (by simp) ?_; refine AllC.cons (i := 8) rfl (by as_aux_lemma => kernel_rfl) hsh (fun K hK => ?_) AllC.nil
      go_simp
      refine hK _ _ (fun _ => ⟨k5, ML1⟩) ?_
      clear hK K hsh HS
      intro hsh
      have HS1 : (fun W' => W'.cell? ⟨p, 4, none⟩ = some (.map (some tb)) ∧ (Instr.lookup 68 (.map (some tb)) (.agg #[.string key, .int .i64 0, .string ⟨#[]⟩]) false).run Tryz.prog W' = .ok (.int .i64 cn) W') w1 := ⟨k5, ML1⟩
      refine wpAnyC_take0 (i := 9) (k := 10) (v := ?_) (d := some 97) rfl (by rfl) (by as_aux_lemma => kernel_rfl) (by as_aux_lemma => kernel_rfl) (by as_aux_lemma => kernel_rfl) hsh (by decide) (by intro _ _ _ h; exact h) (by assumption) (Or.inl ⟨by rfl, ?hy⟩) ?_; (case hy => (intro W _; go_simp; (try with_reducible rfl))); clear hsh; intro hsh
      refine wpAnyC_tail (by as_aux_lemma => kernel_rfl) (by simp) (by as_aux_lemma => kernel_rfl) ?_; simp only [List.drop_succ_cons, List.drop_zero]; clear hsh
      go_wp2_with (fail)
      refine bodyPost_ret (by simp [results, Tryz.results8, go_sem]; try rfl) rfl ?_
      exact ⟨rfl, asked_end HA2.out HV2.out HK2.out HT2.out.lt MG MG3 MO MM hpt hltb hBt⟩
end Go.Proofs.YtkkhjlomicokgaaGreatDoor
