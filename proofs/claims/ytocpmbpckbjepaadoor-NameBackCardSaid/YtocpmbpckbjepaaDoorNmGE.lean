/- NmDmP, NmDmQ, NmDmR, NmDmU, NmDmV, NmDmW, NmDmX: texts of one's own, in one file. -/
import Derived.Test.YtocpmbpckbjepaaDoorNmDmI
/- Blocks of one's own while a type is added to the program's reader of mangled names; what of the plain reader's one is wanted. No walk. -/
namespace Go.Proofs.YtocpmbpckbjepaaDoor
open Go.RowKit
set_option linter.unusedVariables false
set_option linter.unusedSimpArgs false
section
variable {B c mb : Nat} {s : ByteArray} {i q i' q' : Int} {D D' : List Nd} {F F0 F1 F' : Nat → Prop} {w w0 w1 w2 w3 w' wx wy : World} {v v' : Value} {j : Nat} {o : Obj}
theorem nBk.nrow (h : nBk c mb w1 F j o) (hb : w1.heap[c]? = some (.cells #[.string s, .int .i64 i, .int .i64 q, .map (some mb), v] 69 (0, 0))) : v.ownBlock ≠ some j := fun e => h.2.2.2.1 ⟨_, _, _, _, hb, e⟩
theorem nBk.mid (h : nBk c mb w1 F j o) (hx : Below w1.heap.size w1 wx) (hg : wx.grownBy w2 (some mb)) : w2.heap[j]? = some o :=
  (hg.block j (by have := h.2.2.2.2.2; have := hx.size; omega) (fun e => h.2.2.1 (Option.some.inj e))).trans (block_below h.1 hx)
theorem stay_own {k : Nat} {x : Value} (h : nOut c mb w1 F j) : StayS F w1 (w1.setCell ⟨j, k, none⟩ x) := ⟨by simp, fun b o hf e => block_set_other e _ _ (fun (e2 : b = j) => h.2.2.2.1 (e2 ▸ hf))⟩
theorem block_push (h : w2.heap[j]? = some o) (hx : Below w2.heap.size w2 wy) (hg : wy.grownBy w3 v.ownBlock) (hv : v.ownBlock ≠ some j) : w3.heap[j]? = some o :=
  (hg.block j (by have := lt_of_block h; have := hx.size; omega) (fun e => hv e.symm)).trans (block_below h hx)
theorem stay_mid (h : nS B c mb s i q D F w1) (hx : Below w1.heap.size w1 wx) (hg : wx.grownBy w2 (some mb)) : StayS F w1 w2 := ⟨by have := hg.size; have := hx.size; omega, fun b o hf e => (hg.block b (by have := lt_of_block e; have := hx.size; omega) (fun e2 => (h.hF b hf).2.2 (Option.some.inj e2))).trans (block_below e hx)⟩
theorem stay_last {x : Nd} {css : List (List Value)} (h : nMid B c mb s i D x F0 F w w2 v css) (hx : Below w2.heap.size w2 wy) (hg : wy.grownBy w3 v.ownBlock) (u : Value) : StayS F w2 (w3.setCell ⟨c, 4, none⟩ u) := by
  obtain ⟨w1, h1, _⟩ := h.stay
  exact ⟨by have := hg.size; have := hx.size; simp; omega, fun b o hf e => block_set_other (block_push e hx hg (fun e2 => h.nf b e2 hf)) _ _ (h1.st.hF b hf).2.1⟩
theorem nMid.cnot {x : Nd} {css : List (List Value)} (h : nMid B c mb s i D x F0 F w w2 v css) : v.ownBlock ≠ some c := own_other' h.row h.box (by decide)
theorem below_da (w : World) (o : Obj) : Below w.heap.size w (w.drew.alloc o) := (below_drewN (Below.refl w.heap.size w) 1).alloc (Nat.le_refl _) o
theorem below_ad (w : World) (o : Obj) : Below w.heap.size w (w.alloc o).drew := below_drewN ((Below.refl w.heap.size w).alloc (Nat.le_refl _) o) 1
theorem nOut.join {Y : Nat → Prop} (h : nOut c mb w1 F j) (hY : ¬ Y j) : nOut c mb w1 (fun b => F b ∨ Y b) j := ⟨h.1, h.2.1, h.2.2.1, fun hf => by rcases hf with hf | hf; exact h.2.2.2.1 hf; exact hY hf, h.2.2.2.2⟩
theorem nBk.join {Y : Nat → Prop} (h : nBk c mb w1 F j o) (hY : ¬ Y j) : nBk c mb w1 (fun b => F b ∨ Y b) j o := ⟨h.1, h.2.join hY⟩
/-- A row of one tree. -/
theorem sl_one {t : Ty} {cs : List Value} {sb : Nat} {ty : TypeId} {fr : Nat × Nat} (ht : TyU w F t cs) (hF : F sb) (hb : w.heap[sb]? = some (.cells cs.toArray ty fr)) : SlS w F 3 (TyU w F) (some ⟨sb, 0, none⟩) 1 [t] := by
  refine ⟨rfl, fun _ => ⟨sb, 0, rfl, hF, lt_of_block hb, fun i a ha => ?_⟩⟩
  cases i with
  | zero =>
    obtain rfl := Option.some.inj ha
    exact ⟨cs, ht, fun j v hv => by rw [show 0 + 0 * 3 + j = j by omega, block_cell hb]; simpa using hv⟩
  | succ i => simp at ha
theorem pK_one (K : Nat) (n : Nat) (h : K = 2 ∨ K = 3) : pK ⟨K, [], [n]⟩ = (if K = 2 then 82 else 76) :: toldL (n : Int) := by
  rcases h with rfl | rfl <;> simp [pK]
theorem info_nd : (Tryd.prog.info? 77).map (fun i => (i.zero, i.size, i.bytes)) = some (some (.agg #[.int .i64 0, .int .i64 0, .slice none 0 0, .slice none 0 0]), 4, 64) := by kernel_rfl
/-- A block of one's own behind the row's growth. -/
theorem nBk.last (h : nBk c mb w1 F j o) (hb : w3.heap[c]? = some (.cells #[.string s, .int .i64 i, .int .i64 (-1), .map (some mb), v] 69 (0, 0))) (hj : w3.heap[j]? = some o) (hv : v.ownBlock ≠ some j) {N : Nat} (hN : j < N) (hv' : v'.ownBlock = v.ownBlock ∨ v'.ownBlock = some N) : nBk c mb (w3.setCell ⟨c, 4, none⟩ v') F j o := by
  refine ⟨block_set_other hj _ _ h.2.1, h.2.1, h.2.2.1, fun ⟨s', i', q', v2, g1, g2⟩ => ?_, h.2.2.2.2.1, by have := lt_of_block hj; simpa using this⟩
  have hb4 := block_set (i := 4) hb v'
  have hb5 : (w3.setCell ⟨c, 4, none⟩ v').heap[c]? = some (.cells #[.string s, .int .i64 i, .int .i64 (-1), .map (some mb), v'] 69 (0, 0)) := by simpa using hb4
  obtain rfl := nbox_inj hb5 g1
  rcases hv' with hv' | hv'
  · rw [hv'] at g2; exact hv g2
  · rw [hv'] at g2; have := Option.some.inj g2; omega
end
section
variable {s : ByteArray} {f : Nat} {D D2 : List Nd} {i j e : Nat}
theorem dOne_S (h : s.data.toList[i]? = some 83) : dOne s (f + 1) D i = dAgain s D i := by rw [dOne, if_pos h]
theorem dOne_N (h : s.data.toList[i]? = some 78) : dOne s (f + 1) D i = (dName s (dOne s f) D i).bind fun j x => dNew x.2.2 i ⟨1, x.2.1, []⟩ (Ty.mk 1 x.1 []) j := by rw [dOne, if_neg (by rw [h]; decide), if_pos h]
theorem dOne_R (h : s.data.toList[i]? = some 82) : dOne s (f + 1) D i = (dOne s f D (i + 1)).bind fun j x => dNew x.2.2 i ⟨2, [], [x.1]⟩ (Ty.mk 2 [] [x.2.1]) j := by rw [dOne, if_neg (by rw [h]; decide), if_neg (by rw [h]; decide), if_pos h]
theorem dOne_L (h : s.data.toList[i]? = some 76) : dOne s (f + 1) D i = (dOne s f D (i + 1)).bind fun j x => dNew x.2.2 i ⟨3, [], [x.1]⟩ (Ty.mk 3 [] [x.2.1]) j := by rw [dOne, if_neg (by rw [h]; decide), if_neg (by rw [h]; decide), if_neg (by rw [h]; decide), if_pos h]
theorem dOne_F (h : s.data.toList[i]? = some 70) : dOne s (f + 1) D i = (dTys s (dOne s f) (s.size + 1) [] [] D (i + 1)).bind fun j x => dNew x.2.2 i ⟨4, [], x.2.1⟩ (Ty.mk 4 [] x.1) j := by rw [dOne, if_neg (by rw [h]; decide), if_neg (by rw [h]; decide), if_neg (by rw [h]; decide), if_neg (by rw [h]; decide), if_pos h]
theorem dOne_no (h1 : ¬ s.data.toList[i]? = some 83) (h2 : ¬ s.data.toList[i]? = some 78) (h3 : ¬ s.data.toList[i]? = some 82) (h4 : ¬ s.data.toList[i]? = some 76) (h5 : ¬ s.data.toList[i]? = some 70) : dOne s (f + 1) D i = .bad i := by rw [dOne, if_neg h1, if_neg h2, if_neg h3, if_neg h4, if_neg h5]
theorem dNew_no {sh : Shp} {t : Ty} (h : sh ∈ D.map (·.1)) : dNew D i sh t j = .bad i := by rw [dNew, if_pos h]
theorem dNew_ok {sh : Shp} {t : Ty} (h : sh ∉ D.map (·.1)) : dNew D i sh t j = .ok j (D.length, t, D ++ [(sh, t)]) := by rw [dNew, if_neg h]
/-- What parts answers on. -/
structure NamGo (s : ByteArray) (D : List Nd) (i j : Nat) (x : List Part × List (ByteArray × List Nat) × List Nd) : Prop where
  lt : i + 2 ≤ j
  le : j ≤ s.size
  ext : Ext D x.2.2 (i + 2) j
  sh : ShOk ⟨1, x.2.1, []⟩
theorem nam_go (hi : i ≤ s.size) (hD : NOk D) {x : List Part × List (ByteArray × List Nat) × List Nd} (h : dName s (dOne s f) D i = .ok j x) : NamGo s D i j x := by
  have := dName_out (dOne_out s f) D i hi hD
  rw [h] at this
  exact ⟨this.1, this.2.1, this.2.2.1, .inl ⟨rfl, rfl, fun p hp => (this.2.2.2 p hp).1⟩⟩
end
/-- One, where the byte at hand is b. -/
def nOneAt (s : ByteArray) (f : Nat) (b : UInt8) : Prop := ∀ (B c mb : Nat) (D : List Nd) (F : Nat → Prop) (i : Nat) (d : Int) (w : World), B ≤ w.heap.size → Tab10 B w → s.size ≤ 8000 → D.length ≤ i → d = 12 - (f : Int) → nS B c mb s i (-1) D F w → s.data.toList[i]? = some b →
  Calls Tryd.prog 27 #[.pointer (some ⟨c, 0, none⟩), .int .i64 d] w fun e w' => RP (dOne s f D i)
    (fun e0 => e = .returned (.agg #[.int .i64 0, .int .i64 0, .slice none 0 0, .slice none 0 0]) ∧ ∃ (j : Nat) (D' : List Nd) (F' : Nat → Prop), j ≤ s.size + 2 * f + 2 ∧ nR B c mb s j e0 D' F F' w w')
    (fun j x => ∃ (F' : Nat → Prop) (k : Int) (A : Option Addr) (n q : Nat) (A' : Option Addr) (n' q' : Nat), e = .returned (.agg #[.int .i64 x.1, .int .i64 k, .slice A n q, .slice A' n' q']) ∧ TyU w' F' x.2.1 [.int .i64 k, .slice A n q, .slice A' n' q'] ∧ nR B c mb s j (-1) x.2.2 F F' w w')
theorem has_pK {D : List Nd} (hD : NOk D) {sh : Shp} (hs : ShOk sh) {kb : ByteArray} (hk : kb.data.toList = pK sh) : Maps.has (idxD (pKs D)) (.string kb.data.toList) = decide (sh ∈ D.map (·.1)) := by rw [idxD_has, hk, pKs_mem hD hs]
end Go.Proofs.YtocpmbpckbjepaaDoor

/- Walk of one of the program's reader of mangled names, a name (printed by gen_dg.py). -/
namespace Go.Proofs.YtocpmbpckbjepaaDoor
open Go.RowKit
set_option linter.unusedVariables false
set_option linter.unusedSimpArgs false
set_option maxRecDepth 100000 in
set_option maxHeartbeats 16000000 in
theorem nOne_N {s : ByteArray} {f : Nat} (HN : nNamOk s f) (hf : f + 1 ≤ 12) : nOneAt s (f + 1) 78 := by
  intro B c mb D F i d w hBw htb hs hDi hd h hb
  have hi := get_lt hb
  have HOK := hide h.ok
  have HRA := hide ((nR.refl h).alloc hBw (.cells #[.int .i64 0, .int .i64 0, .slice none 0 0, .slice none 0 0] 77))
  have HBA := hide (nBk.new h (.cells #[.int .i64 0, .int .i64 0, .slice none 0 0, .slice none 0 0] 77))
  have hrb : w.heap.size ≤ w.heap.size := Nat.le_refl _
  have c1 := HRA.out.st.c1
  have HPK := hide (nPeek B c mb s D F _ (Nat.le_trans hBw HRA.out.size) i hs HRA.out.st)
  rw [pkB_is hb] at HPK
  have HTB := hide htb
  have HDD := hide hd
  have hdeep : decide ((12 : Int) ≤ d) = false := by simp; omega
  have hdd : ¬ (12 : Int) ≤ d := by omega
  have hdw : wrap64 (d + 1) = d + 1 := (by unfold wrap64; omega)
  clear h htb hd
  have HNM := hide (fun (W : World) (h : nR B c mb s i (-1) D F F w W) => HN B c mb D F i (d + 1) W (Nat.le_trans hBw h.size) (HTB.out.below h.be) hs (by omega) hDi (by have := HDD.out; omega) h.st)
  have HX := hide (dOne_N (f := f) (D := D) hb)
  clear HN hb
  cases hn : dName s (dOne s f) D i with
  | bad e0 =>
    have HND := hide hn
    have HE := hide (show dOne s (f + 1) D i = .bad e0 by rw [HX.out, hn]; rfl)
    clear hn HX
    go_enter Tryd.func27, Tryd.ntmps27
    go_wp2_with (first | (go_at_call 26; refine HPK.out.mono ?_; rintro e w1 ⟨rfl, hr⟩; have HR1 := hide (HRA.out.trans hr); have HB1 := hide (HBA.out.step hr); have hw1 : w.heap.size ≤ w1.heap.size := HR1.out.size; have hlt1 : w.heap.size < w1.heap.size := HB1.out.2.2.2.2.2; have hr2 := (nR.refl HR1.out.st).alloc (Nat.le_trans hBw HR1.out.size) (.cells #[.int .i64 0, .slice none 0 0, .slice none 0 0] 75); have HR2 := hide (HR1.out.trans hr2); have HB2 := hide (HB1.out.step hr2); have HT2 := hide (nBk.new HR1.out.st (.cells #[.int .i64 0, .slice none 0 0, .slice none 0 0] 75)); have t0 := block_cell HT2.out.1 0; have ft0 := block_free HT2.out.1 0; have hr3 := (nR.refl HR1.out.st).alloc (Nat.le_trans hBw HR1.out.size) (.cells #[.int .i64 1, .slice none 0 0, .slice none 0 0] 75); have HR3 := hide (HR1.out.trans hr3); have HB3 := hide (HB1.out.step hr3); have HT3 := hide (nBk.new HR1.out.st (.cells #[.int .i64 1, .slice none 0 0, .slice none 0 0] 75)); clear hr3; clear hr hr2 HPK) | (go_at_call 25; refine (HNM.out _ HR3.out).mono ?_; intro e w4 hrp; obtain ⟨A, n, q, kb, rfl, y, D4, F4, hy, hr⟩ := hrp.of_bad HND.out; have HR4 := hide (HR3.out.trans hr); have HB4 := hide (HB3.out.step hr); have HT4 := hide (HT3.out.step hr); have u1 := block_cell HT4.out.1 1; have fu1 := block_free HT4.out.1 1; have HR5 := hide (HR4.out.other (k := 1) hBw hw1 HT4.out.2 (.slice A n q)); have HB5 := hide (HB4.out.other (k := 1) HR4.out.st HT4.out.2.1 (by omega) (.slice A n q)); have c2 := HR5.out.st.c2; have r0 := block_cell HB5.out.1 0; have r1 := block_cell HB5.out.1 1; have r2 := block_cell HB5.out.1 2; have r3 := block_cell HB5.out.1 3; have fr0 := block_free HB5.out.1 0; have fr1 := block_free HB5.out.1 1; have fr2 := block_free HB5.out.1 2; have fr3 := block_free HB5.out.1 3; clear hr hrp))
    obtain ⟨hrz, hbz, hsz⟩ := nFin HR5.out hBw HB5.out hrb (.int .i64 0) (.int .i64 0) (.slice none 0 0) (.slice none 0 0)
    generalize World.setCell _ (⟨w.heap.size, 3, none⟩ : Addr) _ = wz at hrz hbz hsz ⊢
    have z0 := block_cell hbz 0
    have z1 := block_cell hbz 1
    have z2 := block_cell hbz 2
    have z3 := block_cell hbz 3
    simp at z0 z1 z2 z3
    ((try simp only [Exit.inBlock, Exit.then]); refine bodyPost_ret (by simp [results, Tryd.results27, go_sem, z0, z1, z2, z3]; try rfl) rfl ?_)
    exact RP.bad HE.out ⟨rfl, y, D4, F4, by omega, hrz⟩
  | ok j z =>
    obtain ⟨l, sh, D2⟩ := z
    have hgo := nam_go (by omega) HOK.out hn
    have hij := hgo.lt
    have hjs := hgo.le
    have hle := hgo.ext.len
    have hsh := hgo.sh
    have hok2 := hgo.ext.ok
    simp only at hle hsh hok2
    have HND := hide hn
    have HSH := hide hsh
    have HHS := hide (fun (kb : ByteArray) (hk : kb.data.toList = 78 :: pPartsK sh) => has_pK hok2 hsh (kb := kb) (by rw [hk]; rfl))
    clear hn hgo hsh hok2
    by_cases hm : (⟨1, sh, []⟩ : Shp) ∈ D2.map (·.1)
    · have HE := hide (show dOne s (f + 1) D i = .bad i by rw [HX.out, HND.out]; simp only [Res.bind]; rw [dNew_no hm])
      simp only [hm, decide_true] at HHS
      clear hm HX
      go_enter Tryd.func27, Tryd.ntmps27
      go_wp2_with (first | (go_at_call 26; refine HPK.out.mono ?_; rintro e w1 ⟨rfl, hr⟩; have HR1 := hide (HRA.out.trans hr); have HB1 := hide (HBA.out.step hr); have hw1 : w.heap.size ≤ w1.heap.size := HR1.out.size; have hlt1 : w.heap.size < w1.heap.size := HB1.out.2.2.2.2.2; have hr2 := (nR.refl HR1.out.st).alloc (Nat.le_trans hBw HR1.out.size) (.cells #[.int .i64 0, .slice none 0 0, .slice none 0 0] 75); have HR2 := hide (HR1.out.trans hr2); have HB2 := hide (HB1.out.step hr2); have HT2 := hide (nBk.new HR1.out.st (.cells #[.int .i64 0, .slice none 0 0, .slice none 0 0] 75)); have t0 := block_cell HT2.out.1 0; have ft0 := block_free HT2.out.1 0; have hr3 := (nR.refl HR1.out.st).alloc (Nat.le_trans hBw HR1.out.size) (.cells #[.int .i64 1, .slice none 0 0, .slice none 0 0] 75); have HR3 := hide (HR1.out.trans hr3); have HB3 := hide (HB1.out.step hr3); have HT3 := hide (nBk.new HR1.out.st (.cells #[.int .i64 1, .slice none 0 0, .slice none 0 0] 75)); clear hr3; clear hr hr2 HPK) | (go_at_call 25; refine (HNM.out _ HR3.out).mono ?_; intro e w4 hrp; obtain ⟨F2, A, n, q, kb, rfl, hkb, hkz, hnq, hqm, hsl, hr⟩ := hrp.of_ok HND.out; have HR4 := hide (HR3.out.trans hr); have HB4 := hide (HB3.out.step hr); have HT4 := hide (HT3.out.step hr); have u1 := block_cell HT4.out.1 1; have fu1 := block_free HT4.out.1 1; have HR5 := hide (HR4.out.other (k := 1) hBw hw1 HT4.out.2 (.slice A n q)); have HB5 := hide (HB4.out.other (k := 1) HR4.out.st HT4.out.2.1 (by omega) (.slice A n q)); have HT5 := hide (HT4.out.set (k := 1) HR4.out.st (.slice A n q)); have HTY := hide (ty_name (hsl.stay (S' := F2) (R' := PartU (w4.setCell ⟨w1.heap.size, 1, none⟩ (.slice A n q)) F2) (stay_own HT4.out.2) (fun _ h _ => h) (fun a _ cs h => stay_partU _ _ _ _ a cs h (stay_own HT4.out.2) (fun _ h _ => h))) hnq hqm); have hkm : kb.size ≤ maxLen := (by unfold maxLen; omega); have c2 := HR5.out.st.c2; have c3 := HR5.out.st.c3; have HHAS := hide (HHS.out kb hkb); have HKB := hide (show kb.data.toList = pK ⟨1, sh, []⟩ from hkb); clear hr hrp hsl hkb) | (at_lookup; refine Go.wpList_lookup_own_ok_int _ rfl _ _ 49 rfl 9 3 .i64 law_strD Tryd.underlying49 Tryd.underlying3 (zero_intD _) mb _ _ rfl HR5.out.st.map (.string kb) _ rfl (key_ofD kb hkm) ?_; intro c' hat hwc; rw [HHAS.out]; clear hat hwc) | (go_at_call 28; refine (nFail_new B c mb s D2 F2 _ (Nat.le_trans hBw HR5.out.size) j i HR5.out.st).mono ?_; rintro e w6 ⟨rfl, hr⟩; have HR6 := hide (HR5.out.trans hr); have HB6 := hide (HB5.out.step hr); have r0 := block_cell HB6.out.1 0; have r1 := block_cell HB6.out.1 1; have r2 := block_cell HB6.out.1 2; have r3 := block_cell HB6.out.1 3; have fr0 := block_free HB6.out.1 0; have fr1 := block_free HB6.out.1 1; have fr2 := block_free HB6.out.1 2; have fr3 := block_free HB6.out.1 3; clear hr))
      obtain ⟨hrz, hbz, hsz⟩ := nFin HR6.out hBw HB6.out hrb (.int .i64 0) (.int .i64 0) (.slice none 0 0) (.slice none 0 0)
      generalize World.setCell _ (⟨w.heap.size, 3, none⟩ : Addr) _ = wz at hrz hbz hsz ⊢
      have z0 := block_cell hbz 0
      have z1 := block_cell hbz 1
      have z2 := block_cell hbz 2
      have z3 := block_cell hbz 3
      simp at z0 z1 z2 z3
      ((try simp only [Exit.inBlock, Exit.then]); refine bodyPost_ret (by simp [results, Tryd.results27, go_sem, z0, z1, z2, z3]; try rfl) rfl ?_)
      exact RP.bad HE.out ⟨rfl, j, D2, F2, by omega, hrz⟩
    · have HE := hide (show dOne s (f + 1) D i = .ok j (D2.length, Ty.mk 1 l [], D2 ++ [(⟨1, sh, []⟩, Ty.mk 1 l [])]) by rw [HX.out, HND.out]; simp only [Res.bind]; rw [dNew_ok hm])
      simp only [hm, decide_false] at HHS
      have HM := hide hm
      clear hm HX
      go_enter Tryd.func27, Tryd.ntmps27
      go_wp2_with (first | (go_at_call 26; refine HPK.out.mono ?_; rintro e w1 ⟨rfl, hr⟩; have HR1 := hide (HRA.out.trans hr); have HB1 := hide (HBA.out.step hr); have hw1 : w.heap.size ≤ w1.heap.size := HR1.out.size; have hlt1 : w.heap.size < w1.heap.size := HB1.out.2.2.2.2.2; have hr2 := (nR.refl HR1.out.st).alloc (Nat.le_trans hBw HR1.out.size) (.cells #[.int .i64 0, .slice none 0 0, .slice none 0 0] 75); have HR2 := hide (HR1.out.trans hr2); have HB2 := hide (HB1.out.step hr2); have HT2 := hide (nBk.new HR1.out.st (.cells #[.int .i64 0, .slice none 0 0, .slice none 0 0] 75)); have t0 := block_cell HT2.out.1 0; have ft0 := block_free HT2.out.1 0; have hr3 := (nR.refl HR1.out.st).alloc (Nat.le_trans hBw HR1.out.size) (.cells #[.int .i64 1, .slice none 0 0, .slice none 0 0] 75); have HR3 := hide (HR1.out.trans hr3); have HB3 := hide (HB1.out.step hr3); have HT3 := hide (nBk.new HR1.out.st (.cells #[.int .i64 1, .slice none 0 0, .slice none 0 0] 75)); clear hr3; clear hr hr2 HPK) | (go_at_call 25; refine (HNM.out _ HR3.out).mono ?_; intro e w4 hrp; obtain ⟨F2, A, n, q, kb, rfl, hkb, hkz, hnq, hqm, hsl, hr⟩ := hrp.of_ok HND.out; have HR4 := hide (HR3.out.trans hr); have HB4 := hide (HB3.out.step hr); have HT4 := hide (HT3.out.step hr); have u1 := block_cell HT4.out.1 1; have fu1 := block_free HT4.out.1 1; have HR5 := hide (HR4.out.other (k := 1) hBw hw1 HT4.out.2 (.slice A n q)); have HB5 := hide (HB4.out.other (k := 1) HR4.out.st HT4.out.2.1 (by omega) (.slice A n q)); have HT5 := hide (HT4.out.set (k := 1) HR4.out.st (.slice A n q)); have HTY := hide (ty_name (hsl.stay (S' := F2) (R' := PartU (w4.setCell ⟨w1.heap.size, 1, none⟩ (.slice A n q)) F2) (stay_own HT4.out.2) (fun _ h _ => h) (fun a _ cs h => stay_partU _ _ _ _ a cs h (stay_own HT4.out.2) (fun _ h _ => h))) hnq hqm); have hkm : kb.size ≤ maxLen := (by unfold maxLen; omega); have c2 := HR5.out.st.c2; have c3 := HR5.out.st.c3; have HHAS := hide (HHS.out kb hkb); have HKB := hide (show kb.data.toList = pK ⟨1, sh, []⟩ from hkb); clear hr hrp hsl hkb) | (at_lookup; refine Go.wpList_lookup_own_ok_int _ rfl _ _ 49 rfl 9 3 .i64 law_strD Tryd.underlying49 Tryd.underlying3 (zero_intD _) mb _ _ rfl HR5.out.st.map (.string kb) _ rfl (key_ofD kb hkm) ?_; intro c' hat hwc; rw [HHAS.out]; clear hat hwc))
      obtain ⟨w5, hw5⟩ : ∃ x, (w4.setCell ⟨w1.heap.size, 1, none⟩ (.slice A n q)) = x := ⟨_, rfl⟩
      rw [hw5] at HR5 HB5 HT5 HTY ⊢
      obtain ⟨v6, css, hbx, hrow, hrs, hnf⟩ := HR5.out.st.st
      obtain ⟨A6, k6, rfl⟩ := own_sl hrow
      have HBX := hide hbx
      have HROW := hide hrow
      have HRS := hide hrs
      have HNF := hide hnf
      clear hbx hrow hrs hnf
      refine wp_region_chain (fun W => W.cell? ⟨c, 4, none⟩ = some (.slice A6 D2.length k6) ∧ W.cell? ⟨w1.heap.size, 0, none⟩ = some (.int .i64 1) ∧ W.cell? ⟨w1.heap.size, 1, none⟩ = some (.slice A n q) ∧ W.cell? ⟨w1.heap.size, 2, none⟩ = some (.slice none 0 0)) 8 (by as_aux_lemma => kernel_rfl) (N := 9) (by as_aux_lemma => kernel_rfl) ?_; intro hsh
      have HS : w5.drew.cell? ⟨c, 4, none⟩ = some (.slice A6 D2.length k6) ∧ w5.drew.cell? ⟨w1.heap.size, 0, none⟩ = some (.int .i64 1) ∧ w5.drew.cell? ⟨w1.heap.size, 1, none⟩ = some (.slice A n q) ∧ w5.drew.cell? ⟨w1.heap.size, 2, none⟩ = some (.slice none 0 0) := ⟨block_cell HBX.out 4, block_cell HT5.out.1 0, block_cell HT5.out.1 1, block_cell HT5.out.1 2⟩
      refine wpAnyC_take0 (i := 0) (k := 8) (v := ?_) (d := some 135) rfl (by rfl) (by as_aux_lemma => kernel_rfl) (by as_aux_lemma => kernel_rfl) (by as_aux_lemma => kernel_rfl) hsh (by decide) (by intro _ _ _ h; exact h) (by assumption) (Or.inl ⟨by rfl, ?hy⟩) ?_; (case hy => (intro W _; go_simp; (try with_reducible rfl))); clear hsh; intro hsh
      refine wpAnyC_take0 (i := 1) (k := 8) (v := ?_) (d := some 136) rfl (by rfl) (by as_aux_lemma => kernel_rfl) (by as_aux_lemma => kernel_rfl) (by as_aux_lemma => kernel_rfl) hsh (by decide) (by intro _ _ _ h; exact h) (by assumption) (Or.inl ⟨by rfl, ?hy⟩) ?_; (case hy => (intro W _; go_simp; (try with_reducible rfl))); clear hsh; intro hsh
      refine wpAnyC_take0 (i := 2) (k := 8) (v := ?_) (d := some 137) rfl (by rfl) (by as_aux_lemma => kernel_rfl) (by as_aux_lemma => kernel_rfl) (by as_aux_lemma => kernel_rfl) hsh (by decide) (by intro _ _ _ h; exact h) (by assumption) (Or.inl ⟨by rfl, ?hy⟩) ?_; (case hy => (intro W _; go_simp; (try with_reducible rfl))); clear hsh; intro hsh
      refine wpAnyC_take (i := 3) (k := 8) (f := 40) (v := ?_) (d := some 138) rfl (by rfl) (by as_aux_lemma => kernel_rfl) (by as_aux_lemma => kernel_rfl) (by as_aux_lemma => kernel_rfl) hsh (by decide) (by as_aux_lemma => kernel_rfl) (by intro _ _ _ h; exact h) (by assumption) (Or.inl ⟨by rfl, ?hy⟩) ?_; (case hy => (rintro W ⟨y0, y1, y2, y3⟩; go_simp; (try with_reducible rfl))); clear hsh; intro hsh
      refine wpAnyC_take0 (i := 4) (k := 8) (v := ?_) (d := some 139) rfl (by rfl) (by as_aux_lemma => kernel_rfl) (by as_aux_lemma => kernel_rfl) (by as_aux_lemma => kernel_rfl) hsh (by decide) (by intro _ _ _ h; exact h) (by assumption) (Or.inl ⟨by rfl, ?hy⟩) ?_; (case hy => (intro W _; go_simp; (try with_reducible rfl))); clear hsh; intro hsh
      refine wpAnyC_take (i := 5) (k := 8) (f := 40) (v := ?_) (d := some 140) rfl (by rfl) (by as_aux_lemma => kernel_rfl) (by as_aux_lemma => kernel_rfl) (by as_aux_lemma => kernel_rfl) hsh (by decide) (by as_aux_lemma => kernel_rfl) (by intro _ _ _ h; exact h) (by assumption) (Or.inl ⟨by rfl, ?hy⟩) ?_; (case hy => (rintro W ⟨y0, y1, y2, y3⟩; go_simp; (try with_reducible rfl))); clear hsh; intro hsh
      refine wpAnyC_take0 (i := 6) (k := 8) (v := ?_) (d := some 141) rfl (by rfl) (by as_aux_lemma => kernel_rfl) (by as_aux_lemma => kernel_rfl) (by as_aux_lemma => kernel_rfl) hsh (by decide) (by intro _ _ _ h; exact h) (by assumption) (Or.inl ⟨by rfl, ?hy⟩) ?_; (case hy => (intro W _; go_simp; (try with_reducible rfl))); clear hsh; intro hsh
      refine wpAnyC_ready (rs := [7]) (by as_aux_lemma => kernel_rfl) (by simp) ?_; refine AllC.cons (i := 7) rfl (by as_aux_lemma => kernel_rfl) hsh (fun K hK => ?_) AllC.nil
      go_simp
      have HBx : Hid (Below w5.heap.size w5 (w5.drew.alloc (.cells #[.int .i64 0, .int .i64 0, .slice none 0 0, .slice none 0 0] 77))) := hide ((below_drewN (Below.refl w5.heap.size w5) 1).alloc (Nat.le_refl _) _)
      have HS2 : (w5.drew.alloc (.cells #[.int .i64 0, .int .i64 0, .slice none 0 0, .slice none 0 0] 77)).cell? ⟨c, 4, none⟩ = some (.slice A6 D2.length k6) ∧ (w5.drew.alloc (.cells #[.int .i64 0, .int .i64 0, .slice none 0 0, .slice none 0 0] 77)).cell? ⟨w1.heap.size, 0, none⟩ = some (.int .i64 1) ∧ (w5.drew.alloc (.cells #[.int .i64 0, .int .i64 0, .slice none 0 0, .slice none 0 0] 77)).cell? ⟨w1.heap.size, 1, none⟩ = some (.slice A n q) ∧ (w5.drew.alloc (.cells #[.int .i64 0, .int .i64 0, .slice none 0 0, .slice none 0 0] 77)).cell? ⟨w1.heap.size, 2, none⟩ = some (.slice none 0 0) := ⟨block_cell (block_below HBX.out HBx.out) 4, block_cell (block_below HT5.out.1 HBx.out) 0, block_cell (block_below HT5.out.1 HBx.out) 1, block_cell (block_below HT5.out.1 HBx.out) 2⟩
      refine hK _ _ (fun _ => HS2) ?_
      clear hK K hsh HS
      intro hsh
      refine wpAnyC_tail (by as_aux_lemma => kernel_rfl) (by simp) (by as_aux_lemma => kernel_rfl) ?_; simp only [List.drop_succ_cons, List.drop_zero]; clear hsh
      clear HS2
      go_simp
      go_wp2_with (fail)
      have hr6 := (nR.refl HR5.out.st).below (Nat.le_trans hBw HR5.out.size) (below_ad w5 (.cells #[.int .i64 (D2.length : Nat), .int .i64 1, .slice A n q, .slice none 0 0] 77))
      have HR6 := hide (HR5.out.trans hr6)
      have HBX6 := hide (block_below HBX.out (below_ad w5 (.cells #[.int .i64 (D2.length : Nat), .int .i64 1, .slice A n q, .slice none 0 0] 77)))
      have HROW6 := hide (own_stay HROW.out (w' := (w5.alloc (.cells #[.int .i64 (D2.length : Nat), .int .i64 1, .slice A n q, .slice none 0 0] 77)).drew) (fun g o _ e => block_below e (below_ad w5 _)))
      have HST6 : StayS F2 w5 ((w5.alloc (.cells #[.int .i64 (D2.length : Nat), .int .i64 1, .slice A n q, .slice none 0 0] 77)).drew) := ⟨(below_ad w5 _).size, fun b o _ e => block_below e (below_ad w5 _)⟩
      have HRS6 := hide (HRS.out.stay HST6 (fun _ h => h))
      have HN6 := hide ((nBk.new HR5.out.st (.cells #[.int .i64 (D2.length : Nat), .int .i64 1, .slice A n q, .slice none 0 0] 77)).step ((nR.refl (HR5.out.alloc hBw (.cells #[.int .i64 (D2.length : Nat), .int .i64 1, .slice A n q, .slice none 0 0] 77)).st).drew (Nat.le_trans hBw (HR5.out.alloc hBw (.cells #[.int .i64 (D2.length : Nat), .int .i64 1, .slice A n q, .slice none 0 0] 77)).size)))
      have HB6 := hide (HB5.out.step hr6)
      have HTY6 := hide (stay_tyU _ _ _ _ _ _ HTY.out HST6 (fun _ h _ => h))
      have hnb : w5.heap.size < (w5.alloc (.cells #[.int .i64 (D2.length : Nat), .int .i64 1, .slice A n q, .slice none 0 0] 77)).drew.heap.size := HN6.out.2.2.2.2.2
      have hnc : w5.heap.size ≠ c := HN6.out.2.1
      have hnr : w5.heap.size ≠ w.heap.size := by have := HB5.out.2.2.2.2.2; omega
      obtain ⟨w6, hw6⟩ : ∃ x, (w5.alloc (.cells #[.int .i64 (D2.length : Nat), .int .i64 1, .slice A n q, .slice none 0 0] 77)).drew = x := ⟨_, rfl⟩
      rw [hw6] at HR6 HBX6 HROW6 HRS6 HN6 HB6 HTY6 hnb ⊢
      clear hw6 HST6 hr6 HRS HROW HBX HT5 HR5 HB5 HTY HBx
      refine wp_region_chain (fun W => W.cell? ⟨c, 3, none⟩ = some (.map (some mb)) ∧ W.cell? ⟨w5.heap.size, 0, none⟩ = some (.int .i64 (D2.length : Nat))) 7 (by as_aux_lemma => kernel_rfl) (N := 8) (by as_aux_lemma => kernel_rfl) ?_; intro hsh
      have HS : w6.drew.cell? ⟨c, 3, none⟩ = some (.map (some mb)) ∧ w6.drew.cell? ⟨w5.heap.size, 0, none⟩ = some (.int .i64 (D2.length : Nat)) := ⟨HR6.out.st.c3, block_cell HN6.out.1 0⟩
      refine wpAnyC_take0 (i := 0) (k := 7) (v := ?_) (d := some 142) rfl (by rfl) (by as_aux_lemma => kernel_rfl) (by as_aux_lemma => kernel_rfl) (by as_aux_lemma => kernel_rfl) hsh (by decide) (by intro _ _ _ h; exact h) (by assumption) (Or.inl ⟨by rfl, ?hy⟩) ?_; (case hy => (intro W _; go_simp; (try with_reducible rfl))); clear hsh; intro hsh
      refine wpAnyC_take0 (i := 1) (k := 7) (v := ?_) (d := some 143) rfl (by rfl) (by as_aux_lemma => kernel_rfl) (by as_aux_lemma => kernel_rfl) (by as_aux_lemma => kernel_rfl) hsh (by decide) (by intro _ _ _ h; exact h) (by assumption) (Or.inl ⟨by rfl, ?hy⟩) ?_; (case hy => (intro W _; go_simp; (try with_reducible rfl))); clear hsh; intro hsh
      refine wpAnyC_take0 (i := 2) (k := 7) (v := ?_) (d := some 144) rfl (by rfl) (by as_aux_lemma => kernel_rfl) (by as_aux_lemma => kernel_rfl) (by as_aux_lemma => kernel_rfl) hsh (by decide) (by intro _ _ _ h; exact h) (by assumption) (Or.inl ⟨by rfl, ?hy⟩) ?_; (case hy => (intro W _; go_simp; (try with_reducible rfl))); clear hsh; intro hsh
      refine wpAnyC_take (i := 3) (k := 7) (f := 40) (v := ?_) (d := some 145) rfl (by rfl) (by as_aux_lemma => kernel_rfl) (by as_aux_lemma => kernel_rfl) (by as_aux_lemma => kernel_rfl) hsh (by decide) (by as_aux_lemma => kernel_rfl) (by intro _ _ _ h; exact h) (by assumption) (Or.inl ⟨by rfl, ?hy⟩) ?_; (case hy => (rintro W ⟨y0, y1⟩; go_simp; (try with_reducible rfl))); clear hsh; intro hsh
      refine wpAnyC_take0 (i := 4) (k := 7) (v := ?_) (d := some 146) rfl (by rfl) (by as_aux_lemma => kernel_rfl) (by as_aux_lemma => kernel_rfl) (by as_aux_lemma => kernel_rfl) hsh (by decide) (by intro _ _ _ h; exact h) (by assumption) (Or.inl ⟨by rfl, ?hy⟩) ?_; (case hy => (intro W _; go_simp; (try with_reducible rfl))); clear hsh; intro hsh
      refine wpAnyC_take0 (i := 5) (k := 7) (v := ?_) (d := some 147) rfl (by rfl) (by as_aux_lemma => kernel_rfl) (by as_aux_lemma => kernel_rfl) (by as_aux_lemma => kernel_rfl) hsh (by decide) (by intro _ _ _ h; exact h) (by assumption) (Or.inl ⟨by rfl, ?hy⟩) ?_; (case hy => (intro W _; go_simp; (try with_reducible rfl))); clear hsh; intro hsh
      refine wpAnyC_take (i := 6) (k := 7) (f := 40) (v := ?_) (d := some 148) rfl (by rfl) (by as_aux_lemma => kernel_rfl) (by as_aux_lemma => kernel_rfl) (by as_aux_lemma => kernel_rfl) hsh (by decide) (by as_aux_lemma => kernel_rfl) (by intro _ _ _ h; exact h) (by assumption) (Or.inl ⟨by rfl, ?hy⟩) ?_; (case hy => (rintro W ⟨y0, y1⟩; go_simp; (try with_reducible rfl))); clear hsh; intro hsh
      refine wpAnyC_tail (by as_aux_lemma => kernel_rfl) (by simp) (by as_aux_lemma => kernel_rfl) ?_; simp only [List.drop_succ_cons, List.drop_zero]; clear hsh
      clear HS
      go_simp
      go_wp2_with (at_mapUpdate; refine wpList_mapUpdate_own _ rfl _ _ _ 49 rfl 9 3 law_strD Tryd.underlying49 _ mb D2.length _ rfl HR6.out.st.map (by unfold maxLen; omega) _ _ _ rfl rfl (key_ofD kb hkm) _ [] (Go.plainElem_int Tryd.underlying3 (wf_intD (by omega))) ?_; intro w7 hown7 hg7; rw [HKB.out] at hown7; have HM7 := hide (nMid.start (x := (⟨1, sh, []⟩, Ty.mk 1 l [])) HR6.out hBw HBX6.out HROW6.out HRS6.out HNF.out (below_drewN (Below.refl _ _) 1) hown7 hg7); have HN7 := hide (HN6.out.mid (below_drewN (Below.refl _ _) 1) hg7); have HB7 := hide (HB6.out.mid (below_drewN (Below.refl _ _) 1) hg7); have HTY7 := hide (stay_tyU _ _ _ _ _ _ HTY6.out (stay_mid HR6.out.st (below_drewN (Below.refl _ _) 1) hg7) (fun _ h _ => h)); clear hown7 hg7)
      refine wp_region_chain (fun W => W.cell? ⟨c, 4, none⟩ = some (.slice A6 D2.length k6) ∧ W.cell? ⟨w5.heap.size, 0, none⟩ = some (.int .i64 (D2.length : Nat)) ∧ W.cell? ⟨w5.heap.size, 1, none⟩ = some (.int .i64 1) ∧ W.cell? ⟨w5.heap.size, 2, none⟩ = some (.slice A n q) ∧ W.cell? ⟨w5.heap.size, 3, none⟩ = some (.slice none 0 0)) 7 (by as_aux_lemma => kernel_rfl) (N := 11) (by as_aux_lemma => kernel_rfl) ?_; intro hsh
      have HS : w7.drew.cell? ⟨c, 4, none⟩ = some (.slice A6 D2.length k6) ∧ w7.drew.cell? ⟨w5.heap.size, 0, none⟩ = some (.int .i64 (D2.length : Nat)) ∧ w7.drew.cell? ⟨w5.heap.size, 1, none⟩ = some (.int .i64 1) ∧ w7.drew.cell? ⟨w5.heap.size, 2, none⟩ = some (.slice A n q) ∧ w7.drew.cell? ⟨w5.heap.size, 3, none⟩ = some (.slice none 0 0) := ⟨block_cell HM7.out.box 4, block_cell HN7.out 0, block_cell HN7.out 1, block_cell HN7.out 2, block_cell HN7.out 3⟩
      refine wpAnyC_take0 (i := 0) (k := 7) (v := ?_) (d := some 149) rfl (by rfl) (by as_aux_lemma => kernel_rfl) (by as_aux_lemma => kernel_rfl) (by as_aux_lemma => kernel_rfl) hsh (by decide) (by intro _ _ _ h; exact h) (by assumption) (Or.inl ⟨by rfl, ?hy⟩) ?_; (case hy => (intro W _; go_simp; (try with_reducible rfl))); clear hsh; intro hsh
      refine wpAnyC_take0 (i := 1) (k := 7) (v := ?_) (d := some 150) rfl (by rfl) (by as_aux_lemma => kernel_rfl) (by as_aux_lemma => kernel_rfl) (by as_aux_lemma => kernel_rfl) hsh (by decide) (by intro _ _ _ h; exact h) (by assumption) (Or.inl ⟨by rfl, ?hy⟩) ?_; (case hy => (intro W _; go_simp; (try with_reducible rfl))); clear hsh; intro hsh
      refine wpAnyC_take0 (i := 2) (k := 7) (v := ?_) (d := some 151) rfl (by rfl) (by as_aux_lemma => kernel_rfl) (by as_aux_lemma => kernel_rfl) (by as_aux_lemma => kernel_rfl) hsh (by decide) (by intro _ _ _ h; exact h) (by assumption) (Or.inl ⟨by rfl, ?hy⟩) ?_; (case hy => (intro W _; go_simp; (try with_reducible rfl))); clear hsh; intro hsh
      refine wpAnyC_take0 (i := 3) (k := 7) (v := ?_) (d := some 152) rfl (by rfl) (by as_aux_lemma => kernel_rfl) (by as_aux_lemma => kernel_rfl) (by as_aux_lemma => kernel_rfl) hsh (by decide) (by intro _ _ _ h; exact h) (by assumption) (Or.inl ⟨by rfl, ?hy⟩) ?_; (case hy => (intro W _; go_simp; (try with_reducible rfl))); clear hsh; intro hsh
      refine wpAnyC_take (i := 4) (k := 7) (f := 40) (v := ?_) (d := some 153) rfl (by rfl) (by as_aux_lemma => kernel_rfl) (by as_aux_lemma => kernel_rfl) (by as_aux_lemma => kernel_rfl) hsh (by decide) (by as_aux_lemma => kernel_rfl) (by intro _ _ _ h; exact h) (by assumption) (Or.inl ⟨by rfl, ?hy⟩) ?_; (case hy => (rintro W ⟨y0, y1, y2, y3, y4⟩; go_simp; (try with_reducible rfl))); clear hsh; intro hsh
      refine wpAnyC_take (i := 5) (k := 7) (f := 40) (v := ?_) (d := some 154) rfl (by rfl) (by as_aux_lemma => kernel_rfl) (by as_aux_lemma => kernel_rfl) (by as_aux_lemma => kernel_rfl) hsh (by decide) (by as_aux_lemma => kernel_rfl) (by intro _ _ _ h; exact h) (by assumption) (Or.inl ⟨by rfl, ?hy⟩) ?_; (case hy => (rintro W ⟨y0, y1, y2, y3, y4⟩; go_simp; (try with_reducible rfl))); clear hsh; intro hsh
      refine wpAnyC_ready (rs := [6]) (by as_aux_lemma => kernel_rfl) (by simp) ?_; refine AllC.cons (i := 6) rfl (by as_aux_lemma => kernel_rfl) hsh (fun K hK => ?_) AllC.nil
      go_simp
      have HS2 : (w7.drew.alloc (.cells #[.int .i64 (D2.length : Nat), .int .i64 1, .slice A n q, .slice none 0 0] 77)).cell? ⟨c, 4, none⟩ = some (.slice A6 D2.length k6) ∧ (w7.drew.alloc (.cells #[.int .i64 (D2.length : Nat), .int .i64 1, .slice A n q, .slice none 0 0] 77)).cell? ⟨w5.heap.size, 0, none⟩ = some (.int .i64 (D2.length : Nat)) ∧ (w7.drew.alloc (.cells #[.int .i64 (D2.length : Nat), .int .i64 1, .slice A n q, .slice none 0 0] 77)).cell? ⟨w5.heap.size, 1, none⟩ = some (.int .i64 1) ∧ (w7.drew.alloc (.cells #[.int .i64 (D2.length : Nat), .int .i64 1, .slice A n q, .slice none 0 0] 77)).cell? ⟨w5.heap.size, 2, none⟩ = some (.slice A n q) ∧ (w7.drew.alloc (.cells #[.int .i64 (D2.length : Nat), .int .i64 1, .slice A n q, .slice none 0 0] 77)).cell? ⟨w5.heap.size, 3, none⟩ = some (.slice none 0 0) := ⟨block_cell (block_below HM7.out.box (below_da w7 _)) 4, block_cell (block_below HN7.out (below_da w7 _)) 0, block_cell (block_below HN7.out (below_da w7 _)) 1, block_cell (block_below HN7.out (below_da w7 _)) 2, block_cell (block_below HN7.out (below_da w7 _)) 3⟩
      refine hK _ _ (fun _ => HS2) ?_
      clear hK K hsh HS
      intro hsh
      refine wpAnyC_tail (by as_aux_lemma => kernel_rfl) (by simp) (by as_aux_lemma => kernel_rfl) ?_; simp only [List.drop_succ_cons, List.drop_zero]; clear hsh
      clear HS2
      go_simp
      have HRd := hide (own_stay HM7.out.row (w' := w7.drew) (fun g o _ e => e))
      obtain ⟨i0, hi0, iz0, iz1, iz2⟩ := info_parts info_nd
      refine wpList_append_own_at _ (by rfl) (.tmp 153) (.tmp 155) 67 (by rfl) B 77 i0 (.agg #[.int .i64 0, .int .i64 0, .slice none 0 0, .slice none 0 0]) 4 64 Tryd.underlying67 hi0 iz0 iz1 iz2 rfl (by decide) (.slice A6 D2.length k6) D2.length css.flatten (by rfl) (HRd.out.alloc _) ⟨w7.heap.size, 0, none⟩ 1 1 [.int .i64 (D2.length : Nat), .int .i64 1, .slice A n q, .slice none 0 0] (by rfl) (by rfl) (cells_new w7.drew [.int .i64 (D2.length : Nat), .int .i64 1, .slice A n q, .slice none 0 0] _) (by intro u hu; simp at hu; rcases hu with rfl | rfl | rfl | rfl <;> rfl) (by unfold maxLen; omega) (by omega) (Nat.le_trans hBw (HM7.out.be.trans ((below_da w7 (.cells #[.int .i64 (D2.length : Nat), .int .i64 1, .slice A n q, .slice none 0 0] 77)).mono (Nat.le_trans hBw HM7.out.be.size))).size) ?_
      intro v8 w8 hown8 hg8 _ hat8
      have HR9 := hide (HM7.out.push hBw HTY7.out HM.out HSH.out (by omega) (below_da w7 _) hown8 hg8 hat8)
      have e8c := block_push HM7.out.box (below_da w7 _) hg8 HM7.out.cnot
      have HN8 := hide (block_push HN7.out (below_da w7 _) hg8 (HN6.out.nrow HBX6.out))
      have e8r := block_push HB7.out (below_da w7 _) hg8 (HB6.out.nrow HBX6.out)
      have HB9 := hide (HB6.out.last e8c e8r (HB6.out.nrow HBX6.out) (N := (w7.drew.alloc (.cells #[.int .i64 (D2.length : Nat), .int .i64 1, .slice A n q, .slice none 0 0] 77)).heap.size) (by have := HM7.out.be.size; simp; omega) hat8)
      have HTY9 := hide (stay_tyU _ _ _ _ _ _ HTY7.out (stay_last HM7.out (below_da w7 _) hg8 v8) (fun _ h _ => h))
      obtain ⟨ao, cp, rfl⟩ := own_sl hown8
      have b3 : w8.frozen? ⟨c, 4, none⟩ = false := block_free e8c 4
      have b4 := block_cell e8c 4
      have n0 := block_cell HN8.out 0
      have n1 := block_cell HN8.out 1
      have n2 := block_cell HN8.out 2
      have n3 := block_cell HN8.out 3
      have r0 := block_cell HB9.out.1 0
      have r1 := block_cell HB9.out.1 1
      have r2 := block_cell HB9.out.1 2
      have r3 := block_cell HB9.out.1 3
      have fr0 := block_free HB9.out.1 0
      have fr1 := block_free HB9.out.1 1
      have fr2 := block_free HB9.out.1 2
      have fr3 := block_free HB9.out.1 3
      clear hown8 hg8 hat8 e8c e8r
      go_wp2_with (fail)
      obtain ⟨hrz, hbz, hsz⟩ := nFin HR9.out hBw HB9.out hrb (.int .i64 (D2.length : Nat)) (.int .i64 1) (.slice A n q) (.slice none 0 0)
      generalize World.setCell _ (⟨w.heap.size, 3, none⟩ : Addr) _ = wz at hrz hbz hsz ⊢
      have z0 := block_cell hbz 0
      have z1 := block_cell hbz 1
      have z2 := block_cell hbz 2
      have z3 := block_cell hbz 3
      simp at z0 z1 z2 z3
      ((try simp only [Exit.inBlock, Exit.then]); refine bodyPost_ret (by simp [results, Tryd.results27, go_sem, z0, z1, z2, z3]; try rfl) rfl ?_)
      exact RP.ok HE.out ⟨F2, _, _, _, _, _, _, _, rfl, stay_tyU _ _ _ _ _ _ HTY9.out hsz (fun _ h _ => h), hrz⟩
end Go.Proofs.YtocpmbpckbjepaaDoor

/- Walk of one of the program's reader of mangled names, a reference (printed by gen_dg.py). -/
namespace Go.Proofs.YtocpmbpckbjepaaDoor
open Go.RowKit
set_option linter.unusedVariables false
set_option linter.unusedSimpArgs false
set_option maxRecDepth 100000 in
set_option maxHeartbeats 16000000 in
theorem nOne_R {s : ByteArray} {f : Nat} (H : nOneOk s f) (hf : f + 1 ≤ 12) : nOneAt s (f + 1) 82 := by
  intro B c mb D F i d w hBw htb hs hDi hd h hb
  have hi := get_lt hb
  have HOK := hide h.ok
  have HRA := hide ((nR.refl h).alloc hBw (.cells #[.int .i64 0, .int .i64 0, .slice none 0 0, .slice none 0 0] 77))
  have HBA := hide (nBk.new h (.cells #[.int .i64 0, .int .i64 0, .slice none 0 0, .slice none 0 0] 77))
  have hrb : w.heap.size ≤ w.heap.size := Nat.le_refl _
  have c1 := HRA.out.st.c1
  have HPK := hide (nPeek B c mb s D F _ (Nat.le_trans hBw HRA.out.size) i hs HRA.out.st)
  rw [pkB_is hb] at HPK
  have HTB := hide htb
  have HDD := hide hd
  have hdeep : decide ((12 : Int) ≤ d) = false := by simp; omega
  have hdd : ¬ (12 : Int) ≤ d := by omega
  have hdw : wrap64 (d + 1) = d + 1 := (by unfold wrap64; omega)
  clear h htb hd
  have hwi : wrap64 ((i : Int) + 1) = (i : Int) + 1 := by unfold wrap64; omega
  have hutf : Utf8.encode 82 = ⟨#[82]⟩ := by kernel_rfl
  have HNM := hide (fun (W : World) (h : nR B c mb s ((i : Int) + 1) (-1) D F F w W) => H B c mb D F (i + 1) (d + 1) W (Nat.le_trans hBw h.size) (HTB.out.below h.be) hs hi (by omega) (by have := HDD.out; omega) (by rw [show ((i + 1 : Nat) : Int) = (i : Int) + 1 by omega]; exact h.st))
  have HX := hide (dOne_R (f := f) (D := D) hb)
  clear H hb
  cases hn : dOne s f D (i + 1) with
  | bad e0 =>
    have HND := hide hn
    have HE := hide (show dOne s (f + 1) D i = .bad e0 by rw [HX.out, hn]; rfl)
    clear hn HX
    go_enter Tryd.func27, Tryd.ntmps27
    go_wp2_with (first | (go_at_call 26; refine HPK.out.mono ?_; rintro e w1 ⟨rfl, hr⟩; have HR1 := hide (HRA.out.trans hr); have HB1 := hide (HBA.out.step hr); have hw1 : w.heap.size ≤ w1.heap.size := HR1.out.size; have hlt1 : w.heap.size < w1.heap.size := HB1.out.2.2.2.2.2; have hr2 := (nR.refl HR1.out.st).alloc (Nat.le_trans hBw HR1.out.size) (.cells #[.int .i64 0, .slice none 0 0, .slice none 0 0] 75); have HR2 := hide (HR1.out.trans hr2); have HB2 := hide (HB1.out.step hr2); have HT2 := hide (nBk.new HR1.out.st (.cells #[.int .i64 0, .slice none 0 0, .slice none 0 0] 75)); have c1' := HR2.out.st.c1; have f1' := HR2.out.st.f 1; have hr3 := (nR.refl HR2.out.st).set1 (Nat.le_trans hBw HR2.out.size) ((i : Int) + 1); have HR3 := hide (HR2.out.trans hr3); have HB3 := hide (HB2.out.step hr3); have HT3 := hide (HT2.out.step hr3); have t0 := block_cell HT3.out.1 0; have ft0 := block_free HT3.out.1 0; have HR4 := hide (HR3.out.other (k := 0) hBw hw1 HT3.out.2 (.int .i64 2)); have HB4 := hide (HB3.out.other (k := 0) HR3.out.st HT3.out.2.1 (by omega) (.int .i64 2)); have HT4 := hide (show nBk c mb (((w1.alloc (.cells #[.int .i64 0, .slice none 0 0, .slice none 0 0] 75)).setCell ⟨c, 1, none⟩ (.int .i64 ((i : Int) + 1))).setCell ⟨w1.heap.size, 0, none⟩ (.int .i64 2)) F w1.heap.size (.cells #[.int .i64 2, .slice none 0 0, .slice none 0 0] 75) from HT3.out.set (k := 0) HR3.out.st (.int .i64 2)); clear hr hr2 hr3 HPK) | (go_at_call 27; refine (HNM.out _ HR4.out).mono ?_; intro e w5 hrp; obtain ⟨rfl, y, D5, F5, hy, hr⟩ := hrp.of_bad HND.out; have HR5 := hide (HR4.out.trans hr); have HB5 := hide (HB4.out.step hr); have HT5 := hide (HT4.out.step hr); have hb5 := Nat.le_trans hBw HR5.out.size; have HNA := hide (heap_alloc_new w5 (.cells #[.int .i64 0, .int .i64 0, .slice none 0 0, .slice none 0 0] 77)); have m0 := block_cell HNA.out 0; have m1 := block_cell HNA.out 1; have m2 := block_cell HNA.out 2; have m3 := block_cell HNA.out 3; have HT52 := hide (block_below HT5.out.1 (below_2 w5 (.cells #[.int .i64 0, .int .i64 0, .slice none 0 0, .slice none 0 0] 77) (.cells #[.int .i64 0, .slice none 0 0, .slice none 0 0] 75))); have u2 := block_cell HT52.out 2; have fu2 := block_free HT52.out 2; have HR6 := hide (HR5.out.other (k := 2) hBw hw1 HT5.out.2 (.slice (some ⟨w5.heap.size + 1, 0, none⟩) 1 1)); have HB6 := hide (HB5.out.other (k := 2) HR5.out.st HT5.out.2.1 (by omega) (.slice (some ⟨w5.heap.size + 1, 0, none⟩) 1 1)); have HT6 := hide (HT5.out.set (k := 2) HR5.out.st (.slice (some ⟨w5.heap.size + 1, 0, none⟩) 1 1)); have hz6 : (w5.setCell ⟨w1.heap.size, 2, none⟩ (.slice (some ⟨w5.heap.size + 1, 0, none⟩) 1 1)).heap.size = w5.heap.size := (by simp); have hr7 := (nR.refl HR6.out.st).alloc (Nat.le_trans hBw HR6.out.size) (.cells #[.int .i64 0, .int .i64 0, .slice none 0 0, .slice none 0 0] 77); have HR7 := hide (HR6.out.trans hr7); have HB7 := hide (HB6.out.step hr7); have HT7 := hide (HT6.out.step hr7); have HN7 := hide (nBk.new HR6.out.st (.cells #[.int .i64 0, .int .i64 0, .slice none 0 0, .slice none 0 0] 77)); rw [hz6] at HN7; have hz7 : ((w5.setCell ⟨w1.heap.size, 2, none⟩ (.slice (some ⟨w5.heap.size + 1, 0, none⟩) 1 1)).alloc (.cells #[.int .i64 0, .int .i64 0, .slice none 0 0, .slice none 0 0] 77)).heap.size = w5.heap.size + 1 := (by simp); have hr8 := (nR.refl HR7.out.st).alloc (Nat.le_trans hBw HR7.out.size) (.cells #[.int .i64 0, .slice none 0 0, .slice none 0 0] 75); have HR8 := hide (HR7.out.trans hr8); have HB8 := hide (HB7.out.step hr8); have HT8 := hide (HT7.out.step hr8); have HN8 := hide (HN7.out.step hr8); have HS8 := hide (nBk.new HR7.out.st (.cells #[.int .i64 0, .slice none 0 0, .slice none 0 0] 75)); rw [hz7] at HS8; have hsb1 : ¬ (w1.heap.size = w5.heap.size + 1) := (by have := HT5.out.2.2.2.2.2; omega); have hsb2 : ¬ (w.heap.size = w5.heap.size + 1) := (by have := HB5.out.2.2.2.2.2; omega); have hsb3 : ¬ (w5.heap.size = w5.heap.size + 1) := (by omega); have hw15 := HT5.out.2.2.2.2.2; have HR9 := hide (HR8.out.join (fun j => j = w5.heap.size + 1) (fun j hj => (by subst hj; exact ⟨by have := HR5.out.size; omega, HS8.out.2⟩))); have HB9 := hide (HB8.out.join (Y := fun j => j = w5.heap.size + 1) hsb2); have HT9 := hide (HT8.out.join (Y := fun j => j = w5.heap.size + 1) hsb1); have m0' := block_cell HN8.out.1 0; have IT := hide (fun W (h : nR B c mb s y e0 D5 F (fun b => F5 b ∨ b = w5.heap.size + 1) w W) => itoa4 W (n := 0) (by omega) (HTB.out.below h.be)); clear hr hrp hr7 hr8 t0 ft0) | (go_at_call 42; refine (IT.out _ HR9.out).mono ?_; rintro e w6 ⟨kz, rfl, hkz1, hkz4, hb⟩; have hr10 := (nR.refl HR9.out.st).below (Nat.le_trans hBw HR9.out.size) hb; have HRX := hide (HR9.out.trans hr10); have HBX0 := hide (HB9.out.step hr10); have nb1 : ¬ 9223372036854775807 < 1 + kz.size := (by omega); have c2 := HRX.out.st.c2; have r0 := block_cell HBX0.out.1 0; have r1 := block_cell HBX0.out.1 1; have r2 := block_cell HBX0.out.1 2; have r3 := block_cell HBX0.out.1 3; have fr0 := block_free HBX0.out.1 0; have fr1 := block_free HBX0.out.1 1; have fr2 := block_free HBX0.out.1 2; have fr3 := block_free HBX0.out.1 3; clear hr10 hb hkz1 m0 m1 m2 m3 m0' u2 fu2 IT))
    obtain ⟨hrz, hbz, hsz⟩ := nFin HRX.out hBw HBX0.out hrb (.int .i64 0) (.int .i64 0) (.slice none 0 0) (.slice none 0 0)
    generalize World.setCell _ (⟨w.heap.size, 3, none⟩ : Addr) _ = wz at hrz hbz hsz ⊢
    have z0 := block_cell hbz 0
    have z1 := block_cell hbz 1
    have z2 := block_cell hbz 2
    have z3 := block_cell hbz 3
    simp at z0 z1 z2 z3
    ((try simp only [Exit.inBlock, Exit.then]); refine bodyPost_ret (by simp [results, Tryd.results27, go_sem, z0, z1, z2, z3]; try rfl) rfl ?_)
    exact RP.bad HE.out ⟨rfl, y, D5, _, by omega, hrz⟩
  | ok j z =>
    obtain ⟨m, t, D2⟩ := z
    have hgo := one_go hi HOK.out hn
    have hij := hgo.lt
    have hjs := hgo.le
    have hle := hgo.ext.len
    have hmn := hgo.no
    have hok2 := hgo.ext.ok
    simp only at hle hmn hok2
    have hsh : ShOk ⟨2, [], [m]⟩ := .inr (.inl ⟨.inl rfl, rfl, rfl⟩)
    have HND := hide hn
    have HSH := hide hsh
    have HHS := hide (fun (kb : ByteArray) (hk : kb.data.toList = pK ⟨2, [], [m]⟩) => has_pK hok2 hsh hk)
    clear hn hgo hsh hok2
    by_cases hm : (⟨2, [], [m]⟩ : Shp) ∈ D2.map (·.1)
    · have HE := hide (show dOne s (f + 1) D i = .bad i by rw [HX.out, HND.out]; simp only [Res.bind]; rw [dNew_no hm])
      simp only [hm, decide_true] at HHS
      clear hm HX
      go_enter Tryd.func27, Tryd.ntmps27
      go_wp2_with (first | (go_at_call 26; refine HPK.out.mono ?_; rintro e w1 ⟨rfl, hr⟩; have HR1 := hide (HRA.out.trans hr); have HB1 := hide (HBA.out.step hr); have hw1 : w.heap.size ≤ w1.heap.size := HR1.out.size; have hlt1 : w.heap.size < w1.heap.size := HB1.out.2.2.2.2.2; have hr2 := (nR.refl HR1.out.st).alloc (Nat.le_trans hBw HR1.out.size) (.cells #[.int .i64 0, .slice none 0 0, .slice none 0 0] 75); have HR2 := hide (HR1.out.trans hr2); have HB2 := hide (HB1.out.step hr2); have HT2 := hide (nBk.new HR1.out.st (.cells #[.int .i64 0, .slice none 0 0, .slice none 0 0] 75)); have c1' := HR2.out.st.c1; have f1' := HR2.out.st.f 1; have hr3 := (nR.refl HR2.out.st).set1 (Nat.le_trans hBw HR2.out.size) ((i : Int) + 1); have HR3 := hide (HR2.out.trans hr3); have HB3 := hide (HB2.out.step hr3); have HT3 := hide (HT2.out.step hr3); have t0 := block_cell HT3.out.1 0; have ft0 := block_free HT3.out.1 0; have HR4 := hide (HR3.out.other (k := 0) hBw hw1 HT3.out.2 (.int .i64 2)); have HB4 := hide (HB3.out.other (k := 0) HR3.out.st HT3.out.2.1 (by omega) (.int .i64 2)); have HT4 := hide (show nBk c mb (((w1.alloc (.cells #[.int .i64 0, .slice none 0 0, .slice none 0 0] 75)).setCell ⟨c, 1, none⟩ (.int .i64 ((i : Int) + 1))).setCell ⟨w1.heap.size, 0, none⟩ (.int .i64 2)) F w1.heap.size (.cells #[.int .i64 2, .slice none 0 0, .slice none 0 0] 75) from HT3.out.set (k := 0) HR3.out.st (.int .i64 2)); clear hr hr2 hr3 HPK) | (go_at_call 27; refine (HNM.out _ HR4.out).mono ?_; intro e w5 hrp; obtain ⟨F5, k, A1, n1, q1, A2, n2, q2, rfl, hty, hr⟩ := hrp.of_ok HND.out; have HR5 := hide (HR4.out.trans hr); have HB5 := hide (HB4.out.step hr); have HT5 := hide (HT4.out.step hr); have hb5 := Nat.le_trans hBw HR5.out.size; have HNA := hide (heap_alloc_new w5 (.cells #[.int .i64 (m : Nat), .int .i64 k, .slice A1 n1 q1, .slice A2 n2 q2] 77)); have m0 := block_cell HNA.out 0; have m1 := block_cell HNA.out 1; have m2 := block_cell HNA.out 2; have m3 := block_cell HNA.out 3; have HT52 := hide (block_below HT5.out.1 (below_2 w5 (.cells #[.int .i64 (m : Nat), .int .i64 k, .slice A1 n1 q1, .slice A2 n2 q2] 77) (.cells #[.int .i64 k, .slice A1 n1 q1, .slice A2 n2 q2] 75))); have u2 := block_cell HT52.out 2; have fu2 := block_free HT52.out 2; have HR6 := hide (HR5.out.other (k := 2) hBw hw1 HT5.out.2 (.slice (some ⟨w5.heap.size + 1, 0, none⟩) 1 1)); have HB6 := hide (HB5.out.other (k := 2) HR5.out.st HT5.out.2.1 (by omega) (.slice (some ⟨w5.heap.size + 1, 0, none⟩) 1 1)); have HT6 := hide (HT5.out.set (k := 2) HR5.out.st (.slice (some ⟨w5.heap.size + 1, 0, none⟩) 1 1)); have hz6 : (w5.setCell ⟨w1.heap.size, 2, none⟩ (.slice (some ⟨w5.heap.size + 1, 0, none⟩) 1 1)).heap.size = w5.heap.size := (by simp); have hr7 := (nR.refl HR6.out.st).alloc (Nat.le_trans hBw HR6.out.size) (.cells #[.int .i64 (m : Nat), .int .i64 k, .slice A1 n1 q1, .slice A2 n2 q2] 77); have HR7 := hide (HR6.out.trans hr7); have HB7 := hide (HB6.out.step hr7); have HT7 := hide (HT6.out.step hr7); have HN7 := hide (nBk.new HR6.out.st (.cells #[.int .i64 (m : Nat), .int .i64 k, .slice A1 n1 q1, .slice A2 n2 q2] 77)); rw [hz6] at HN7; have hz7 : ((w5.setCell ⟨w1.heap.size, 2, none⟩ (.slice (some ⟨w5.heap.size + 1, 0, none⟩) 1 1)).alloc (.cells #[.int .i64 (m : Nat), .int .i64 k, .slice A1 n1 q1, .slice A2 n2 q2] 77)).heap.size = w5.heap.size + 1 := (by simp); have hr8 := (nR.refl HR7.out.st).alloc (Nat.le_trans hBw HR7.out.size) (.cells #[.int .i64 k, .slice A1 n1 q1, .slice A2 n2 q2] 75); have HR8 := hide (HR7.out.trans hr8); have HB8 := hide (HB7.out.step hr8); have HT8 := hide (HT7.out.step hr8); have HN8 := hide (HN7.out.step hr8); have HS8 := hide (nBk.new HR7.out.st (.cells #[.int .i64 k, .slice A1 n1 q1, .slice A2 n2 q2] 75)); rw [hz7] at HS8; have hsb1 : ¬ (w1.heap.size = w5.heap.size + 1) := (by have := HT5.out.2.2.2.2.2; omega); have hsb2 : ¬ (w.heap.size = w5.heap.size + 1) := (by have := HB5.out.2.2.2.2.2; omega); have hsb3 : ¬ (w5.heap.size = w5.heap.size + 1) := (by omega); have hw15 := HT5.out.2.2.2.2.2; have HR9 := hide (HR8.out.join (fun j => j = w5.heap.size + 1) (fun j hj => (by subst hj; exact ⟨by have := HR5.out.size; omega, HS8.out.2⟩))); have HB9 := hide (HB8.out.join (Y := fun j => j = w5.heap.size + 1) hsb2); have HT9 := hide (HT8.out.join (Y := fun j => j = w5.heap.size + 1) hsb1); have m0' := block_cell HN8.out.1 0; have hty6 := stay_tyU _ _ _ _ _ _ hty (stay_own (k := 2) (x := .slice (some ⟨w5.heap.size + 1, 0, none⟩) 1 1) HT5.out.2) (fun _ h _ => h); have hty7 := stay_tyU _ _ _ _ _ _ hty6 (hr7.trans hr8).stayF (fun b h _ => (Or.inl h : F5 b ∨ b = w5.heap.size + 1)); have HTY9 := hide (ty_of 2 (sl_one (F := fun b => F5 b ∨ b = w5.heap.size + 1) hty7 (Or.inr rfl) HS8.out.1) (Nat.le_refl _) (by unfold maxLen; omega)); have IT := hide (fun W (h : nR B c mb s j (-1) D2 F (fun b => F5 b ∨ b = w5.heap.size + 1) w W) => itoa4 W (n := m) (by omega) (HTB.out.below h.be)); clear hty hty6 hty7; clear hr hrp hr7 hr8 t0 ft0) | (go_at_call 42; refine (IT.out _ HR9.out).mono ?_; rintro e w6 ⟨kz, rfl, hkz1, hkz4, hb⟩; have hr10 := (nR.refl HR9.out.st).below (Nat.le_trans hBw HR9.out.size) hb; have HRX := hide (HR9.out.trans hr10); have HBX0 := hide (HB9.out.step hr10); have nb1 : ¬ 9223372036854775807 < 1 + kz.size := (by omega); have c2 := HRX.out.st.c2; have HTX := hide (HT9.out.step hr10); have HTYX := hide (stay_tyU _ _ _ _ _ _ HTY9.out hr10.stayF (fun _ h _ => h)); have c3 := HRX.out.st.c3; have HKB := hide (show (⟨#[82]⟩ ++ kz : ByteArray).data.toList = pK ⟨2, [], [m]⟩ from (by rw [app_toList, hkz1, pK_one _ _ (by decide)]; rfl)); have hkm : (⟨#[82]⟩ ++ kz : ByteArray).size ≤ maxLen := (by rw [ByteArray.size_append]; show 1 + kz.size ≤ maxLen; unfold maxLen; omega); have HHAS := hide (HHS.out _ HKB.out); clear hr10 hb hkz1 m0 m1 m2 m3 m0' u2 fu2 IT) | (at_lookup; refine Go.wpList_lookup_own_ok_int _ rfl _ _ 49 rfl 9 3 .i64 law_strD Tryd.underlying49 Tryd.underlying3 (zero_intD _) mb _ _ rfl HRX.out.st.map (.string (⟨#[82]⟩ ++ kz)) _ rfl (key_ofD _ hkm) ?_; intro c' hat hwc; rw [HHAS.out]; clear hat hwc) | (go_at_call 28; refine (nFail_new B c mb s D2 (fun b => F5 b ∨ b = w5.heap.size + 1) _ (Nat.le_trans hBw HRX.out.size) j i HRX.out.st).mono ?_; rintro e w7 ⟨rfl, hr⟩; have HR6 := hide (HRX.out.trans hr); have HB6 := hide (HBX0.out.step hr); have r0 := block_cell HB6.out.1 0; have r1 := block_cell HB6.out.1 1; have r2 := block_cell HB6.out.1 2; have r3 := block_cell HB6.out.1 3; have fr0 := block_free HB6.out.1 0; have fr1 := block_free HB6.out.1 1; have fr2 := block_free HB6.out.1 2; have fr3 := block_free HB6.out.1 3; clear hr))
      obtain ⟨hrz, hbz, hsz⟩ := nFin HR6.out hBw HB6.out hrb (.int .i64 0) (.int .i64 0) (.slice none 0 0) (.slice none 0 0)
      generalize World.setCell _ (⟨w.heap.size, 3, none⟩ : Addr) _ = wz at hrz hbz hsz ⊢
      have z0 := block_cell hbz 0
      have z1 := block_cell hbz 1
      have z2 := block_cell hbz 2
      have z3 := block_cell hbz 3
      simp at z0 z1 z2 z3
      ((try simp only [Exit.inBlock, Exit.then]); refine bodyPost_ret (by simp [results, Tryd.results27, go_sem, z0, z1, z2, z3]; try rfl) rfl ?_)
      exact RP.bad HE.out ⟨rfl, j, D2, _, by omega, hrz⟩
    · have HE := hide (show dOne s (f + 1) D i = .ok j (D2.length, Ty.mk 2 [] [t], D2 ++ [(⟨2, [], [m]⟩, Ty.mk 2 [] [t])]) by rw [HX.out, HND.out]; simp only [Res.bind]; rw [dNew_ok hm])
      simp only [hm, decide_false] at HHS
      have HM := hide hm
      clear hm HX
      go_enter Tryd.func27, Tryd.ntmps27
      go_wp2_with (first | (go_at_call 26; refine HPK.out.mono ?_; rintro e w1 ⟨rfl, hr⟩; have HR1 := hide (HRA.out.trans hr); have HB1 := hide (HBA.out.step hr); have hw1 : w.heap.size ≤ w1.heap.size := HR1.out.size; have hlt1 : w.heap.size < w1.heap.size := HB1.out.2.2.2.2.2; have hr2 := (nR.refl HR1.out.st).alloc (Nat.le_trans hBw HR1.out.size) (.cells #[.int .i64 0, .slice none 0 0, .slice none 0 0] 75); have HR2 := hide (HR1.out.trans hr2); have HB2 := hide (HB1.out.step hr2); have HT2 := hide (nBk.new HR1.out.st (.cells #[.int .i64 0, .slice none 0 0, .slice none 0 0] 75)); have c1' := HR2.out.st.c1; have f1' := HR2.out.st.f 1; have hr3 := (nR.refl HR2.out.st).set1 (Nat.le_trans hBw HR2.out.size) ((i : Int) + 1); have HR3 := hide (HR2.out.trans hr3); have HB3 := hide (HB2.out.step hr3); have HT3 := hide (HT2.out.step hr3); have t0 := block_cell HT3.out.1 0; have ft0 := block_free HT3.out.1 0; have HR4 := hide (HR3.out.other (k := 0) hBw hw1 HT3.out.2 (.int .i64 2)); have HB4 := hide (HB3.out.other (k := 0) HR3.out.st HT3.out.2.1 (by omega) (.int .i64 2)); have HT4 := hide (show nBk c mb (((w1.alloc (.cells #[.int .i64 0, .slice none 0 0, .slice none 0 0] 75)).setCell ⟨c, 1, none⟩ (.int .i64 ((i : Int) + 1))).setCell ⟨w1.heap.size, 0, none⟩ (.int .i64 2)) F w1.heap.size (.cells #[.int .i64 2, .slice none 0 0, .slice none 0 0] 75) from HT3.out.set (k := 0) HR3.out.st (.int .i64 2)); clear hr hr2 hr3 HPK) | (go_at_call 27; refine (HNM.out _ HR4.out).mono ?_; intro e w5 hrp; obtain ⟨F5, k, A1, n1, q1, A2, n2, q2, rfl, hty, hr⟩ := hrp.of_ok HND.out; have HR5 := hide (HR4.out.trans hr); have HB5 := hide (HB4.out.step hr); have HT5 := hide (HT4.out.step hr); have hb5 := Nat.le_trans hBw HR5.out.size; have HNA := hide (heap_alloc_new w5 (.cells #[.int .i64 (m : Nat), .int .i64 k, .slice A1 n1 q1, .slice A2 n2 q2] 77)); have m0 := block_cell HNA.out 0; have m1 := block_cell HNA.out 1; have m2 := block_cell HNA.out 2; have m3 := block_cell HNA.out 3; have HT52 := hide (block_below HT5.out.1 (below_2 w5 (.cells #[.int .i64 (m : Nat), .int .i64 k, .slice A1 n1 q1, .slice A2 n2 q2] 77) (.cells #[.int .i64 k, .slice A1 n1 q1, .slice A2 n2 q2] 75))); have u2 := block_cell HT52.out 2; have fu2 := block_free HT52.out 2; have HR6 := hide (HR5.out.other (k := 2) hBw hw1 HT5.out.2 (.slice (some ⟨w5.heap.size + 1, 0, none⟩) 1 1)); have HB6 := hide (HB5.out.other (k := 2) HR5.out.st HT5.out.2.1 (by omega) (.slice (some ⟨w5.heap.size + 1, 0, none⟩) 1 1)); have HT6 := hide (HT5.out.set (k := 2) HR5.out.st (.slice (some ⟨w5.heap.size + 1, 0, none⟩) 1 1)); have hz6 : (w5.setCell ⟨w1.heap.size, 2, none⟩ (.slice (some ⟨w5.heap.size + 1, 0, none⟩) 1 1)).heap.size = w5.heap.size := (by simp); have hr7 := (nR.refl HR6.out.st).alloc (Nat.le_trans hBw HR6.out.size) (.cells #[.int .i64 (m : Nat), .int .i64 k, .slice A1 n1 q1, .slice A2 n2 q2] 77); have HR7 := hide (HR6.out.trans hr7); have HB7 := hide (HB6.out.step hr7); have HT7 := hide (HT6.out.step hr7); have HN7 := hide (nBk.new HR6.out.st (.cells #[.int .i64 (m : Nat), .int .i64 k, .slice A1 n1 q1, .slice A2 n2 q2] 77)); rw [hz6] at HN7; have hz7 : ((w5.setCell ⟨w1.heap.size, 2, none⟩ (.slice (some ⟨w5.heap.size + 1, 0, none⟩) 1 1)).alloc (.cells #[.int .i64 (m : Nat), .int .i64 k, .slice A1 n1 q1, .slice A2 n2 q2] 77)).heap.size = w5.heap.size + 1 := (by simp); have hr8 := (nR.refl HR7.out.st).alloc (Nat.le_trans hBw HR7.out.size) (.cells #[.int .i64 k, .slice A1 n1 q1, .slice A2 n2 q2] 75); have HR8 := hide (HR7.out.trans hr8); have HB8 := hide (HB7.out.step hr8); have HT8 := hide (HT7.out.step hr8); have HN8 := hide (HN7.out.step hr8); have HS8 := hide (nBk.new HR7.out.st (.cells #[.int .i64 k, .slice A1 n1 q1, .slice A2 n2 q2] 75)); rw [hz7] at HS8; have hsb1 : ¬ (w1.heap.size = w5.heap.size + 1) := (by have := HT5.out.2.2.2.2.2; omega); have hsb2 : ¬ (w.heap.size = w5.heap.size + 1) := (by have := HB5.out.2.2.2.2.2; omega); have hsb3 : ¬ (w5.heap.size = w5.heap.size + 1) := (by omega); have hw15 := HT5.out.2.2.2.2.2; have HR9 := hide (HR8.out.join (fun j => j = w5.heap.size + 1) (fun j hj => (by subst hj; exact ⟨by have := HR5.out.size; omega, HS8.out.2⟩))); have HB9 := hide (HB8.out.join (Y := fun j => j = w5.heap.size + 1) hsb2); have HT9 := hide (HT8.out.join (Y := fun j => j = w5.heap.size + 1) hsb1); have m0' := block_cell HN8.out.1 0; have hty6 := stay_tyU _ _ _ _ _ _ hty (stay_own (k := 2) (x := .slice (some ⟨w5.heap.size + 1, 0, none⟩) 1 1) HT5.out.2) (fun _ h _ => h); have hty7 := stay_tyU _ _ _ _ _ _ hty6 (hr7.trans hr8).stayF (fun b h _ => (Or.inl h : F5 b ∨ b = w5.heap.size + 1)); have HTY9 := hide (ty_of 2 (sl_one (F := fun b => F5 b ∨ b = w5.heap.size + 1) hty7 (Or.inr rfl) HS8.out.1) (Nat.le_refl _) (by unfold maxLen; omega)); have IT := hide (fun W (h : nR B c mb s j (-1) D2 F (fun b => F5 b ∨ b = w5.heap.size + 1) w W) => itoa4 W (n := m) (by omega) (HTB.out.below h.be)); clear hty hty6 hty7; clear hr hrp hr7 hr8 t0 ft0) | (go_at_call 42; refine (IT.out _ HR9.out).mono ?_; rintro e w6 ⟨kz, rfl, hkz1, hkz4, hb⟩; have hr10 := (nR.refl HR9.out.st).below (Nat.le_trans hBw HR9.out.size) hb; have HRX := hide (HR9.out.trans hr10); have HBX0 := hide (HB9.out.step hr10); have nb1 : ¬ 9223372036854775807 < 1 + kz.size := (by omega); have c2 := HRX.out.st.c2; have HTX := hide (HT9.out.step hr10); have HTYX := hide (stay_tyU _ _ _ _ _ _ HTY9.out hr10.stayF (fun _ h _ => h)); have c3 := HRX.out.st.c3; have HKB := hide (show (⟨#[82]⟩ ++ kz : ByteArray).data.toList = pK ⟨2, [], [m]⟩ from (by rw [app_toList, hkz1, pK_one _ _ (by decide)]; rfl)); have hkm : (⟨#[82]⟩ ++ kz : ByteArray).size ≤ maxLen := (by rw [ByteArray.size_append]; show 1 + kz.size ≤ maxLen; unfold maxLen; omega); have HHAS := hide (HHS.out _ HKB.out); clear hr10 hb hkz1 m0 m1 m2 m3 m0' u2 fu2 IT) | (at_lookup; refine Go.wpList_lookup_own_ok_int _ rfl _ _ 49 rfl 9 3 .i64 law_strD Tryd.underlying49 Tryd.underlying3 (zero_intD _) mb _ _ rfl HRX.out.st.map (.string (⟨#[82]⟩ ++ kz)) _ rfl (key_ofD _ hkm) ?_; intro c' hat hwc; rw [HHAS.out]; clear hat hwc))
      generalize hF2 : (fun b => F5 b ∨ b = w5.heap.size + 1) = F2 at HRX HBX0 HTX HTYX
      obtain ⟨A, hA⟩ : ∃ A : Option Addr, some ⟨w5.heap.size + 1, 0, none⟩ = A := ⟨_, rfl⟩
      rw [hA] at HTX HTYX
      obtain ⟨kb, hkb⟩ : ∃ kb : ByteArray, ⟨#[82]⟩ ++ kz = kb := ⟨_, rfl⟩
      rw [hkb] at HKB hkm ⊢
      have HR5 := HRX
      have HB5 := HBX0
      have HT5 := HTX
      have HTY := HTYX
      clear HRX HBX0 HTX HTYX HR6 HR7 HR8 HR9 HB6 HB7 HB8 HB9 HT6 HT7 HT8 HT9 HNA HN7 HN8 HS8 HT52 HTY9 HR3 HR4 HB3 HB4 HT3 HT4 hsb1 hsb2 hsb3 hF2 hkb
      obtain ⟨wq, hwq⟩ : ∃ x, w5 = x := ⟨_, rfl⟩
      have HWQ := hide hwq
      clear hwq
      obtain ⟨v6, css, hbx, hrow, hrs, hnf⟩ := HR5.out.st.st
      obtain ⟨A6, k6, rfl⟩ := own_sl hrow
      have HBX := hide hbx
      have HROW := hide hrow
      have HRS := hide hrs
      have HNF := hide hnf
      clear hbx hrow hrs hnf
      refine wp_region_chain (fun W => W.cell? ⟨c, 4, none⟩ = some (.slice A6 D2.length k6) ∧ W.cell? ⟨w1.heap.size, 0, none⟩ = some (.int .i64 2) ∧ W.cell? ⟨w1.heap.size, 1, none⟩ = some (.slice none 0 0) ∧ W.cell? ⟨w1.heap.size, 2, none⟩ = some (.slice A 1 1)) 8 (by as_aux_lemma => kernel_rfl) (N := 9) (by as_aux_lemma => kernel_rfl) ?_; intro hsh
      have HS : w6.drew.cell? ⟨c, 4, none⟩ = some (.slice A6 D2.length k6) ∧ w6.drew.cell? ⟨w1.heap.size, 0, none⟩ = some (.int .i64 2) ∧ w6.drew.cell? ⟨w1.heap.size, 1, none⟩ = some (.slice none 0 0) ∧ w6.drew.cell? ⟨w1.heap.size, 2, none⟩ = some (.slice A 1 1) := ⟨block_cell HBX.out 4, block_cell HT5.out.1 0, block_cell HT5.out.1 1, block_cell HT5.out.1 2⟩
      refine wpAnyC_take0 (i := 0) (k := 8) (v := ?_) (d := some 135) rfl (by rfl) (by as_aux_lemma => kernel_rfl) (by as_aux_lemma => kernel_rfl) (by as_aux_lemma => kernel_rfl) hsh (by decide) (by intro _ _ _ h; exact h) (by assumption) (Or.inl ⟨by rfl, ?hy⟩) ?_; (case hy => (intro W _; go_simp; (try with_reducible rfl))); clear hsh; intro hsh
      refine wpAnyC_take0 (i := 1) (k := 8) (v := ?_) (d := some 136) rfl (by rfl) (by as_aux_lemma => kernel_rfl) (by as_aux_lemma => kernel_rfl) (by as_aux_lemma => kernel_rfl) hsh (by decide) (by intro _ _ _ h; exact h) (by assumption) (Or.inl ⟨by rfl, ?hy⟩) ?_; (case hy => (intro W _; go_simp; (try with_reducible rfl))); clear hsh; intro hsh
      refine wpAnyC_take0 (i := 2) (k := 8) (v := ?_) (d := some 137) rfl (by rfl) (by as_aux_lemma => kernel_rfl) (by as_aux_lemma => kernel_rfl) (by as_aux_lemma => kernel_rfl) hsh (by decide) (by intro _ _ _ h; exact h) (by assumption) (Or.inl ⟨by rfl, ?hy⟩) ?_; (case hy => (intro W _; go_simp; (try with_reducible rfl))); clear hsh; intro hsh
      refine wpAnyC_take (i := 3) (k := 8) (f := 40) (v := ?_) (d := some 138) rfl (by rfl) (by as_aux_lemma => kernel_rfl) (by as_aux_lemma => kernel_rfl) (by as_aux_lemma => kernel_rfl) hsh (by decide) (by as_aux_lemma => kernel_rfl) (by intro _ _ _ h; exact h) (by assumption) (Or.inl ⟨by rfl, ?hy⟩) ?_; (case hy => (rintro W ⟨y0, y1, y2, y3⟩; go_simp; (try with_reducible rfl))); clear hsh; intro hsh
      refine wpAnyC_take0 (i := 4) (k := 8) (v := ?_) (d := some 139) rfl (by rfl) (by as_aux_lemma => kernel_rfl) (by as_aux_lemma => kernel_rfl) (by as_aux_lemma => kernel_rfl) hsh (by decide) (by intro _ _ _ h; exact h) (by assumption) (Or.inl ⟨by rfl, ?hy⟩) ?_; (case hy => (intro W _; go_simp; (try with_reducible rfl))); clear hsh; intro hsh
      refine wpAnyC_take (i := 5) (k := 8) (f := 40) (v := ?_) (d := some 140) rfl (by rfl) (by as_aux_lemma => kernel_rfl) (by as_aux_lemma => kernel_rfl) (by as_aux_lemma => kernel_rfl) hsh (by decide) (by as_aux_lemma => kernel_rfl) (by intro _ _ _ h; exact h) (by assumption) (Or.inl ⟨by rfl, ?hy⟩) ?_; (case hy => (rintro W ⟨y0, y1, y2, y3⟩; go_simp; (try with_reducible rfl))); clear hsh; intro hsh
      refine wpAnyC_take0 (i := 6) (k := 8) (v := ?_) (d := some 141) rfl (by rfl) (by as_aux_lemma => kernel_rfl) (by as_aux_lemma => kernel_rfl) (by as_aux_lemma => kernel_rfl) hsh (by decide) (by intro _ _ _ h; exact h) (by assumption) (Or.inl ⟨by rfl, ?hy⟩) ?_; (case hy => (intro W _; go_simp; (try with_reducible rfl))); clear hsh; intro hsh
      refine wpAnyC_ready (rs := [7]) (by as_aux_lemma => kernel_rfl) (by simp) ?_; refine AllC.cons (i := 7) rfl (by as_aux_lemma => kernel_rfl) hsh (fun K hK => ?_) AllC.nil
      go_simp
      have HBx : Hid (Below w6.heap.size w6 (w6.drew.alloc (.cells #[.int .i64 0, .int .i64 0, .slice none 0 0, .slice none 0 0] 77))) := hide ((below_drewN (Below.refl w6.heap.size w6) 1).alloc (Nat.le_refl _) _)
      have HS2 : (w6.drew.alloc (.cells #[.int .i64 0, .int .i64 0, .slice none 0 0, .slice none 0 0] 77)).cell? ⟨c, 4, none⟩ = some (.slice A6 D2.length k6) ∧ (w6.drew.alloc (.cells #[.int .i64 0, .int .i64 0, .slice none 0 0, .slice none 0 0] 77)).cell? ⟨w1.heap.size, 0, none⟩ = some (.int .i64 2) ∧ (w6.drew.alloc (.cells #[.int .i64 0, .int .i64 0, .slice none 0 0, .slice none 0 0] 77)).cell? ⟨w1.heap.size, 1, none⟩ = some (.slice none 0 0) ∧ (w6.drew.alloc (.cells #[.int .i64 0, .int .i64 0, .slice none 0 0, .slice none 0 0] 77)).cell? ⟨w1.heap.size, 2, none⟩ = some (.slice A 1 1) := ⟨block_cell (block_below HBX.out HBx.out) 4, block_cell (block_below HT5.out.1 HBx.out) 0, block_cell (block_below HT5.out.1 HBx.out) 1, block_cell (block_below HT5.out.1 HBx.out) 2⟩
      refine hK _ _ (fun _ => HS2) ?_
      clear hK K hsh HS
      intro hsh
      refine wpAnyC_tail (by as_aux_lemma => kernel_rfl) (by simp) (by as_aux_lemma => kernel_rfl) ?_; simp only [List.drop_succ_cons, List.drop_zero]; clear hsh
      clear HS2
      go_simp
      go_wp2_with (fail)
      have hr6 := (nR.refl HR5.out.st).below (Nat.le_trans hBw HR5.out.size) (below_ad w6 (.cells #[.int .i64 (D2.length : Nat), .int .i64 2, .slice none 0 0, .slice A 1 1] 77))
      have HR6 := hide (HR5.out.trans hr6)
      have HBX6 := hide (block_below HBX.out (below_ad w6 (.cells #[.int .i64 (D2.length : Nat), .int .i64 2, .slice none 0 0, .slice A 1 1] 77)))
      have HROW6 := hide (own_stay HROW.out (w' := (w6.alloc (.cells #[.int .i64 (D2.length : Nat), .int .i64 2, .slice none 0 0, .slice A 1 1] 77)).drew) (fun g o _ e => block_below e (below_ad w6 _)))
      have HST6 : StayS F2 w6 ((w6.alloc (.cells #[.int .i64 (D2.length : Nat), .int .i64 2, .slice none 0 0, .slice A 1 1] 77)).drew) := ⟨(below_ad w6 _).size, fun b o _ e => block_below e (below_ad w6 _)⟩
      have HRS6 := hide (HRS.out.stay HST6 (fun _ h => h))
      have HN6 := hide ((nBk.new HR5.out.st (.cells #[.int .i64 (D2.length : Nat), .int .i64 2, .slice none 0 0, .slice A 1 1] 77)).step ((nR.refl (HR5.out.alloc hBw (.cells #[.int .i64 (D2.length : Nat), .int .i64 2, .slice none 0 0, .slice A 1 1] 77)).st).drew (Nat.le_trans hBw (HR5.out.alloc hBw (.cells #[.int .i64 (D2.length : Nat), .int .i64 2, .slice none 0 0, .slice A 1 1] 77)).size)))
      have HB6 := hide (HB5.out.step hr6)
      have HTY6 := hide (stay_tyU _ _ _ _ _ _ HTY.out HST6 (fun _ h _ => h))
      have hnb : w6.heap.size < (w6.alloc (.cells #[.int .i64 (D2.length : Nat), .int .i64 2, .slice none 0 0, .slice A 1 1] 77)).drew.heap.size := HN6.out.2.2.2.2.2
      have hnc : w6.heap.size ≠ c := HN6.out.2.1
      have hnr : w6.heap.size ≠ w.heap.size := by have := HB5.out.2.2.2.2.2; omega
      obtain ⟨w14, hw14⟩ : ∃ x, (w6.alloc (.cells #[.int .i64 (D2.length : Nat), .int .i64 2, .slice none 0 0, .slice A 1 1] 77)).drew = x := ⟨_, rfl⟩
      rw [hw14] at HR6 HBX6 HROW6 HRS6 HN6 HB6 HTY6 hnb ⊢
      clear hw14 HST6 hr6 HRS HROW HBX HT5 HR5 HB5 HTY HBx
      refine wp_region_chain (fun W => W.cell? ⟨c, 3, none⟩ = some (.map (some mb)) ∧ W.cell? ⟨w6.heap.size, 0, none⟩ = some (.int .i64 (D2.length : Nat))) 7 (by as_aux_lemma => kernel_rfl) (N := 8) (by as_aux_lemma => kernel_rfl) ?_; intro hsh
      have HS : w14.drew.cell? ⟨c, 3, none⟩ = some (.map (some mb)) ∧ w14.drew.cell? ⟨w6.heap.size, 0, none⟩ = some (.int .i64 (D2.length : Nat)) := ⟨HR6.out.st.c3, block_cell HN6.out.1 0⟩
      refine wpAnyC_take0 (i := 0) (k := 7) (v := ?_) (d := some 142) rfl (by rfl) (by as_aux_lemma => kernel_rfl) (by as_aux_lemma => kernel_rfl) (by as_aux_lemma => kernel_rfl) hsh (by decide) (by intro _ _ _ h; exact h) (by assumption) (Or.inl ⟨by rfl, ?hy⟩) ?_; (case hy => (intro W _; go_simp; (try with_reducible rfl))); clear hsh; intro hsh
      refine wpAnyC_take0 (i := 1) (k := 7) (v := ?_) (d := some 143) rfl (by rfl) (by as_aux_lemma => kernel_rfl) (by as_aux_lemma => kernel_rfl) (by as_aux_lemma => kernel_rfl) hsh (by decide) (by intro _ _ _ h; exact h) (by assumption) (Or.inl ⟨by rfl, ?hy⟩) ?_; (case hy => (intro W _; go_simp; (try with_reducible rfl))); clear hsh; intro hsh
      refine wpAnyC_take0 (i := 2) (k := 7) (v := ?_) (d := some 144) rfl (by rfl) (by as_aux_lemma => kernel_rfl) (by as_aux_lemma => kernel_rfl) (by as_aux_lemma => kernel_rfl) hsh (by decide) (by intro _ _ _ h; exact h) (by assumption) (Or.inl ⟨by rfl, ?hy⟩) ?_; (case hy => (intro W _; go_simp; (try with_reducible rfl))); clear hsh; intro hsh
      refine wpAnyC_take (i := 3) (k := 7) (f := 40) (v := ?_) (d := some 145) rfl (by rfl) (by as_aux_lemma => kernel_rfl) (by as_aux_lemma => kernel_rfl) (by as_aux_lemma => kernel_rfl) hsh (by decide) (by as_aux_lemma => kernel_rfl) (by intro _ _ _ h; exact h) (by assumption) (Or.inl ⟨by rfl, ?hy⟩) ?_; (case hy => (rintro W ⟨y0, y1⟩; go_simp; (try with_reducible rfl))); clear hsh; intro hsh
      refine wpAnyC_take0 (i := 4) (k := 7) (v := ?_) (d := some 146) rfl (by rfl) (by as_aux_lemma => kernel_rfl) (by as_aux_lemma => kernel_rfl) (by as_aux_lemma => kernel_rfl) hsh (by decide) (by intro _ _ _ h; exact h) (by assumption) (Or.inl ⟨by rfl, ?hy⟩) ?_; (case hy => (intro W _; go_simp; (try with_reducible rfl))); clear hsh; intro hsh
      refine wpAnyC_take0 (i := 5) (k := 7) (v := ?_) (d := some 147) rfl (by rfl) (by as_aux_lemma => kernel_rfl) (by as_aux_lemma => kernel_rfl) (by as_aux_lemma => kernel_rfl) hsh (by decide) (by intro _ _ _ h; exact h) (by assumption) (Or.inl ⟨by rfl, ?hy⟩) ?_; (case hy => (intro W _; go_simp; (try with_reducible rfl))); clear hsh; intro hsh
      refine wpAnyC_take (i := 6) (k := 7) (f := 40) (v := ?_) (d := some 148) rfl (by rfl) (by as_aux_lemma => kernel_rfl) (by as_aux_lemma => kernel_rfl) (by as_aux_lemma => kernel_rfl) hsh (by decide) (by as_aux_lemma => kernel_rfl) (by intro _ _ _ h; exact h) (by assumption) (Or.inl ⟨by rfl, ?hy⟩) ?_; (case hy => (rintro W ⟨y0, y1⟩; go_simp; (try with_reducible rfl))); clear hsh; intro hsh
      refine wpAnyC_tail (by as_aux_lemma => kernel_rfl) (by simp) (by as_aux_lemma => kernel_rfl) ?_; simp only [List.drop_succ_cons, List.drop_zero]; clear hsh
      clear HS
      go_simp
      go_wp2_with (at_mapUpdate; refine wpList_mapUpdate_own _ rfl _ _ _ 49 rfl 9 3 law_strD Tryd.underlying49 _ mb D2.length _ rfl HR6.out.st.map (by unfold maxLen; omega) _ _ _ rfl rfl (key_ofD kb hkm) _ [] (Go.plainElem_int Tryd.underlying3 (wf_intD (by omega))) ?_; intro w15 hown7 hg7; rw [HKB.out] at hown7; have HM7 := hide (nMid.start (x := (⟨2, [], [m]⟩, Ty.mk 2 [] [t])) HR6.out hBw HBX6.out HROW6.out HRS6.out HNF.out (below_drewN (Below.refl _ _) 1) hown7 hg7); have HN7 := hide (HN6.out.mid (below_drewN (Below.refl _ _) 1) hg7); have HB7 := hide (HB6.out.mid (below_drewN (Below.refl _ _) 1) hg7); have HTY7 := hide (stay_tyU _ _ _ _ _ _ HTY6.out (stay_mid HR6.out.st (below_drewN (Below.refl _ _) 1) hg7) (fun _ h _ => h)); clear hown7 hg7)
      refine wp_region_chain (fun W => W.cell? ⟨c, 4, none⟩ = some (.slice A6 D2.length k6) ∧ W.cell? ⟨w6.heap.size, 0, none⟩ = some (.int .i64 (D2.length : Nat)) ∧ W.cell? ⟨w6.heap.size, 1, none⟩ = some (.int .i64 2) ∧ W.cell? ⟨w6.heap.size, 2, none⟩ = some (.slice none 0 0) ∧ W.cell? ⟨w6.heap.size, 3, none⟩ = some (.slice A 1 1)) 7 (by as_aux_lemma => kernel_rfl) (N := 11) (by as_aux_lemma => kernel_rfl) ?_; intro hsh
      have HS : w15.drew.cell? ⟨c, 4, none⟩ = some (.slice A6 D2.length k6) ∧ w15.drew.cell? ⟨w6.heap.size, 0, none⟩ = some (.int .i64 (D2.length : Nat)) ∧ w15.drew.cell? ⟨w6.heap.size, 1, none⟩ = some (.int .i64 2) ∧ w15.drew.cell? ⟨w6.heap.size, 2, none⟩ = some (.slice none 0 0) ∧ w15.drew.cell? ⟨w6.heap.size, 3, none⟩ = some (.slice A 1 1) := ⟨block_cell HM7.out.box 4, block_cell HN7.out 0, block_cell HN7.out 1, block_cell HN7.out 2, block_cell HN7.out 3⟩
      refine wpAnyC_take0 (i := 0) (k := 7) (v := ?_) (d := some 149) rfl (by rfl) (by as_aux_lemma => kernel_rfl) (by as_aux_lemma => kernel_rfl) (by as_aux_lemma => kernel_rfl) hsh (by decide) (by intro _ _ _ h; exact h) (by assumption) (Or.inl ⟨by rfl, ?hy⟩) ?_; (case hy => (intro W _; go_simp; (try with_reducible rfl))); clear hsh; intro hsh
      refine wpAnyC_take0 (i := 1) (k := 7) (v := ?_) (d := some 150) rfl (by rfl) (by as_aux_lemma => kernel_rfl) (by as_aux_lemma => kernel_rfl) (by as_aux_lemma => kernel_rfl) hsh (by decide) (by intro _ _ _ h; exact h) (by assumption) (Or.inl ⟨by rfl, ?hy⟩) ?_; (case hy => (intro W _; go_simp; (try with_reducible rfl))); clear hsh; intro hsh
      refine wpAnyC_take0 (i := 2) (k := 7) (v := ?_) (d := some 151) rfl (by rfl) (by as_aux_lemma => kernel_rfl) (by as_aux_lemma => kernel_rfl) (by as_aux_lemma => kernel_rfl) hsh (by decide) (by intro _ _ _ h; exact h) (by assumption) (Or.inl ⟨by rfl, ?hy⟩) ?_; (case hy => (intro W _; go_simp; (try with_reducible rfl))); clear hsh; intro hsh
      refine wpAnyC_take0 (i := 3) (k := 7) (v := ?_) (d := some 152) rfl (by rfl) (by as_aux_lemma => kernel_rfl) (by as_aux_lemma => kernel_rfl) (by as_aux_lemma => kernel_rfl) hsh (by decide) (by intro _ _ _ h; exact h) (by assumption) (Or.inl ⟨by rfl, ?hy⟩) ?_; (case hy => (intro W _; go_simp; (try with_reducible rfl))); clear hsh; intro hsh
      refine wpAnyC_take (i := 4) (k := 7) (f := 40) (v := ?_) (d := some 153) rfl (by rfl) (by as_aux_lemma => kernel_rfl) (by as_aux_lemma => kernel_rfl) (by as_aux_lemma => kernel_rfl) hsh (by decide) (by as_aux_lemma => kernel_rfl) (by intro _ _ _ h; exact h) (by assumption) (Or.inl ⟨by rfl, ?hy⟩) ?_; (case hy => (rintro W ⟨y0, y1, y2, y3, y4⟩; go_simp; (try with_reducible rfl))); clear hsh; intro hsh
      refine wpAnyC_take (i := 5) (k := 7) (f := 40) (v := ?_) (d := some 154) rfl (by rfl) (by as_aux_lemma => kernel_rfl) (by as_aux_lemma => kernel_rfl) (by as_aux_lemma => kernel_rfl) hsh (by decide) (by as_aux_lemma => kernel_rfl) (by intro _ _ _ h; exact h) (by assumption) (Or.inl ⟨by rfl, ?hy⟩) ?_; (case hy => (rintro W ⟨y0, y1, y2, y3, y4⟩; go_simp; (try with_reducible rfl))); clear hsh; intro hsh
      refine wpAnyC_ready (rs := [6]) (by as_aux_lemma => kernel_rfl) (by simp) ?_; refine AllC.cons (i := 6) rfl (by as_aux_lemma => kernel_rfl) hsh (fun K hK => ?_) AllC.nil
      go_simp
      have HS2 : (w15.drew.alloc (.cells #[.int .i64 (D2.length : Nat), .int .i64 2, .slice none 0 0, .slice A 1 1] 77)).cell? ⟨c, 4, none⟩ = some (.slice A6 D2.length k6) ∧ (w15.drew.alloc (.cells #[.int .i64 (D2.length : Nat), .int .i64 2, .slice none 0 0, .slice A 1 1] 77)).cell? ⟨w6.heap.size, 0, none⟩ = some (.int .i64 (D2.length : Nat)) ∧ (w15.drew.alloc (.cells #[.int .i64 (D2.length : Nat), .int .i64 2, .slice none 0 0, .slice A 1 1] 77)).cell? ⟨w6.heap.size, 1, none⟩ = some (.int .i64 2) ∧ (w15.drew.alloc (.cells #[.int .i64 (D2.length : Nat), .int .i64 2, .slice none 0 0, .slice A 1 1] 77)).cell? ⟨w6.heap.size, 2, none⟩ = some (.slice none 0 0) ∧ (w15.drew.alloc (.cells #[.int .i64 (D2.length : Nat), .int .i64 2, .slice none 0 0, .slice A 1 1] 77)).cell? ⟨w6.heap.size, 3, none⟩ = some (.slice A 1 1) := ⟨block_cell (block_below HM7.out.box (below_da w15 _)) 4, block_cell (block_below HN7.out (below_da w15 _)) 0, block_cell (block_below HN7.out (below_da w15 _)) 1, block_cell (block_below HN7.out (below_da w15 _)) 2, block_cell (block_below HN7.out (below_da w15 _)) 3⟩
      refine hK _ _ (fun _ => HS2) ?_
      clear hK K hsh HS
      intro hsh
      refine wpAnyC_tail (by as_aux_lemma => kernel_rfl) (by simp) (by as_aux_lemma => kernel_rfl) ?_; simp only [List.drop_succ_cons, List.drop_zero]; clear hsh
      clear HS2
      go_simp
      have HRd := hide (own_stay HM7.out.row (w' := w15.drew) (fun g o _ e => e))
      obtain ⟨i0, hi0, iz0, iz1, iz2⟩ := info_parts info_nd
      refine wpList_append_own_at _ (by rfl) (.tmp 153) (.tmp 155) 67 (by rfl) B 77 i0 (.agg #[.int .i64 0, .int .i64 0, .slice none 0 0, .slice none 0 0]) 4 64 Tryd.underlying67 hi0 iz0 iz1 iz2 rfl (by decide) (.slice A6 D2.length k6) D2.length css.flatten (by rfl) (HRd.out.alloc _) ⟨w15.heap.size, 0, none⟩ 1 1 [.int .i64 (D2.length : Nat), .int .i64 2, .slice none 0 0, .slice A 1 1] (by rfl) (by rfl) (cells_new w15.drew [.int .i64 (D2.length : Nat), .int .i64 2, .slice none 0 0, .slice A 1 1] _) (by intro u hu; simp at hu; rcases hu with rfl | rfl | rfl | rfl <;> rfl) (by unfold maxLen; omega) (by omega) (Nat.le_trans hBw (HM7.out.be.trans ((below_da w15 (.cells #[.int .i64 (D2.length : Nat), .int .i64 2, .slice none 0 0, .slice A 1 1] 77)).mono (Nat.le_trans hBw HM7.out.be.size))).size) ?_
      intro v8 w16 hown8 hg8 _ hat8
      have HR9 := hide (HM7.out.push hBw HTY7.out HM.out HSH.out (by omega) (below_da w15 _) hown8 hg8 hat8)
      have e8c := block_push HM7.out.box (below_da w15 _) hg8 HM7.out.cnot
      have HN8 := hide (block_push HN7.out (below_da w15 _) hg8 (HN6.out.nrow HBX6.out))
      have e8r := block_push HB7.out (below_da w15 _) hg8 (HB6.out.nrow HBX6.out)
      have HB9 := hide (HB6.out.last e8c e8r (HB6.out.nrow HBX6.out) (N := (w15.drew.alloc (.cells #[.int .i64 (D2.length : Nat), .int .i64 2, .slice none 0 0, .slice A 1 1] 77)).heap.size) (by have := HM7.out.be.size; simp; omega) hat8)
      have HTY9 := hide (stay_tyU _ _ _ _ _ _ HTY7.out (stay_last HM7.out (below_da w15 _) hg8 v8) (fun _ h _ => h))
      obtain ⟨ao, cp, rfl⟩ := own_sl hown8
      have b3 : w16.frozen? ⟨c, 4, none⟩ = false := block_free e8c 4
      have b4 := block_cell e8c 4
      have n0 := block_cell HN8.out 0
      have n1 := block_cell HN8.out 1
      have n2 := block_cell HN8.out 2
      have n3 := block_cell HN8.out 3
      have r0 := block_cell HB9.out.1 0
      have r1 := block_cell HB9.out.1 1
      have r2 := block_cell HB9.out.1 2
      have r3 := block_cell HB9.out.1 3
      have fr0 := block_free HB9.out.1 0
      have fr1 := block_free HB9.out.1 1
      have fr2 := block_free HB9.out.1 2
      have fr3 := block_free HB9.out.1 3
      clear hown8 hg8 hat8 e8c e8r
      go_wp2_with (fail)
      obtain ⟨hrz, hbz, hsz⟩ := nFin HR9.out hBw HB9.out hrb (.int .i64 (D2.length : Nat)) (.int .i64 2) (.slice none 0 0) (.slice A 1 1)
      generalize World.setCell _ (⟨w.heap.size, 3, none⟩ : Addr) _ = wz at hrz hbz hsz ⊢
      have z0 := block_cell hbz 0
      have z1 := block_cell hbz 1
      have z2 := block_cell hbz 2
      have z3 := block_cell hbz 3
      simp at z0 z1 z2 z3
      ((try simp only [Exit.inBlock, Exit.then]); refine bodyPost_ret (by simp [results, Tryd.results27, go_sem, z0, z1, z2, z3]; try rfl) rfl ?_)
      exact RP.ok HE.out ⟨F2, _, _, _, _, _, _, _, rfl, stay_tyU _ _ _ _ _ _ HTY9.out hsz (fun _ h _ => h), hrz⟩
end Go.Proofs.YtocpmbpckbjepaaDoor

/- Walk of one of the program's reader of mangled names, a list (printed by gen_dg.py). -/
namespace Go.Proofs.YtocpmbpckbjepaaDoor
open Go.RowKit
set_option linter.unusedVariables false
set_option linter.unusedSimpArgs false
set_option maxRecDepth 100000 in
set_option maxHeartbeats 16000000 in
theorem nOne_L {s : ByteArray} {f : Nat} (H : nOneOk s f) (hf : f + 1 ≤ 12) : nOneAt s (f + 1) 76 := by
  intro B c mb D F i d w hBw htb hs hDi hd h hb
  have hi := get_lt hb
  have HOK := hide h.ok
  have HRA := hide ((nR.refl h).alloc hBw (.cells #[.int .i64 0, .int .i64 0, .slice none 0 0, .slice none 0 0] 77))
  have HBA := hide (nBk.new h (.cells #[.int .i64 0, .int .i64 0, .slice none 0 0, .slice none 0 0] 77))
  have hrb : w.heap.size ≤ w.heap.size := Nat.le_refl _
  have c1 := HRA.out.st.c1
  have HPK := hide (nPeek B c mb s D F _ (Nat.le_trans hBw HRA.out.size) i hs HRA.out.st)
  rw [pkB_is hb] at HPK
  have HTB := hide htb
  have HDD := hide hd
  have hdeep : decide ((12 : Int) ≤ d) = false := by simp; omega
  have hdd : ¬ (12 : Int) ≤ d := by omega
  have hdw : wrap64 (d + 1) = d + 1 := (by unfold wrap64; omega)
  clear h htb hd
  have hwi : wrap64 ((i : Int) + 1) = (i : Int) + 1 := by unfold wrap64; omega
  have hutf : Utf8.encode 76 = ⟨#[76]⟩ := by kernel_rfl
  have HNM := hide (fun (W : World) (h : nR B c mb s ((i : Int) + 1) (-1) D F F w W) => H B c mb D F (i + 1) (d + 1) W (Nat.le_trans hBw h.size) (HTB.out.below h.be) hs hi (by omega) (by have := HDD.out; omega) (by rw [show ((i + 1 : Nat) : Int) = (i : Int) + 1 by omega]; exact h.st))
  have HX := hide (dOne_L (f := f) (D := D) hb)
  clear H hb
  cases hn : dOne s f D (i + 1) with
  | bad e0 =>
    have HND := hide hn
    have HE := hide (show dOne s (f + 1) D i = .bad e0 by rw [HX.out, hn]; rfl)
    clear hn HX
    go_enter Tryd.func27, Tryd.ntmps27
    go_wp2_with (first | (go_at_call 26; refine HPK.out.mono ?_; rintro e w1 ⟨rfl, hr⟩; have HR1 := hide (HRA.out.trans hr); have HB1 := hide (HBA.out.step hr); have hw1 : w.heap.size ≤ w1.heap.size := HR1.out.size; have hlt1 : w.heap.size < w1.heap.size := HB1.out.2.2.2.2.2; have hr2 := (nR.refl HR1.out.st).alloc (Nat.le_trans hBw HR1.out.size) (.cells #[.int .i64 0, .slice none 0 0, .slice none 0 0] 75); have HR2 := hide (HR1.out.trans hr2); have HB2 := hide (HB1.out.step hr2); have HT2 := hide (nBk.new HR1.out.st (.cells #[.int .i64 0, .slice none 0 0, .slice none 0 0] 75)); have c1' := HR2.out.st.c1; have f1' := HR2.out.st.f 1; have hr3 := (nR.refl HR2.out.st).set1 (Nat.le_trans hBw HR2.out.size) ((i : Int) + 1); have HR3 := hide (HR2.out.trans hr3); have HB3 := hide (HB2.out.step hr3); have HT3 := hide (HT2.out.step hr3); have t0 := block_cell HT3.out.1 0; have ft0 := block_free HT3.out.1 0; have HR3b := hide (HR3.out.other (k := 0) hBw hw1 HT3.out.2 (.int .i64 2)); have HB3b := hide (HB3.out.other (k := 0) HR3.out.st HT3.out.2.1 (by omega) (.int .i64 2)); have HT3b := hide (HT3.out.set (k := 0) HR3.out.st (.int .i64 2)); have HR4 := hide (HR3b.out.other (k := 0) hBw hw1 HT3b.out.2 (.int .i64 3)); have HB4 := hide (HB3b.out.other (k := 0) HR3b.out.st HT3b.out.2.1 (by omega) (.int .i64 3)); have HT4 := hide (show nBk c mb ((((w1.alloc (.cells #[.int .i64 0, .slice none 0 0, .slice none 0 0] 75)).setCell ⟨c, 1, none⟩ (.int .i64 ((i : Int) + 1))).setCell ⟨w1.heap.size, 0, none⟩ (.int .i64 2)).setCell ⟨w1.heap.size, 0, none⟩ (.int .i64 3)) F w1.heap.size (.cells #[.int .i64 3, .slice none 0 0, .slice none 0 0] 75) from HT3b.out.set (k := 0) HR3b.out.st (.int .i64 3)); clear hr hr2 hr3 HPK) | (go_at_call 27; refine (HNM.out _ HR4.out).mono ?_; intro e w5 hrp; obtain ⟨rfl, y, D5, F5, hy, hr⟩ := hrp.of_bad HND.out; have HR5 := hide (HR4.out.trans hr); have HB5 := hide (HB4.out.step hr); have HT5 := hide (HT4.out.step hr); have hb5 := Nat.le_trans hBw HR5.out.size; have HNA := hide (heap_alloc_new w5 (.cells #[.int .i64 0, .int .i64 0, .slice none 0 0, .slice none 0 0] 77)); have m0 := block_cell HNA.out 0; have m1 := block_cell HNA.out 1; have m2 := block_cell HNA.out 2; have m3 := block_cell HNA.out 3; have HT52 := hide (block_below HT5.out.1 (below_2 w5 (.cells #[.int .i64 0, .int .i64 0, .slice none 0 0, .slice none 0 0] 77) (.cells #[.int .i64 0, .slice none 0 0, .slice none 0 0] 75))); have u2 := block_cell HT52.out 2; have fu2 := block_free HT52.out 2; have HR6 := hide (HR5.out.other (k := 2) hBw hw1 HT5.out.2 (.slice (some ⟨w5.heap.size + 1, 0, none⟩) 1 1)); have HB6 := hide (HB5.out.other (k := 2) HR5.out.st HT5.out.2.1 (by omega) (.slice (some ⟨w5.heap.size + 1, 0, none⟩) 1 1)); have HT6 := hide (HT5.out.set (k := 2) HR5.out.st (.slice (some ⟨w5.heap.size + 1, 0, none⟩) 1 1)); have hz6 : (w5.setCell ⟨w1.heap.size, 2, none⟩ (.slice (some ⟨w5.heap.size + 1, 0, none⟩) 1 1)).heap.size = w5.heap.size := (by simp); have hr7 := (nR.refl HR6.out.st).alloc (Nat.le_trans hBw HR6.out.size) (.cells #[.int .i64 0, .int .i64 0, .slice none 0 0, .slice none 0 0] 77); have HR7 := hide (HR6.out.trans hr7); have HB7 := hide (HB6.out.step hr7); have HT7 := hide (HT6.out.step hr7); have HN7 := hide (nBk.new HR6.out.st (.cells #[.int .i64 0, .int .i64 0, .slice none 0 0, .slice none 0 0] 77)); rw [hz6] at HN7; have hz7 : ((w5.setCell ⟨w1.heap.size, 2, none⟩ (.slice (some ⟨w5.heap.size + 1, 0, none⟩) 1 1)).alloc (.cells #[.int .i64 0, .int .i64 0, .slice none 0 0, .slice none 0 0] 77)).heap.size = w5.heap.size + 1 := (by simp); have hr8 := (nR.refl HR7.out.st).alloc (Nat.le_trans hBw HR7.out.size) (.cells #[.int .i64 0, .slice none 0 0, .slice none 0 0] 75); have HR8 := hide (HR7.out.trans hr8); have HB8 := hide (HB7.out.step hr8); have HT8 := hide (HT7.out.step hr8); have HN8 := hide (HN7.out.step hr8); have HS8 := hide (nBk.new HR7.out.st (.cells #[.int .i64 0, .slice none 0 0, .slice none 0 0] 75)); rw [hz7] at HS8; have hsb1 : ¬ (w1.heap.size = w5.heap.size + 1) := (by have := HT5.out.2.2.2.2.2; omega); have hsb2 : ¬ (w.heap.size = w5.heap.size + 1) := (by have := HB5.out.2.2.2.2.2; omega); have hsb3 : ¬ (w5.heap.size = w5.heap.size + 1) := (by omega); have hw15 := HT5.out.2.2.2.2.2; have HR9 := hide (HR8.out.join (fun j => j = w5.heap.size + 1) (fun j hj => (by subst hj; exact ⟨by have := HR5.out.size; omega, HS8.out.2⟩))); have HB9 := hide (HB8.out.join (Y := fun j => j = w5.heap.size + 1) hsb2); have HT9 := hide (HT8.out.join (Y := fun j => j = w5.heap.size + 1) hsb1); have m0' := block_cell HN8.out.1 0; have IT := hide (fun W (h : nR B c mb s y e0 D5 F (fun b => F5 b ∨ b = w5.heap.size + 1) w W) => itoa4 W (n := 0) (by omega) (HTB.out.below h.be)); clear hr hrp hr7 hr8 t0 ft0) | (go_at_call 42; refine (IT.out _ HR9.out).mono ?_; rintro e w6 ⟨kz, rfl, hkz1, hkz4, hb⟩; have hr10 := (nR.refl HR9.out.st).below (Nat.le_trans hBw HR9.out.size) hb; have HRX := hide (HR9.out.trans hr10); have HBX0 := hide (HB9.out.step hr10); have nb1 : ¬ 9223372036854775807 < 1 + kz.size := (by omega); have c2 := HRX.out.st.c2; have r0 := block_cell HBX0.out.1 0; have r1 := block_cell HBX0.out.1 1; have r2 := block_cell HBX0.out.1 2; have r3 := block_cell HBX0.out.1 3; have fr0 := block_free HBX0.out.1 0; have fr1 := block_free HBX0.out.1 1; have fr2 := block_free HBX0.out.1 2; have fr3 := block_free HBX0.out.1 3; clear hr10 hb hkz1 m0 m1 m2 m3 m0' u2 fu2 IT))
    obtain ⟨hrz, hbz, hsz⟩ := nFin HRX.out hBw HBX0.out hrb (.int .i64 0) (.int .i64 0) (.slice none 0 0) (.slice none 0 0)
    generalize World.setCell _ (⟨w.heap.size, 3, none⟩ : Addr) _ = wz at hrz hbz hsz ⊢
    have z0 := block_cell hbz 0
    have z1 := block_cell hbz 1
    have z2 := block_cell hbz 2
    have z3 := block_cell hbz 3
    simp at z0 z1 z2 z3
    ((try simp only [Exit.inBlock, Exit.then]); refine bodyPost_ret (by simp [results, Tryd.results27, go_sem, z0, z1, z2, z3]; try rfl) rfl ?_)
    exact RP.bad HE.out ⟨rfl, y, D5, _, by omega, hrz⟩
  | ok j z =>
    obtain ⟨m, t, D2⟩ := z
    have hgo := one_go hi HOK.out hn
    have hij := hgo.lt
    have hjs := hgo.le
    have hle := hgo.ext.len
    have hmn := hgo.no
    have hok2 := hgo.ext.ok
    simp only at hle hmn hok2
    have hsh : ShOk ⟨3, [], [m]⟩ := .inr (.inl ⟨.inr rfl, rfl, rfl⟩)
    have HND := hide hn
    have HSH := hide hsh
    have HHS := hide (fun (kb : ByteArray) (hk : kb.data.toList = pK ⟨3, [], [m]⟩) => has_pK hok2 hsh hk)
    clear hn hgo hsh hok2
    by_cases hm : (⟨3, [], [m]⟩ : Shp) ∈ D2.map (·.1)
    · have HE := hide (show dOne s (f + 1) D i = .bad i by rw [HX.out, HND.out]; simp only [Res.bind]; rw [dNew_no hm])
      simp only [hm, decide_true] at HHS
      clear hm HX
      go_enter Tryd.func27, Tryd.ntmps27
      go_wp2_with (first | (go_at_call 26; refine HPK.out.mono ?_; rintro e w1 ⟨rfl, hr⟩; have HR1 := hide (HRA.out.trans hr); have HB1 := hide (HBA.out.step hr); have hw1 : w.heap.size ≤ w1.heap.size := HR1.out.size; have hlt1 : w.heap.size < w1.heap.size := HB1.out.2.2.2.2.2; have hr2 := (nR.refl HR1.out.st).alloc (Nat.le_trans hBw HR1.out.size) (.cells #[.int .i64 0, .slice none 0 0, .slice none 0 0] 75); have HR2 := hide (HR1.out.trans hr2); have HB2 := hide (HB1.out.step hr2); have HT2 := hide (nBk.new HR1.out.st (.cells #[.int .i64 0, .slice none 0 0, .slice none 0 0] 75)); have c1' := HR2.out.st.c1; have f1' := HR2.out.st.f 1; have hr3 := (nR.refl HR2.out.st).set1 (Nat.le_trans hBw HR2.out.size) ((i : Int) + 1); have HR3 := hide (HR2.out.trans hr3); have HB3 := hide (HB2.out.step hr3); have HT3 := hide (HT2.out.step hr3); have t0 := block_cell HT3.out.1 0; have ft0 := block_free HT3.out.1 0; have HR3b := hide (HR3.out.other (k := 0) hBw hw1 HT3.out.2 (.int .i64 2)); have HB3b := hide (HB3.out.other (k := 0) HR3.out.st HT3.out.2.1 (by omega) (.int .i64 2)); have HT3b := hide (HT3.out.set (k := 0) HR3.out.st (.int .i64 2)); have HR4 := hide (HR3b.out.other (k := 0) hBw hw1 HT3b.out.2 (.int .i64 3)); have HB4 := hide (HB3b.out.other (k := 0) HR3b.out.st HT3b.out.2.1 (by omega) (.int .i64 3)); have HT4 := hide (show nBk c mb ((((w1.alloc (.cells #[.int .i64 0, .slice none 0 0, .slice none 0 0] 75)).setCell ⟨c, 1, none⟩ (.int .i64 ((i : Int) + 1))).setCell ⟨w1.heap.size, 0, none⟩ (.int .i64 2)).setCell ⟨w1.heap.size, 0, none⟩ (.int .i64 3)) F w1.heap.size (.cells #[.int .i64 3, .slice none 0 0, .slice none 0 0] 75) from HT3b.out.set (k := 0) HR3b.out.st (.int .i64 3)); clear hr hr2 hr3 HPK) | (go_at_call 27; refine (HNM.out _ HR4.out).mono ?_; intro e w5 hrp; obtain ⟨F5, k, A1, n1, q1, A2, n2, q2, rfl, hty, hr⟩ := hrp.of_ok HND.out; have HR5 := hide (HR4.out.trans hr); have HB5 := hide (HB4.out.step hr); have HT5 := hide (HT4.out.step hr); have hb5 := Nat.le_trans hBw HR5.out.size; have HNA := hide (heap_alloc_new w5 (.cells #[.int .i64 (m : Nat), .int .i64 k, .slice A1 n1 q1, .slice A2 n2 q2] 77)); have m0 := block_cell HNA.out 0; have m1 := block_cell HNA.out 1; have m2 := block_cell HNA.out 2; have m3 := block_cell HNA.out 3; have HT52 := hide (block_below HT5.out.1 (below_2 w5 (.cells #[.int .i64 (m : Nat), .int .i64 k, .slice A1 n1 q1, .slice A2 n2 q2] 77) (.cells #[.int .i64 k, .slice A1 n1 q1, .slice A2 n2 q2] 75))); have u2 := block_cell HT52.out 2; have fu2 := block_free HT52.out 2; have HR6 := hide (HR5.out.other (k := 2) hBw hw1 HT5.out.2 (.slice (some ⟨w5.heap.size + 1, 0, none⟩) 1 1)); have HB6 := hide (HB5.out.other (k := 2) HR5.out.st HT5.out.2.1 (by omega) (.slice (some ⟨w5.heap.size + 1, 0, none⟩) 1 1)); have HT6 := hide (HT5.out.set (k := 2) HR5.out.st (.slice (some ⟨w5.heap.size + 1, 0, none⟩) 1 1)); have hz6 : (w5.setCell ⟨w1.heap.size, 2, none⟩ (.slice (some ⟨w5.heap.size + 1, 0, none⟩) 1 1)).heap.size = w5.heap.size := (by simp); have hr7 := (nR.refl HR6.out.st).alloc (Nat.le_trans hBw HR6.out.size) (.cells #[.int .i64 (m : Nat), .int .i64 k, .slice A1 n1 q1, .slice A2 n2 q2] 77); have HR7 := hide (HR6.out.trans hr7); have HB7 := hide (HB6.out.step hr7); have HT7 := hide (HT6.out.step hr7); have HN7 := hide (nBk.new HR6.out.st (.cells #[.int .i64 (m : Nat), .int .i64 k, .slice A1 n1 q1, .slice A2 n2 q2] 77)); rw [hz6] at HN7; have hz7 : ((w5.setCell ⟨w1.heap.size, 2, none⟩ (.slice (some ⟨w5.heap.size + 1, 0, none⟩) 1 1)).alloc (.cells #[.int .i64 (m : Nat), .int .i64 k, .slice A1 n1 q1, .slice A2 n2 q2] 77)).heap.size = w5.heap.size + 1 := (by simp); have hr8 := (nR.refl HR7.out.st).alloc (Nat.le_trans hBw HR7.out.size) (.cells #[.int .i64 k, .slice A1 n1 q1, .slice A2 n2 q2] 75); have HR8 := hide (HR7.out.trans hr8); have HB8 := hide (HB7.out.step hr8); have HT8 := hide (HT7.out.step hr8); have HN8 := hide (HN7.out.step hr8); have HS8 := hide (nBk.new HR7.out.st (.cells #[.int .i64 k, .slice A1 n1 q1, .slice A2 n2 q2] 75)); rw [hz7] at HS8; have hsb1 : ¬ (w1.heap.size = w5.heap.size + 1) := (by have := HT5.out.2.2.2.2.2; omega); have hsb2 : ¬ (w.heap.size = w5.heap.size + 1) := (by have := HB5.out.2.2.2.2.2; omega); have hsb3 : ¬ (w5.heap.size = w5.heap.size + 1) := (by omega); have hw15 := HT5.out.2.2.2.2.2; have HR9 := hide (HR8.out.join (fun j => j = w5.heap.size + 1) (fun j hj => (by subst hj; exact ⟨by have := HR5.out.size; omega, HS8.out.2⟩))); have HB9 := hide (HB8.out.join (Y := fun j => j = w5.heap.size + 1) hsb2); have HT9 := hide (HT8.out.join (Y := fun j => j = w5.heap.size + 1) hsb1); have m0' := block_cell HN8.out.1 0; have hty6 := stay_tyU _ _ _ _ _ _ hty (stay_own (k := 2) (x := .slice (some ⟨w5.heap.size + 1, 0, none⟩) 1 1) HT5.out.2) (fun _ h _ => h); have hty7 := stay_tyU _ _ _ _ _ _ hty6 (hr7.trans hr8).stayF (fun b h _ => (Or.inl h : F5 b ∨ b = w5.heap.size + 1)); have HTY9 := hide (ty_of 3 (sl_one (F := fun b => F5 b ∨ b = w5.heap.size + 1) hty7 (Or.inr rfl) HS8.out.1) (Nat.le_refl _) (by unfold maxLen; omega)); have IT := hide (fun W (h : nR B c mb s j (-1) D2 F (fun b => F5 b ∨ b = w5.heap.size + 1) w W) => itoa4 W (n := m) (by omega) (HTB.out.below h.be)); clear hty hty6 hty7; clear hr hrp hr7 hr8 t0 ft0) | (go_at_call 42; refine (IT.out _ HR9.out).mono ?_; rintro e w6 ⟨kz, rfl, hkz1, hkz4, hb⟩; have hr10 := (nR.refl HR9.out.st).below (Nat.le_trans hBw HR9.out.size) hb; have HRX := hide (HR9.out.trans hr10); have HBX0 := hide (HB9.out.step hr10); have nb1 : ¬ 9223372036854775807 < 1 + kz.size := (by omega); have c2 := HRX.out.st.c2; have HTX := hide (HT9.out.step hr10); have HTYX := hide (stay_tyU _ _ _ _ _ _ HTY9.out hr10.stayF (fun _ h _ => h)); have c3 := HRX.out.st.c3; have HKB := hide (show (⟨#[76]⟩ ++ kz : ByteArray).data.toList = pK ⟨3, [], [m]⟩ from (by rw [app_toList, hkz1, pK_one _ _ (by decide)]; rfl)); have hkm : (⟨#[76]⟩ ++ kz : ByteArray).size ≤ maxLen := (by rw [ByteArray.size_append]; show 1 + kz.size ≤ maxLen; unfold maxLen; omega); have HHAS := hide (HHS.out _ HKB.out); clear hr10 hb hkz1 m0 m1 m2 m3 m0' u2 fu2 IT) | (at_lookup; refine Go.wpList_lookup_own_ok_int _ rfl _ _ 49 rfl 9 3 .i64 law_strD Tryd.underlying49 Tryd.underlying3 (zero_intD _) mb _ _ rfl HRX.out.st.map (.string (⟨#[76]⟩ ++ kz)) _ rfl (key_ofD _ hkm) ?_; intro c' hat hwc; rw [HHAS.out]; clear hat hwc) | (go_at_call 28; refine (nFail_new B c mb s D2 (fun b => F5 b ∨ b = w5.heap.size + 1) _ (Nat.le_trans hBw HRX.out.size) j i HRX.out.st).mono ?_; rintro e w7 ⟨rfl, hr⟩; have HR6 := hide (HRX.out.trans hr); have HB6 := hide (HBX0.out.step hr); have r0 := block_cell HB6.out.1 0; have r1 := block_cell HB6.out.1 1; have r2 := block_cell HB6.out.1 2; have r3 := block_cell HB6.out.1 3; have fr0 := block_free HB6.out.1 0; have fr1 := block_free HB6.out.1 1; have fr2 := block_free HB6.out.1 2; have fr3 := block_free HB6.out.1 3; clear hr))
      obtain ⟨hrz, hbz, hsz⟩ := nFin HR6.out hBw HB6.out hrb (.int .i64 0) (.int .i64 0) (.slice none 0 0) (.slice none 0 0)
      generalize World.setCell _ (⟨w.heap.size, 3, none⟩ : Addr) _ = wz at hrz hbz hsz ⊢
      have z0 := block_cell hbz 0
      have z1 := block_cell hbz 1
      have z2 := block_cell hbz 2
      have z3 := block_cell hbz 3
      simp at z0 z1 z2 z3
      ((try simp only [Exit.inBlock, Exit.then]); refine bodyPost_ret (by simp [results, Tryd.results27, go_sem, z0, z1, z2, z3]; try rfl) rfl ?_)
      exact RP.bad HE.out ⟨rfl, j, D2, _, by omega, hrz⟩
    · have HE := hide (show dOne s (f + 1) D i = .ok j (D2.length, Ty.mk 3 [] [t], D2 ++ [(⟨3, [], [m]⟩, Ty.mk 3 [] [t])]) by rw [HX.out, HND.out]; simp only [Res.bind]; rw [dNew_ok hm])
      simp only [hm, decide_false] at HHS
      have HM := hide hm
      clear hm HX
      go_enter Tryd.func27, Tryd.ntmps27
      go_wp2_with (first | (go_at_call 26; refine HPK.out.mono ?_; rintro e w1 ⟨rfl, hr⟩; have HR1 := hide (HRA.out.trans hr); have HB1 := hide (HBA.out.step hr); have hw1 : w.heap.size ≤ w1.heap.size := HR1.out.size; have hlt1 : w.heap.size < w1.heap.size := HB1.out.2.2.2.2.2; have hr2 := (nR.refl HR1.out.st).alloc (Nat.le_trans hBw HR1.out.size) (.cells #[.int .i64 0, .slice none 0 0, .slice none 0 0] 75); have HR2 := hide (HR1.out.trans hr2); have HB2 := hide (HB1.out.step hr2); have HT2 := hide (nBk.new HR1.out.st (.cells #[.int .i64 0, .slice none 0 0, .slice none 0 0] 75)); have c1' := HR2.out.st.c1; have f1' := HR2.out.st.f 1; have hr3 := (nR.refl HR2.out.st).set1 (Nat.le_trans hBw HR2.out.size) ((i : Int) + 1); have HR3 := hide (HR2.out.trans hr3); have HB3 := hide (HB2.out.step hr3); have HT3 := hide (HT2.out.step hr3); have t0 := block_cell HT3.out.1 0; have ft0 := block_free HT3.out.1 0; have HR3b := hide (HR3.out.other (k := 0) hBw hw1 HT3.out.2 (.int .i64 2)); have HB3b := hide (HB3.out.other (k := 0) HR3.out.st HT3.out.2.1 (by omega) (.int .i64 2)); have HT3b := hide (HT3.out.set (k := 0) HR3.out.st (.int .i64 2)); have HR4 := hide (HR3b.out.other (k := 0) hBw hw1 HT3b.out.2 (.int .i64 3)); have HB4 := hide (HB3b.out.other (k := 0) HR3b.out.st HT3b.out.2.1 (by omega) (.int .i64 3)); have HT4 := hide (show nBk c mb ((((w1.alloc (.cells #[.int .i64 0, .slice none 0 0, .slice none 0 0] 75)).setCell ⟨c, 1, none⟩ (.int .i64 ((i : Int) + 1))).setCell ⟨w1.heap.size, 0, none⟩ (.int .i64 2)).setCell ⟨w1.heap.size, 0, none⟩ (.int .i64 3)) F w1.heap.size (.cells #[.int .i64 3, .slice none 0 0, .slice none 0 0] 75) from HT3b.out.set (k := 0) HR3b.out.st (.int .i64 3)); clear hr hr2 hr3 HPK) | (go_at_call 27; refine (HNM.out _ HR4.out).mono ?_; intro e w5 hrp; obtain ⟨F5, k, A1, n1, q1, A2, n2, q2, rfl, hty, hr⟩ := hrp.of_ok HND.out; have HR5 := hide (HR4.out.trans hr); have HB5 := hide (HB4.out.step hr); have HT5 := hide (HT4.out.step hr); have hb5 := Nat.le_trans hBw HR5.out.size; have HNA := hide (heap_alloc_new w5 (.cells #[.int .i64 (m : Nat), .int .i64 k, .slice A1 n1 q1, .slice A2 n2 q2] 77)); have m0 := block_cell HNA.out 0; have m1 := block_cell HNA.out 1; have m2 := block_cell HNA.out 2; have m3 := block_cell HNA.out 3; have HT52 := hide (block_below HT5.out.1 (below_2 w5 (.cells #[.int .i64 (m : Nat), .int .i64 k, .slice A1 n1 q1, .slice A2 n2 q2] 77) (.cells #[.int .i64 k, .slice A1 n1 q1, .slice A2 n2 q2] 75))); have u2 := block_cell HT52.out 2; have fu2 := block_free HT52.out 2; have HR6 := hide (HR5.out.other (k := 2) hBw hw1 HT5.out.2 (.slice (some ⟨w5.heap.size + 1, 0, none⟩) 1 1)); have HB6 := hide (HB5.out.other (k := 2) HR5.out.st HT5.out.2.1 (by omega) (.slice (some ⟨w5.heap.size + 1, 0, none⟩) 1 1)); have HT6 := hide (HT5.out.set (k := 2) HR5.out.st (.slice (some ⟨w5.heap.size + 1, 0, none⟩) 1 1)); have hz6 : (w5.setCell ⟨w1.heap.size, 2, none⟩ (.slice (some ⟨w5.heap.size + 1, 0, none⟩) 1 1)).heap.size = w5.heap.size := (by simp); have hr7 := (nR.refl HR6.out.st).alloc (Nat.le_trans hBw HR6.out.size) (.cells #[.int .i64 (m : Nat), .int .i64 k, .slice A1 n1 q1, .slice A2 n2 q2] 77); have HR7 := hide (HR6.out.trans hr7); have HB7 := hide (HB6.out.step hr7); have HT7 := hide (HT6.out.step hr7); have HN7 := hide (nBk.new HR6.out.st (.cells #[.int .i64 (m : Nat), .int .i64 k, .slice A1 n1 q1, .slice A2 n2 q2] 77)); rw [hz6] at HN7; have hz7 : ((w5.setCell ⟨w1.heap.size, 2, none⟩ (.slice (some ⟨w5.heap.size + 1, 0, none⟩) 1 1)).alloc (.cells #[.int .i64 (m : Nat), .int .i64 k, .slice A1 n1 q1, .slice A2 n2 q2] 77)).heap.size = w5.heap.size + 1 := (by simp); have hr8 := (nR.refl HR7.out.st).alloc (Nat.le_trans hBw HR7.out.size) (.cells #[.int .i64 k, .slice A1 n1 q1, .slice A2 n2 q2] 75); have HR8 := hide (HR7.out.trans hr8); have HB8 := hide (HB7.out.step hr8); have HT8 := hide (HT7.out.step hr8); have HN8 := hide (HN7.out.step hr8); have HS8 := hide (nBk.new HR7.out.st (.cells #[.int .i64 k, .slice A1 n1 q1, .slice A2 n2 q2] 75)); rw [hz7] at HS8; have hsb1 : ¬ (w1.heap.size = w5.heap.size + 1) := (by have := HT5.out.2.2.2.2.2; omega); have hsb2 : ¬ (w.heap.size = w5.heap.size + 1) := (by have := HB5.out.2.2.2.2.2; omega); have hsb3 : ¬ (w5.heap.size = w5.heap.size + 1) := (by omega); have hw15 := HT5.out.2.2.2.2.2; have HR9 := hide (HR8.out.join (fun j => j = w5.heap.size + 1) (fun j hj => (by subst hj; exact ⟨by have := HR5.out.size; omega, HS8.out.2⟩))); have HB9 := hide (HB8.out.join (Y := fun j => j = w5.heap.size + 1) hsb2); have HT9 := hide (HT8.out.join (Y := fun j => j = w5.heap.size + 1) hsb1); have m0' := block_cell HN8.out.1 0; have hty6 := stay_tyU _ _ _ _ _ _ hty (stay_own (k := 2) (x := .slice (some ⟨w5.heap.size + 1, 0, none⟩) 1 1) HT5.out.2) (fun _ h _ => h); have hty7 := stay_tyU _ _ _ _ _ _ hty6 (hr7.trans hr8).stayF (fun b h _ => (Or.inl h : F5 b ∨ b = w5.heap.size + 1)); have HTY9 := hide (ty_of 3 (sl_one (F := fun b => F5 b ∨ b = w5.heap.size + 1) hty7 (Or.inr rfl) HS8.out.1) (Nat.le_refl _) (by unfold maxLen; omega)); have IT := hide (fun W (h : nR B c mb s j (-1) D2 F (fun b => F5 b ∨ b = w5.heap.size + 1) w W) => itoa4 W (n := m) (by omega) (HTB.out.below h.be)); clear hty hty6 hty7; clear hr hrp hr7 hr8 t0 ft0) | (go_at_call 42; refine (IT.out _ HR9.out).mono ?_; rintro e w6 ⟨kz, rfl, hkz1, hkz4, hb⟩; have hr10 := (nR.refl HR9.out.st).below (Nat.le_trans hBw HR9.out.size) hb; have HRX := hide (HR9.out.trans hr10); have HBX0 := hide (HB9.out.step hr10); have nb1 : ¬ 9223372036854775807 < 1 + kz.size := (by omega); have c2 := HRX.out.st.c2; have HTX := hide (HT9.out.step hr10); have HTYX := hide (stay_tyU _ _ _ _ _ _ HTY9.out hr10.stayF (fun _ h _ => h)); have c3 := HRX.out.st.c3; have HKB := hide (show (⟨#[76]⟩ ++ kz : ByteArray).data.toList = pK ⟨3, [], [m]⟩ from (by rw [app_toList, hkz1, pK_one _ _ (by decide)]; rfl)); have hkm : (⟨#[76]⟩ ++ kz : ByteArray).size ≤ maxLen := (by rw [ByteArray.size_append]; show 1 + kz.size ≤ maxLen; unfold maxLen; omega); have HHAS := hide (HHS.out _ HKB.out); clear hr10 hb hkz1 m0 m1 m2 m3 m0' u2 fu2 IT) | (at_lookup; refine Go.wpList_lookup_own_ok_int _ rfl _ _ 49 rfl 9 3 .i64 law_strD Tryd.underlying49 Tryd.underlying3 (zero_intD _) mb _ _ rfl HRX.out.st.map (.string (⟨#[76]⟩ ++ kz)) _ rfl (key_ofD _ hkm) ?_; intro c' hat hwc; rw [HHAS.out]; clear hat hwc))
      generalize hF2 : (fun b => F5 b ∨ b = w5.heap.size + 1) = F2 at HRX HBX0 HTX HTYX
      obtain ⟨A, hA⟩ : ∃ A : Option Addr, some ⟨w5.heap.size + 1, 0, none⟩ = A := ⟨_, rfl⟩
      rw [hA] at HTX HTYX
      obtain ⟨kb, hkb⟩ : ∃ kb : ByteArray, ⟨#[76]⟩ ++ kz = kb := ⟨_, rfl⟩
      rw [hkb] at HKB hkm ⊢
      have HR5 := HRX
      have HB5 := HBX0
      have HT5 := HTX
      have HTY := HTYX
      clear HRX HBX0 HTX HTYX HR6 HR7 HR8 HR9 HB6 HB7 HB8 HB9 HT6 HT7 HT8 HT9 HNA HN7 HN8 HS8 HT52 HTY9 HR3 HR4 HB3 HB4 HT3 HT4 hsb1 hsb2 hsb3 hF2 hkb
      obtain ⟨wq, hwq⟩ : ∃ x, w5 = x := ⟨_, rfl⟩
      have HWQ := hide hwq
      clear hwq
      obtain ⟨v6, css, hbx, hrow, hrs, hnf⟩ := HR5.out.st.st
      obtain ⟨A6, k6, rfl⟩ := own_sl hrow
      have HBX := hide hbx
      have HROW := hide hrow
      have HRS := hide hrs
      have HNF := hide hnf
      clear hbx hrow hrs hnf
      refine wp_region_chain (fun W => W.cell? ⟨c, 4, none⟩ = some (.slice A6 D2.length k6) ∧ W.cell? ⟨w1.heap.size, 0, none⟩ = some (.int .i64 3) ∧ W.cell? ⟨w1.heap.size, 1, none⟩ = some (.slice none 0 0) ∧ W.cell? ⟨w1.heap.size, 2, none⟩ = some (.slice A 1 1)) 8 (by as_aux_lemma => kernel_rfl) (N := 9) (by as_aux_lemma => kernel_rfl) ?_; intro hsh
      have HS : w6.drew.cell? ⟨c, 4, none⟩ = some (.slice A6 D2.length k6) ∧ w6.drew.cell? ⟨w1.heap.size, 0, none⟩ = some (.int .i64 3) ∧ w6.drew.cell? ⟨w1.heap.size, 1, none⟩ = some (.slice none 0 0) ∧ w6.drew.cell? ⟨w1.heap.size, 2, none⟩ = some (.slice A 1 1) := ⟨block_cell HBX.out 4, block_cell HT5.out.1 0, block_cell HT5.out.1 1, block_cell HT5.out.1 2⟩
      refine wpAnyC_take0 (i := 0) (k := 8) (v := ?_) (d := some 135) rfl (by rfl) (by as_aux_lemma => kernel_rfl) (by as_aux_lemma => kernel_rfl) (by as_aux_lemma => kernel_rfl) hsh (by decide) (by intro _ _ _ h; exact h) (by assumption) (Or.inl ⟨by rfl, ?hy⟩) ?_; (case hy => (intro W _; go_simp; (try with_reducible rfl))); clear hsh; intro hsh
      refine wpAnyC_take0 (i := 1) (k := 8) (v := ?_) (d := some 136) rfl (by rfl) (by as_aux_lemma => kernel_rfl) (by as_aux_lemma => kernel_rfl) (by as_aux_lemma => kernel_rfl) hsh (by decide) (by intro _ _ _ h; exact h) (by assumption) (Or.inl ⟨by rfl, ?hy⟩) ?_; (case hy => (intro W _; go_simp; (try with_reducible rfl))); clear hsh; intro hsh
      refine wpAnyC_take0 (i := 2) (k := 8) (v := ?_) (d := some 137) rfl (by rfl) (by as_aux_lemma => kernel_rfl) (by as_aux_lemma => kernel_rfl) (by as_aux_lemma => kernel_rfl) hsh (by decide) (by intro _ _ _ h; exact h) (by assumption) (Or.inl ⟨by rfl, ?hy⟩) ?_; (case hy => (intro W _; go_simp; (try with_reducible rfl))); clear hsh; intro hsh
      refine wpAnyC_take (i := 3) (k := 8) (f := 40) (v := ?_) (d := some 138) rfl (by rfl) (by as_aux_lemma => kernel_rfl) (by as_aux_lemma => kernel_rfl) (by as_aux_lemma => kernel_rfl) hsh (by decide) (by as_aux_lemma => kernel_rfl) (by intro _ _ _ h; exact h) (by assumption) (Or.inl ⟨by rfl, ?hy⟩) ?_; (case hy => (rintro W ⟨y0, y1, y2, y3⟩; go_simp; (try with_reducible rfl))); clear hsh; intro hsh
      refine wpAnyC_take0 (i := 4) (k := 8) (v := ?_) (d := some 139) rfl (by rfl) (by as_aux_lemma => kernel_rfl) (by as_aux_lemma => kernel_rfl) (by as_aux_lemma => kernel_rfl) hsh (by decide) (by intro _ _ _ h; exact h) (by assumption) (Or.inl ⟨by rfl, ?hy⟩) ?_; (case hy => (intro W _; go_simp; (try with_reducible rfl))); clear hsh; intro hsh
      refine wpAnyC_take (i := 5) (k := 8) (f := 40) (v := ?_) (d := some 140) rfl (by rfl) (by as_aux_lemma => kernel_rfl) (by as_aux_lemma => kernel_rfl) (by as_aux_lemma => kernel_rfl) hsh (by decide) (by as_aux_lemma => kernel_rfl) (by intro _ _ _ h; exact h) (by assumption) (Or.inl ⟨by rfl, ?hy⟩) ?_; (case hy => (rintro W ⟨y0, y1, y2, y3⟩; go_simp; (try with_reducible rfl))); clear hsh; intro hsh
      refine wpAnyC_take0 (i := 6) (k := 8) (v := ?_) (d := some 141) rfl (by rfl) (by as_aux_lemma => kernel_rfl) (by as_aux_lemma => kernel_rfl) (by as_aux_lemma => kernel_rfl) hsh (by decide) (by intro _ _ _ h; exact h) (by assumption) (Or.inl ⟨by rfl, ?hy⟩) ?_; (case hy => (intro W _; go_simp; (try with_reducible rfl))); clear hsh; intro hsh
      refine wpAnyC_ready (rs := [7]) (by as_aux_lemma => kernel_rfl) (by simp) ?_; refine AllC.cons (i := 7) rfl (by as_aux_lemma => kernel_rfl) hsh (fun K hK => ?_) AllC.nil
      go_simp
      have HBx : Hid (Below w6.heap.size w6 (w6.drew.alloc (.cells #[.int .i64 0, .int .i64 0, .slice none 0 0, .slice none 0 0] 77))) := hide ((below_drewN (Below.refl w6.heap.size w6) 1).alloc (Nat.le_refl _) _)
      have HS2 : (w6.drew.alloc (.cells #[.int .i64 0, .int .i64 0, .slice none 0 0, .slice none 0 0] 77)).cell? ⟨c, 4, none⟩ = some (.slice A6 D2.length k6) ∧ (w6.drew.alloc (.cells #[.int .i64 0, .int .i64 0, .slice none 0 0, .slice none 0 0] 77)).cell? ⟨w1.heap.size, 0, none⟩ = some (.int .i64 3) ∧ (w6.drew.alloc (.cells #[.int .i64 0, .int .i64 0, .slice none 0 0, .slice none 0 0] 77)).cell? ⟨w1.heap.size, 1, none⟩ = some (.slice none 0 0) ∧ (w6.drew.alloc (.cells #[.int .i64 0, .int .i64 0, .slice none 0 0, .slice none 0 0] 77)).cell? ⟨w1.heap.size, 2, none⟩ = some (.slice A 1 1) := ⟨block_cell (block_below HBX.out HBx.out) 4, block_cell (block_below HT5.out.1 HBx.out) 0, block_cell (block_below HT5.out.1 HBx.out) 1, block_cell (block_below HT5.out.1 HBx.out) 2⟩
      refine hK _ _ (fun _ => HS2) ?_
      clear hK K hsh HS
      intro hsh
      refine wpAnyC_tail (by as_aux_lemma => kernel_rfl) (by simp) (by as_aux_lemma => kernel_rfl) ?_; simp only [List.drop_succ_cons, List.drop_zero]; clear hsh
      clear HS2
      go_simp
      go_wp2_with (fail)
      have hr6 := (nR.refl HR5.out.st).below (Nat.le_trans hBw HR5.out.size) (below_ad w6 (.cells #[.int .i64 (D2.length : Nat), .int .i64 3, .slice none 0 0, .slice A 1 1] 77))
      have HR6 := hide (HR5.out.trans hr6)
      have HBX6 := hide (block_below HBX.out (below_ad w6 (.cells #[.int .i64 (D2.length : Nat), .int .i64 3, .slice none 0 0, .slice A 1 1] 77)))
      have HROW6 := hide (own_stay HROW.out (w' := (w6.alloc (.cells #[.int .i64 (D2.length : Nat), .int .i64 3, .slice none 0 0, .slice A 1 1] 77)).drew) (fun g o _ e => block_below e (below_ad w6 _)))
      have HST6 : StayS F2 w6 ((w6.alloc (.cells #[.int .i64 (D2.length : Nat), .int .i64 3, .slice none 0 0, .slice A 1 1] 77)).drew) := ⟨(below_ad w6 _).size, fun b o _ e => block_below e (below_ad w6 _)⟩
      have HRS6 := hide (HRS.out.stay HST6 (fun _ h => h))
      have HN6 := hide ((nBk.new HR5.out.st (.cells #[.int .i64 (D2.length : Nat), .int .i64 3, .slice none 0 0, .slice A 1 1] 77)).step ((nR.refl (HR5.out.alloc hBw (.cells #[.int .i64 (D2.length : Nat), .int .i64 3, .slice none 0 0, .slice A 1 1] 77)).st).drew (Nat.le_trans hBw (HR5.out.alloc hBw (.cells #[.int .i64 (D2.length : Nat), .int .i64 3, .slice none 0 0, .slice A 1 1] 77)).size)))
      have HB6 := hide (HB5.out.step hr6)
      have HTY6 := hide (stay_tyU _ _ _ _ _ _ HTY.out HST6 (fun _ h _ => h))
      have hnb : w6.heap.size < (w6.alloc (.cells #[.int .i64 (D2.length : Nat), .int .i64 3, .slice none 0 0, .slice A 1 1] 77)).drew.heap.size := HN6.out.2.2.2.2.2
      have hnc : w6.heap.size ≠ c := HN6.out.2.1
      have hnr : w6.heap.size ≠ w.heap.size := by have := HB5.out.2.2.2.2.2; omega
      obtain ⟨w14, hw14⟩ : ∃ x, (w6.alloc (.cells #[.int .i64 (D2.length : Nat), .int .i64 3, .slice none 0 0, .slice A 1 1] 77)).drew = x := ⟨_, rfl⟩
      rw [hw14] at HR6 HBX6 HROW6 HRS6 HN6 HB6 HTY6 hnb ⊢
      clear hw14 HST6 hr6 HRS HROW HBX HT5 HR5 HB5 HTY HBx
      refine wp_region_chain (fun W => W.cell? ⟨c, 3, none⟩ = some (.map (some mb)) ∧ W.cell? ⟨w6.heap.size, 0, none⟩ = some (.int .i64 (D2.length : Nat))) 7 (by as_aux_lemma => kernel_rfl) (N := 8) (by as_aux_lemma => kernel_rfl) ?_; intro hsh
      have HS : w14.drew.cell? ⟨c, 3, none⟩ = some (.map (some mb)) ∧ w14.drew.cell? ⟨w6.heap.size, 0, none⟩ = some (.int .i64 (D2.length : Nat)) := ⟨HR6.out.st.c3, block_cell HN6.out.1 0⟩
      refine wpAnyC_take0 (i := 0) (k := 7) (v := ?_) (d := some 142) rfl (by rfl) (by as_aux_lemma => kernel_rfl) (by as_aux_lemma => kernel_rfl) (by as_aux_lemma => kernel_rfl) hsh (by decide) (by intro _ _ _ h; exact h) (by assumption) (Or.inl ⟨by rfl, ?hy⟩) ?_; (case hy => (intro W _; go_simp; (try with_reducible rfl))); clear hsh; intro hsh
      refine wpAnyC_take0 (i := 1) (k := 7) (v := ?_) (d := some 143) rfl (by rfl) (by as_aux_lemma => kernel_rfl) (by as_aux_lemma => kernel_rfl) (by as_aux_lemma => kernel_rfl) hsh (by decide) (by intro _ _ _ h; exact h) (by assumption) (Or.inl ⟨by rfl, ?hy⟩) ?_; (case hy => (intro W _; go_simp; (try with_reducible rfl))); clear hsh; intro hsh
      refine wpAnyC_take0 (i := 2) (k := 7) (v := ?_) (d := some 144) rfl (by rfl) (by as_aux_lemma => kernel_rfl) (by as_aux_lemma => kernel_rfl) (by as_aux_lemma => kernel_rfl) hsh (by decide) (by intro _ _ _ h; exact h) (by assumption) (Or.inl ⟨by rfl, ?hy⟩) ?_; (case hy => (intro W _; go_simp; (try with_reducible rfl))); clear hsh; intro hsh
      refine wpAnyC_take (i := 3) (k := 7) (f := 40) (v := ?_) (d := some 145) rfl (by rfl) (by as_aux_lemma => kernel_rfl) (by as_aux_lemma => kernel_rfl) (by as_aux_lemma => kernel_rfl) hsh (by decide) (by as_aux_lemma => kernel_rfl) (by intro _ _ _ h; exact h) (by assumption) (Or.inl ⟨by rfl, ?hy⟩) ?_; (case hy => (rintro W ⟨y0, y1⟩; go_simp; (try with_reducible rfl))); clear hsh; intro hsh
      refine wpAnyC_take0 (i := 4) (k := 7) (v := ?_) (d := some 146) rfl (by rfl) (by as_aux_lemma => kernel_rfl) (by as_aux_lemma => kernel_rfl) (by as_aux_lemma => kernel_rfl) hsh (by decide) (by intro _ _ _ h; exact h) (by assumption) (Or.inl ⟨by rfl, ?hy⟩) ?_; (case hy => (intro W _; go_simp; (try with_reducible rfl))); clear hsh; intro hsh
      refine wpAnyC_take0 (i := 5) (k := 7) (v := ?_) (d := some 147) rfl (by rfl) (by as_aux_lemma => kernel_rfl) (by as_aux_lemma => kernel_rfl) (by as_aux_lemma => kernel_rfl) hsh (by decide) (by intro _ _ _ h; exact h) (by assumption) (Or.inl ⟨by rfl, ?hy⟩) ?_; (case hy => (intro W _; go_simp; (try with_reducible rfl))); clear hsh; intro hsh
      refine wpAnyC_take (i := 6) (k := 7) (f := 40) (v := ?_) (d := some 148) rfl (by rfl) (by as_aux_lemma => kernel_rfl) (by as_aux_lemma => kernel_rfl) (by as_aux_lemma => kernel_rfl) hsh (by decide) (by as_aux_lemma => kernel_rfl) (by intro _ _ _ h; exact h) (by assumption) (Or.inl ⟨by rfl, ?hy⟩) ?_; (case hy => (rintro W ⟨y0, y1⟩; go_simp; (try with_reducible rfl))); clear hsh; intro hsh
      refine wpAnyC_tail (by as_aux_lemma => kernel_rfl) (by simp) (by as_aux_lemma => kernel_rfl) ?_; simp only [List.drop_succ_cons, List.drop_zero]; clear hsh
      clear HS
      go_simp
      go_wp2_with (at_mapUpdate; refine wpList_mapUpdate_own _ rfl _ _ _ 49 rfl 9 3 law_strD Tryd.underlying49 _ mb D2.length _ rfl HR6.out.st.map (by unfold maxLen; omega) _ _ _ rfl rfl (key_ofD kb hkm) _ [] (Go.plainElem_int Tryd.underlying3 (wf_intD (by omega))) ?_; intro w15 hown7 hg7; rw [HKB.out] at hown7; have HM7 := hide (nMid.start (x := (⟨3, [], [m]⟩, Ty.mk 3 [] [t])) HR6.out hBw HBX6.out HROW6.out HRS6.out HNF.out (below_drewN (Below.refl _ _) 1) hown7 hg7); have HN7 := hide (HN6.out.mid (below_drewN (Below.refl _ _) 1) hg7); have HB7 := hide (HB6.out.mid (below_drewN (Below.refl _ _) 1) hg7); have HTY7 := hide (stay_tyU _ _ _ _ _ _ HTY6.out (stay_mid HR6.out.st (below_drewN (Below.refl _ _) 1) hg7) (fun _ h _ => h)); clear hown7 hg7)
      refine wp_region_chain (fun W => W.cell? ⟨c, 4, none⟩ = some (.slice A6 D2.length k6) ∧ W.cell? ⟨w6.heap.size, 0, none⟩ = some (.int .i64 (D2.length : Nat)) ∧ W.cell? ⟨w6.heap.size, 1, none⟩ = some (.int .i64 3) ∧ W.cell? ⟨w6.heap.size, 2, none⟩ = some (.slice none 0 0) ∧ W.cell? ⟨w6.heap.size, 3, none⟩ = some (.slice A 1 1)) 7 (by as_aux_lemma => kernel_rfl) (N := 11) (by as_aux_lemma => kernel_rfl) ?_; intro hsh
      have HS : w15.drew.cell? ⟨c, 4, none⟩ = some (.slice A6 D2.length k6) ∧ w15.drew.cell? ⟨w6.heap.size, 0, none⟩ = some (.int .i64 (D2.length : Nat)) ∧ w15.drew.cell? ⟨w6.heap.size, 1, none⟩ = some (.int .i64 3) ∧ w15.drew.cell? ⟨w6.heap.size, 2, none⟩ = some (.slice none 0 0) ∧ w15.drew.cell? ⟨w6.heap.size, 3, none⟩ = some (.slice A 1 1) := ⟨block_cell HM7.out.box 4, block_cell HN7.out 0, block_cell HN7.out 1, block_cell HN7.out 2, block_cell HN7.out 3⟩
      refine wpAnyC_take0 (i := 0) (k := 7) (v := ?_) (d := some 149) rfl (by rfl) (by as_aux_lemma => kernel_rfl) (by as_aux_lemma => kernel_rfl) (by as_aux_lemma => kernel_rfl) hsh (by decide) (by intro _ _ _ h; exact h) (by assumption) (Or.inl ⟨by rfl, ?hy⟩) ?_; (case hy => (intro W _; go_simp; (try with_reducible rfl))); clear hsh; intro hsh
      refine wpAnyC_take0 (i := 1) (k := 7) (v := ?_) (d := some 150) rfl (by rfl) (by as_aux_lemma => kernel_rfl) (by as_aux_lemma => kernel_rfl) (by as_aux_lemma => kernel_rfl) hsh (by decide) (by intro _ _ _ h; exact h) (by assumption) (Or.inl ⟨by rfl, ?hy⟩) ?_; (case hy => (intro W _; go_simp; (try with_reducible rfl))); clear hsh; intro hsh
      refine wpAnyC_take0 (i := 2) (k := 7) (v := ?_) (d := some 151) rfl (by rfl) (by as_aux_lemma => kernel_rfl) (by as_aux_lemma => kernel_rfl) (by as_aux_lemma => kernel_rfl) hsh (by decide) (by intro _ _ _ h; exact h) (by assumption) (Or.inl ⟨by rfl, ?hy⟩) ?_; (case hy => (intro W _; go_simp; (try with_reducible rfl))); clear hsh; intro hsh
      refine wpAnyC_take0 (i := 3) (k := 7) (v := ?_) (d := some 152) rfl (by rfl) (by as_aux_lemma => kernel_rfl) (by as_aux_lemma => kernel_rfl) (by as_aux_lemma => kernel_rfl) hsh (by decide) (by intro _ _ _ h; exact h) (by assumption) (Or.inl ⟨by rfl, ?hy⟩) ?_; (case hy => (intro W _; go_simp; (try with_reducible rfl))); clear hsh; intro hsh
      refine wpAnyC_take (i := 4) (k := 7) (f := 40) (v := ?_) (d := some 153) rfl (by rfl) (by as_aux_lemma => kernel_rfl) (by as_aux_lemma => kernel_rfl) (by as_aux_lemma => kernel_rfl) hsh (by decide) (by as_aux_lemma => kernel_rfl) (by intro _ _ _ h; exact h) (by assumption) (Or.inl ⟨by rfl, ?hy⟩) ?_; (case hy => (rintro W ⟨y0, y1, y2, y3, y4⟩; go_simp; (try with_reducible rfl))); clear hsh; intro hsh
      refine wpAnyC_take (i := 5) (k := 7) (f := 40) (v := ?_) (d := some 154) rfl (by rfl) (by as_aux_lemma => kernel_rfl) (by as_aux_lemma => kernel_rfl) (by as_aux_lemma => kernel_rfl) hsh (by decide) (by as_aux_lemma => kernel_rfl) (by intro _ _ _ h; exact h) (by assumption) (Or.inl ⟨by rfl, ?hy⟩) ?_; (case hy => (rintro W ⟨y0, y1, y2, y3, y4⟩; go_simp; (try with_reducible rfl))); clear hsh; intro hsh
      refine wpAnyC_ready (rs := [6]) (by as_aux_lemma => kernel_rfl) (by simp) ?_; refine AllC.cons (i := 6) rfl (by as_aux_lemma => kernel_rfl) hsh (fun K hK => ?_) AllC.nil
      go_simp
      have HS2 : (w15.drew.alloc (.cells #[.int .i64 (D2.length : Nat), .int .i64 3, .slice none 0 0, .slice A 1 1] 77)).cell? ⟨c, 4, none⟩ = some (.slice A6 D2.length k6) ∧ (w15.drew.alloc (.cells #[.int .i64 (D2.length : Nat), .int .i64 3, .slice none 0 0, .slice A 1 1] 77)).cell? ⟨w6.heap.size, 0, none⟩ = some (.int .i64 (D2.length : Nat)) ∧ (w15.drew.alloc (.cells #[.int .i64 (D2.length : Nat), .int .i64 3, .slice none 0 0, .slice A 1 1] 77)).cell? ⟨w6.heap.size, 1, none⟩ = some (.int .i64 3) ∧ (w15.drew.alloc (.cells #[.int .i64 (D2.length : Nat), .int .i64 3, .slice none 0 0, .slice A 1 1] 77)).cell? ⟨w6.heap.size, 2, none⟩ = some (.slice none 0 0) ∧ (w15.drew.alloc (.cells #[.int .i64 (D2.length : Nat), .int .i64 3, .slice none 0 0, .slice A 1 1] 77)).cell? ⟨w6.heap.size, 3, none⟩ = some (.slice A 1 1) := ⟨block_cell (block_below HM7.out.box (below_da w15 _)) 4, block_cell (block_below HN7.out (below_da w15 _)) 0, block_cell (block_below HN7.out (below_da w15 _)) 1, block_cell (block_below HN7.out (below_da w15 _)) 2, block_cell (block_below HN7.out (below_da w15 _)) 3⟩
      refine hK _ _ (fun _ => HS2) ?_
      clear hK K hsh HS
      intro hsh
      refine wpAnyC_tail (by as_aux_lemma => kernel_rfl) (by simp) (by as_aux_lemma => kernel_rfl) ?_; simp only [List.drop_succ_cons, List.drop_zero]; clear hsh
      clear HS2
      go_simp
      have HRd := hide (own_stay HM7.out.row (w' := w15.drew) (fun g o _ e => e))
      obtain ⟨i0, hi0, iz0, iz1, iz2⟩ := info_parts info_nd
      refine wpList_append_own_at _ (by rfl) (.tmp 153) (.tmp 155) 67 (by rfl) B 77 i0 (.agg #[.int .i64 0, .int .i64 0, .slice none 0 0, .slice none 0 0]) 4 64 Tryd.underlying67 hi0 iz0 iz1 iz2 rfl (by decide) (.slice A6 D2.length k6) D2.length css.flatten (by rfl) (HRd.out.alloc _) ⟨w15.heap.size, 0, none⟩ 1 1 [.int .i64 (D2.length : Nat), .int .i64 3, .slice none 0 0, .slice A 1 1] (by rfl) (by rfl) (cells_new w15.drew [.int .i64 (D2.length : Nat), .int .i64 3, .slice none 0 0, .slice A 1 1] _) (by intro u hu; simp at hu; rcases hu with rfl | rfl | rfl | rfl <;> rfl) (by unfold maxLen; omega) (by omega) (Nat.le_trans hBw (HM7.out.be.trans ((below_da w15 (.cells #[.int .i64 (D2.length : Nat), .int .i64 3, .slice none 0 0, .slice A 1 1] 77)).mono (Nat.le_trans hBw HM7.out.be.size))).size) ?_
      intro v8 w16 hown8 hg8 _ hat8
      have HR9 := hide (HM7.out.push hBw HTY7.out HM.out HSH.out (by omega) (below_da w15 _) hown8 hg8 hat8)
      have e8c := block_push HM7.out.box (below_da w15 _) hg8 HM7.out.cnot
      have HN8 := hide (block_push HN7.out (below_da w15 _) hg8 (HN6.out.nrow HBX6.out))
      have e8r := block_push HB7.out (below_da w15 _) hg8 (HB6.out.nrow HBX6.out)
      have HB9 := hide (HB6.out.last e8c e8r (HB6.out.nrow HBX6.out) (N := (w15.drew.alloc (.cells #[.int .i64 (D2.length : Nat), .int .i64 3, .slice none 0 0, .slice A 1 1] 77)).heap.size) (by have := HM7.out.be.size; simp; omega) hat8)
      have HTY9 := hide (stay_tyU _ _ _ _ _ _ HTY7.out (stay_last HM7.out (below_da w15 _) hg8 v8) (fun _ h _ => h))
      obtain ⟨ao, cp, rfl⟩ := own_sl hown8
      have b3 : w16.frozen? ⟨c, 4, none⟩ = false := block_free e8c 4
      have b4 := block_cell e8c 4
      have n0 := block_cell HN8.out 0
      have n1 := block_cell HN8.out 1
      have n2 := block_cell HN8.out 2
      have n3 := block_cell HN8.out 3
      have r0 := block_cell HB9.out.1 0
      have r1 := block_cell HB9.out.1 1
      have r2 := block_cell HB9.out.1 2
      have r3 := block_cell HB9.out.1 3
      have fr0 := block_free HB9.out.1 0
      have fr1 := block_free HB9.out.1 1
      have fr2 := block_free HB9.out.1 2
      have fr3 := block_free HB9.out.1 3
      clear hown8 hg8 hat8 e8c e8r
      go_wp2_with (fail)
      obtain ⟨hrz, hbz, hsz⟩ := nFin HR9.out hBw HB9.out hrb (.int .i64 (D2.length : Nat)) (.int .i64 3) (.slice none 0 0) (.slice A 1 1)
      generalize World.setCell _ (⟨w.heap.size, 3, none⟩ : Addr) _ = wz at hrz hbz hsz ⊢
      have z0 := block_cell hbz 0
      have z1 := block_cell hbz 1
      have z2 := block_cell hbz 2
      have z3 := block_cell hbz 3
      simp at z0 z1 z2 z3
      ((try simp only [Exit.inBlock, Exit.then]); refine bodyPost_ret (by simp [results, Tryd.results27, go_sem, z0, z1, z2, z3]; try rfl) rfl ?_)
      exact RP.ok HE.out ⟨F2, _, _, _, _, _, _, _, rfl, stay_tyU _ _ _ _ _ _ HTY9.out hsz (fun _ h _ => h), hrz⟩
end Go.Proofs.YtocpmbpckbjepaaDoor

/- Walk of one of the program's reader of mangled names, a function (printed by gen_dg.py). -/
namespace Go.Proofs.YtocpmbpckbjepaaDoor
open Go.RowKit
set_option linter.unusedVariables false
set_option linter.unusedSimpArgs false
set_option maxRecDepth 100000 in
set_option maxHeartbeats 16000000 in
theorem nOne_F {s : ByteArray} {f : Nat} (H : nTysOk s f) (hf : f + 1 ≤ 12) : nOneAt s (f + 1) 70 := by
  intro B c mb D F i d w hBw htb hs hDi hd h hb
  have hi := get_lt hb
  have HOK := hide h.ok
  have HRA := hide ((nR.refl h).alloc hBw (.cells #[.int .i64 0, .int .i64 0, .slice none 0 0, .slice none 0 0] 77))
  have HBA := hide (nBk.new h (.cells #[.int .i64 0, .int .i64 0, .slice none 0 0, .slice none 0 0] 77))
  have hrb : w.heap.size ≤ w.heap.size := Nat.le_refl _
  have c1 := HRA.out.st.c1
  have HPK := hide (nPeek B c mb s D F _ (Nat.le_trans hBw HRA.out.size) i hs HRA.out.st)
  rw [pkB_is hb] at HPK
  have HTB := hide htb
  have HDD := hide hd
  have hdeep : decide ((12 : Int) ≤ d) = false := by simp; omega
  have hdd : ¬ (12 : Int) ≤ d := by omega
  have hdw : wrap64 (d + 1) = d + 1 := (by unfold wrap64; omega)
  clear h htb hd
  have hwi : wrap64 ((i : Int) + 1) = (i : Int) + 1 := by unfold wrap64; omega
  have HNM := hide (fun (W : World) (h : nR B c mb s ((i : Int) + 1) (-1) D F F w W) => H B c mb D F (i + 1) (d + 1) W (Nat.le_trans hBw h.size) (HTB.out.below h.be) hs hi (by omega) (by have := HDD.out; omega) (by rw [show ((i + 1 : Nat) : Int) = (i : Int) + 1 by omega]; exact h.st))
  have HX := hide (dOne_F (f := f) (D := D) hb)
  clear H hb
  cases hn : dTys s (dOne s f) (s.size + 1) [] [] D (i + 1) with
  | bad e0 =>
    have HND := hide hn
    have HE := hide (show dOne s (f + 1) D i = .bad e0 by rw [HX.out, hn]; rfl)
    clear hn HX
    go_enter Tryd.func27, Tryd.ntmps27
    go_wp2_with (first | (go_at_call 26; refine HPK.out.mono ?_; rintro e w1 ⟨rfl, hr⟩; have HR1 := hide (HRA.out.trans hr); have HB1 := hide (HBA.out.step hr); have hw1 : w.heap.size ≤ w1.heap.size := HR1.out.size; have hlt1 : w.heap.size < w1.heap.size := HB1.out.2.2.2.2.2; have hr2 := (nR.refl HR1.out.st).alloc (Nat.le_trans hBw HR1.out.size) (.cells #[.int .i64 0, .slice none 0 0, .slice none 0 0] 75); have HR2 := hide (HR1.out.trans hr2); have HB2 := hide (HB1.out.step hr2); have HT2 := hide (nBk.new HR1.out.st (.cells #[.int .i64 0, .slice none 0 0, .slice none 0 0] 75)); have c1' := HR2.out.st.c1; have f1' := HR2.out.st.f 1; have hr3 := (nR.refl HR2.out.st).set1 (Nat.le_trans hBw HR2.out.size) ((i : Int) + 1); have HR3 := hide (HR2.out.trans hr3); have HB3 := hide (HB2.out.step hr3); have HT3 := hide (HT2.out.step hr3); have t0 := block_cell HT3.out.1 0; have ft0 := block_free HT3.out.1 0; have HR4 := hide (HR3.out.other (k := 0) hBw hw1 HT3.out.2 (.int .i64 4)); have HB4 := hide (HB3.out.other (k := 0) HR3.out.st HT3.out.2.1 (by omega) (.int .i64 4)); have HT4 := hide (show nBk c mb (((w1.alloc (.cells #[.int .i64 0, .slice none 0 0, .slice none 0 0] 75)).setCell ⟨c, 1, none⟩ (.int .i64 ((i : Int) + 1))).setCell ⟨w1.heap.size, 0, none⟩ (.int .i64 4)) F w1.heap.size (.cells #[.int .i64 4, .slice none 0 0, .slice none 0 0] 75) from HT3.out.set (k := 0) HR3.out.st (.int .i64 4)); clear hr hr2 hr3 HPK) | (go_at_call 47; refine (HNM.out _ HR4.out).mono ?_; intro e w4 hrp; obtain ⟨A, n, q, kb0, rfl, hkz, y, D4, F4, hy, hr⟩ := hrp.of_bad HND.out; have HR5 := hide (HR4.out.trans hr); have HB5 := hide (HB4.out.step hr); have HT5 := hide (HT4.out.step hr); have u2 := block_cell HT5.out.1 2; have fu2 := block_free HT5.out.1 2; have nb1 : ¬ 9223372036854775807 < 1 + kb0.size := (by omega); have HRX := hide (HR5.out.other (k := 2) hBw hw1 HT5.out.2 (.slice A n q)); have HBX0 := hide (HB5.out.other (k := 2) HR5.out.st HT5.out.2.1 (by omega) (.slice A n q)); have c2 := HRX.out.st.c2; have r0 := block_cell HBX0.out.1 0; have r1 := block_cell HBX0.out.1 1; have r2 := block_cell HBX0.out.1 2; have r3 := block_cell HBX0.out.1 3; have fr0 := block_free HBX0.out.1 0; have fr1 := block_free HBX0.out.1 1; have fr2 := block_free HBX0.out.1 2; have fr3 := block_free HBX0.out.1 3; clear hr hrp t0 ft0))
    obtain ⟨hrz, hbz, hsz⟩ := nFin HRX.out hBw HBX0.out hrb (.int .i64 0) (.int .i64 0) (.slice none 0 0) (.slice none 0 0)
    generalize World.setCell _ (⟨w.heap.size, 3, none⟩ : Addr) _ = wz at hrz hbz hsz ⊢
    have z0 := block_cell hbz 0
    have z1 := block_cell hbz 1
    have z2 := block_cell hbz 2
    have z3 := block_cell hbz 3
    simp at z0 z1 z2 z3
    ((try simp only [Exit.inBlock, Exit.then]); refine bodyPost_ret (by simp [results, Tryd.results27, go_sem, z0, z1, z2, z3]; try rfl) rfl ?_)
    exact RP.bad HE.out ⟨rfl, y, D4, F4, by omega, hrz⟩
  | ok j z =>
    obtain ⟨l, ids, D2⟩ := z
    have hgo := tys_go hi HOK.out hn
    have hij := hgo.lt
    have hjs := hgo.le
    have hle := hgo.ext.len
    have hok2 := hgo.ext.ok
    simp only at hle hok2
    have hsh : ShOk ⟨4, [], ids⟩ := .inr (.inr ⟨rfl, rfl⟩)
    have HND := hide hn
    have HSH := hide hsh
    have HHS := hide (fun (kb : ByteArray) (hk : kb.data.toList = pK ⟨4, [], ids⟩) => has_pK hok2 hsh hk)
    clear hn hgo hsh hok2
    by_cases hm : (⟨4, [], ids⟩ : Shp) ∈ D2.map (·.1)
    · have HE := hide (show dOne s (f + 1) D i = .bad i by rw [HX.out, HND.out]; simp only [Res.bind]; rw [dNew_no hm])
      simp only [hm, decide_true] at HHS
      clear hm HX
      go_enter Tryd.func27, Tryd.ntmps27
      go_wp2_with (first | (go_at_call 26; refine HPK.out.mono ?_; rintro e w1 ⟨rfl, hr⟩; have HR1 := hide (HRA.out.trans hr); have HB1 := hide (HBA.out.step hr); have hw1 : w.heap.size ≤ w1.heap.size := HR1.out.size; have hlt1 : w.heap.size < w1.heap.size := HB1.out.2.2.2.2.2; have hr2 := (nR.refl HR1.out.st).alloc (Nat.le_trans hBw HR1.out.size) (.cells #[.int .i64 0, .slice none 0 0, .slice none 0 0] 75); have HR2 := hide (HR1.out.trans hr2); have HB2 := hide (HB1.out.step hr2); have HT2 := hide (nBk.new HR1.out.st (.cells #[.int .i64 0, .slice none 0 0, .slice none 0 0] 75)); have c1' := HR2.out.st.c1; have f1' := HR2.out.st.f 1; have hr3 := (nR.refl HR2.out.st).set1 (Nat.le_trans hBw HR2.out.size) ((i : Int) + 1); have HR3 := hide (HR2.out.trans hr3); have HB3 := hide (HB2.out.step hr3); have HT3 := hide (HT2.out.step hr3); have t0 := block_cell HT3.out.1 0; have ft0 := block_free HT3.out.1 0; have HR4 := hide (HR3.out.other (k := 0) hBw hw1 HT3.out.2 (.int .i64 4)); have HB4 := hide (HB3.out.other (k := 0) HR3.out.st HT3.out.2.1 (by omega) (.int .i64 4)); have HT4 := hide (show nBk c mb (((w1.alloc (.cells #[.int .i64 0, .slice none 0 0, .slice none 0 0] 75)).setCell ⟨c, 1, none⟩ (.int .i64 ((i : Int) + 1))).setCell ⟨w1.heap.size, 0, none⟩ (.int .i64 4)) F w1.heap.size (.cells #[.int .i64 4, .slice none 0 0, .slice none 0 0] 75) from HT3.out.set (k := 0) HR3.out.st (.int .i64 4)); clear hr hr2 hr3 HPK) | (go_at_call 47; refine (HNM.out _ HR4.out).mono ?_; intro e w4 hrp; obtain ⟨F2, A, n, q, kb0, rfl, hkb, hkz, hnq, hqm, hsl, hr⟩ := hrp.of_ok HND.out; have HR5 := hide (HR4.out.trans hr); have HB5 := hide (HB4.out.step hr); have HT5 := hide (HT4.out.step hr); have u2 := block_cell HT5.out.1 2; have fu2 := block_free HT5.out.1 2; have nb1 : ¬ 9223372036854775807 < 1 + kb0.size := (by omega); have HRX := hide (HR5.out.other (k := 2) hBw hw1 HT5.out.2 (.slice A n q)); have HBX0 := hide (HB5.out.other (k := 2) HR5.out.st HT5.out.2.1 (by omega) (.slice A n q)); have HTX := hide (HT5.out.set (k := 2) HR5.out.st (.slice A n q)); have HTYX := hide (ty_of 4 (hsl.stay (S' := F2) (R' := TyU (w4.setCell ⟨w1.heap.size, 2, none⟩ (.slice A n q)) F2) (stay_own HT5.out.2) (fun _ h _ => h) (fun a _ cs h => stay_tyU _ _ _ _ a cs h (stay_own HT5.out.2) (fun _ h _ => h))) hnq hqm); have c2 := HRX.out.st.c2; have c3 := HRX.out.st.c3; have HKB := hide (show (⟨#[70]⟩ ++ kb0 : ByteArray).data.toList = pK ⟨4, [], ids⟩ from (by rw [app_toList, hkb]; rfl)); have hkm : (⟨#[70]⟩ ++ kb0 : ByteArray).size ≤ maxLen := (by rw [ByteArray.size_append]; show 1 + kb0.size ≤ maxLen; unfold maxLen; omega); have HHAS := hide (HHS.out _ HKB.out); clear hr hrp hsl hkb t0 ft0) | (at_lookup; refine Go.wpList_lookup_own_ok_int _ rfl _ _ 49 rfl 9 3 .i64 law_strD Tryd.underlying49 Tryd.underlying3 (zero_intD _) mb _ _ rfl HRX.out.st.map (.string (⟨#[70]⟩ ++ kb0)) _ rfl (key_ofD _ hkm) ?_; intro c' hat hwc; rw [HHAS.out]; clear hat hwc) | (go_at_call 28; refine (nFail_new B c mb s D2 F2 _ (Nat.le_trans hBw HRX.out.size) j i HRX.out.st).mono ?_; rintro e w6 ⟨rfl, hr⟩; have HR6 := hide (HRX.out.trans hr); have HB6 := hide (HBX0.out.step hr); have r0 := block_cell HB6.out.1 0; have r1 := block_cell HB6.out.1 1; have r2 := block_cell HB6.out.1 2; have r3 := block_cell HB6.out.1 3; have fr0 := block_free HB6.out.1 0; have fr1 := block_free HB6.out.1 1; have fr2 := block_free HB6.out.1 2; have fr3 := block_free HB6.out.1 3; clear hr))
      obtain ⟨hrz, hbz, hsz⟩ := nFin HR6.out hBw HB6.out hrb (.int .i64 0) (.int .i64 0) (.slice none 0 0) (.slice none 0 0)
      generalize World.setCell _ (⟨w.heap.size, 3, none⟩ : Addr) _ = wz at hrz hbz hsz ⊢
      have z0 := block_cell hbz 0
      have z1 := block_cell hbz 1
      have z2 := block_cell hbz 2
      have z3 := block_cell hbz 3
      simp at z0 z1 z2 z3
      ((try simp only [Exit.inBlock, Exit.then]); refine bodyPost_ret (by simp [results, Tryd.results27, go_sem, z0, z1, z2, z3]; try rfl) rfl ?_)
      exact RP.bad HE.out ⟨rfl, j, D2, _, by omega, hrz⟩
    · have HE := hide (show dOne s (f + 1) D i = .ok j (D2.length, Ty.mk 4 [] l, D2 ++ [(⟨4, [], ids⟩, Ty.mk 4 [] l)]) by rw [HX.out, HND.out]; simp only [Res.bind]; rw [dNew_ok hm])
      simp only [hm, decide_false] at HHS
      have HM := hide hm
      clear hm HX
      go_enter Tryd.func27, Tryd.ntmps27
      go_wp2_with (first | (go_at_call 26; refine HPK.out.mono ?_; rintro e w1 ⟨rfl, hr⟩; have HR1 := hide (HRA.out.trans hr); have HB1 := hide (HBA.out.step hr); have hw1 : w.heap.size ≤ w1.heap.size := HR1.out.size; have hlt1 : w.heap.size < w1.heap.size := HB1.out.2.2.2.2.2; have hr2 := (nR.refl HR1.out.st).alloc (Nat.le_trans hBw HR1.out.size) (.cells #[.int .i64 0, .slice none 0 0, .slice none 0 0] 75); have HR2 := hide (HR1.out.trans hr2); have HB2 := hide (HB1.out.step hr2); have HT2 := hide (nBk.new HR1.out.st (.cells #[.int .i64 0, .slice none 0 0, .slice none 0 0] 75)); have c1' := HR2.out.st.c1; have f1' := HR2.out.st.f 1; have hr3 := (nR.refl HR2.out.st).set1 (Nat.le_trans hBw HR2.out.size) ((i : Int) + 1); have HR3 := hide (HR2.out.trans hr3); have HB3 := hide (HB2.out.step hr3); have HT3 := hide (HT2.out.step hr3); have t0 := block_cell HT3.out.1 0; have ft0 := block_free HT3.out.1 0; have HR4 := hide (HR3.out.other (k := 0) hBw hw1 HT3.out.2 (.int .i64 4)); have HB4 := hide (HB3.out.other (k := 0) HR3.out.st HT3.out.2.1 (by omega) (.int .i64 4)); have HT4 := hide (show nBk c mb (((w1.alloc (.cells #[.int .i64 0, .slice none 0 0, .slice none 0 0] 75)).setCell ⟨c, 1, none⟩ (.int .i64 ((i : Int) + 1))).setCell ⟨w1.heap.size, 0, none⟩ (.int .i64 4)) F w1.heap.size (.cells #[.int .i64 4, .slice none 0 0, .slice none 0 0] 75) from HT3.out.set (k := 0) HR3.out.st (.int .i64 4)); clear hr hr2 hr3 HPK) | (go_at_call 47; refine (HNM.out _ HR4.out).mono ?_; intro e w4 hrp; obtain ⟨F2, A, n, q, kb0, rfl, hkb, hkz, hnq, hqm, hsl, hr⟩ := hrp.of_ok HND.out; have HR5 := hide (HR4.out.trans hr); have HB5 := hide (HB4.out.step hr); have HT5 := hide (HT4.out.step hr); have u2 := block_cell HT5.out.1 2; have fu2 := block_free HT5.out.1 2; have nb1 : ¬ 9223372036854775807 < 1 + kb0.size := (by omega); have HRX := hide (HR5.out.other (k := 2) hBw hw1 HT5.out.2 (.slice A n q)); have HBX0 := hide (HB5.out.other (k := 2) HR5.out.st HT5.out.2.1 (by omega) (.slice A n q)); have HTX := hide (HT5.out.set (k := 2) HR5.out.st (.slice A n q)); have HTYX := hide (ty_of 4 (hsl.stay (S' := F2) (R' := TyU (w4.setCell ⟨w1.heap.size, 2, none⟩ (.slice A n q)) F2) (stay_own HT5.out.2) (fun _ h _ => h) (fun a _ cs h => stay_tyU _ _ _ _ a cs h (stay_own HT5.out.2) (fun _ h _ => h))) hnq hqm); have c2 := HRX.out.st.c2; have c3 := HRX.out.st.c3; have HKB := hide (show (⟨#[70]⟩ ++ kb0 : ByteArray).data.toList = pK ⟨4, [], ids⟩ from (by rw [app_toList, hkb]; rfl)); have hkm : (⟨#[70]⟩ ++ kb0 : ByteArray).size ≤ maxLen := (by rw [ByteArray.size_append]; show 1 + kb0.size ≤ maxLen; unfold maxLen; omega); have HHAS := hide (HHS.out _ HKB.out); clear hr hrp hsl hkb t0 ft0) | (at_lookup; refine Go.wpList_lookup_own_ok_int _ rfl _ _ 49 rfl 9 3 .i64 law_strD Tryd.underlying49 Tryd.underlying3 (zero_intD _) mb _ _ rfl HRX.out.st.map (.string (⟨#[70]⟩ ++ kb0)) _ rfl (key_ofD _ hkm) ?_; intro c' hat hwc; rw [HHAS.out]; clear hat hwc))
      obtain ⟨kb, hkb⟩ : ∃ kb : ByteArray, ⟨#[70]⟩ ++ kb0 = kb := ⟨_, rfl⟩
      rw [hkb] at HKB hkm ⊢
      have HTY := HTYX
      have HT5 := HTX
      have HB5 := HBX0
      have HR5 := HRX
      obtain ⟨w5, hw5⟩ : ∃ x, (w4.setCell ⟨w1.heap.size, 2, none⟩ (.slice A n q)) = x := ⟨_, rfl⟩
      rw [hw5] at HR5 HB5 HT5 HTY ⊢
      clear HRX HBX0 HTX HTYX HR2 HR3 HR4 HB2 HB3 HB4 HT2 HT3 HT4 hkb
      obtain ⟨v6, css, hbx, hrow, hrs, hnf⟩ := HR5.out.st.st
      obtain ⟨A6, k6, rfl⟩ := own_sl hrow
      have HBX := hide hbx
      have HROW := hide hrow
      have HRS := hide hrs
      have HNF := hide hnf
      clear hbx hrow hrs hnf
      refine wp_region_chain (fun W => W.cell? ⟨c, 4, none⟩ = some (.slice A6 D2.length k6) ∧ W.cell? ⟨w1.heap.size, 0, none⟩ = some (.int .i64 4) ∧ W.cell? ⟨w1.heap.size, 1, none⟩ = some (.slice none 0 0) ∧ W.cell? ⟨w1.heap.size, 2, none⟩ = some (.slice A n q)) 8 (by as_aux_lemma => kernel_rfl) (N := 9) (by as_aux_lemma => kernel_rfl) ?_; intro hsh
      have HS : w5.drew.cell? ⟨c, 4, none⟩ = some (.slice A6 D2.length k6) ∧ w5.drew.cell? ⟨w1.heap.size, 0, none⟩ = some (.int .i64 4) ∧ w5.drew.cell? ⟨w1.heap.size, 1, none⟩ = some (.slice none 0 0) ∧ w5.drew.cell? ⟨w1.heap.size, 2, none⟩ = some (.slice A n q) := ⟨block_cell HBX.out 4, block_cell HT5.out.1 0, block_cell HT5.out.1 1, block_cell HT5.out.1 2⟩
      refine wpAnyC_take0 (i := 0) (k := 8) (v := ?_) (d := some 135) rfl (by rfl) (by as_aux_lemma => kernel_rfl) (by as_aux_lemma => kernel_rfl) (by as_aux_lemma => kernel_rfl) hsh (by decide) (by intro _ _ _ h; exact h) (by assumption) (Or.inl ⟨by rfl, ?hy⟩) ?_; (case hy => (intro W _; go_simp; (try with_reducible rfl))); clear hsh; intro hsh
      refine wpAnyC_take0 (i := 1) (k := 8) (v := ?_) (d := some 136) rfl (by rfl) (by as_aux_lemma => kernel_rfl) (by as_aux_lemma => kernel_rfl) (by as_aux_lemma => kernel_rfl) hsh (by decide) (by intro _ _ _ h; exact h) (by assumption) (Or.inl ⟨by rfl, ?hy⟩) ?_; (case hy => (intro W _; go_simp; (try with_reducible rfl))); clear hsh; intro hsh
      refine wpAnyC_take0 (i := 2) (k := 8) (v := ?_) (d := some 137) rfl (by rfl) (by as_aux_lemma => kernel_rfl) (by as_aux_lemma => kernel_rfl) (by as_aux_lemma => kernel_rfl) hsh (by decide) (by intro _ _ _ h; exact h) (by assumption) (Or.inl ⟨by rfl, ?hy⟩) ?_; (case hy => (intro W _; go_simp; (try with_reducible rfl))); clear hsh; intro hsh
      refine wpAnyC_take (i := 3) (k := 8) (f := 40) (v := ?_) (d := some 138) rfl (by rfl) (by as_aux_lemma => kernel_rfl) (by as_aux_lemma => kernel_rfl) (by as_aux_lemma => kernel_rfl) hsh (by decide) (by as_aux_lemma => kernel_rfl) (by intro _ _ _ h; exact h) (by assumption) (Or.inl ⟨by rfl, ?hy⟩) ?_; (case hy => (rintro W ⟨y0, y1, y2, y3⟩; go_simp; (try with_reducible rfl))); clear hsh; intro hsh
      refine wpAnyC_take0 (i := 4) (k := 8) (v := ?_) (d := some 139) rfl (by rfl) (by as_aux_lemma => kernel_rfl) (by as_aux_lemma => kernel_rfl) (by as_aux_lemma => kernel_rfl) hsh (by decide) (by intro _ _ _ h; exact h) (by assumption) (Or.inl ⟨by rfl, ?hy⟩) ?_; (case hy => (intro W _; go_simp; (try with_reducible rfl))); clear hsh; intro hsh
      refine wpAnyC_take (i := 5) (k := 8) (f := 40) (v := ?_) (d := some 140) rfl (by rfl) (by as_aux_lemma => kernel_rfl) (by as_aux_lemma => kernel_rfl) (by as_aux_lemma => kernel_rfl) hsh (by decide) (by as_aux_lemma => kernel_rfl) (by intro _ _ _ h; exact h) (by assumption) (Or.inl ⟨by rfl, ?hy⟩) ?_; (case hy => (rintro W ⟨y0, y1, y2, y3⟩; go_simp; (try with_reducible rfl))); clear hsh; intro hsh
      refine wpAnyC_take0 (i := 6) (k := 8) (v := ?_) (d := some 141) rfl (by rfl) (by as_aux_lemma => kernel_rfl) (by as_aux_lemma => kernel_rfl) (by as_aux_lemma => kernel_rfl) hsh (by decide) (by intro _ _ _ h; exact h) (by assumption) (Or.inl ⟨by rfl, ?hy⟩) ?_; (case hy => (intro W _; go_simp; (try with_reducible rfl))); clear hsh; intro hsh
      refine wpAnyC_ready (rs := [7]) (by as_aux_lemma => kernel_rfl) (by simp) ?_; refine AllC.cons (i := 7) rfl (by as_aux_lemma => kernel_rfl) hsh (fun K hK => ?_) AllC.nil
      go_simp
      have HBx : Hid (Below w5.heap.size w5 (w5.drew.alloc (.cells #[.int .i64 0, .int .i64 0, .slice none 0 0, .slice none 0 0] 77))) := hide ((below_drewN (Below.refl w5.heap.size w5) 1).alloc (Nat.le_refl _) _)
      have HS2 : (w5.drew.alloc (.cells #[.int .i64 0, .int .i64 0, .slice none 0 0, .slice none 0 0] 77)).cell? ⟨c, 4, none⟩ = some (.slice A6 D2.length k6) ∧ (w5.drew.alloc (.cells #[.int .i64 0, .int .i64 0, .slice none 0 0, .slice none 0 0] 77)).cell? ⟨w1.heap.size, 0, none⟩ = some (.int .i64 4) ∧ (w5.drew.alloc (.cells #[.int .i64 0, .int .i64 0, .slice none 0 0, .slice none 0 0] 77)).cell? ⟨w1.heap.size, 1, none⟩ = some (.slice none 0 0) ∧ (w5.drew.alloc (.cells #[.int .i64 0, .int .i64 0, .slice none 0 0, .slice none 0 0] 77)).cell? ⟨w1.heap.size, 2, none⟩ = some (.slice A n q) := ⟨block_cell (block_below HBX.out HBx.out) 4, block_cell (block_below HT5.out.1 HBx.out) 0, block_cell (block_below HT5.out.1 HBx.out) 1, block_cell (block_below HT5.out.1 HBx.out) 2⟩
      refine hK _ _ (fun _ => HS2) ?_
      clear hK K hsh HS
      intro hsh
      refine wpAnyC_tail (by as_aux_lemma => kernel_rfl) (by simp) (by as_aux_lemma => kernel_rfl) ?_; simp only [List.drop_succ_cons, List.drop_zero]; clear hsh
      clear HS2
      go_simp
      go_wp2_with (fail)
      have hr6 := (nR.refl HR5.out.st).below (Nat.le_trans hBw HR5.out.size) (below_ad w5 (.cells #[.int .i64 (D2.length : Nat), .int .i64 4, .slice none 0 0, .slice A n q] 77))
      have HR6 := hide (HR5.out.trans hr6)
      have HBX6 := hide (block_below HBX.out (below_ad w5 (.cells #[.int .i64 (D2.length : Nat), .int .i64 4, .slice none 0 0, .slice A n q] 77)))
      have HROW6 := hide (own_stay HROW.out (w' := (w5.alloc (.cells #[.int .i64 (D2.length : Nat), .int .i64 4, .slice none 0 0, .slice A n q] 77)).drew) (fun g o _ e => block_below e (below_ad w5 _)))
      have HST6 : StayS F2 w5 ((w5.alloc (.cells #[.int .i64 (D2.length : Nat), .int .i64 4, .slice none 0 0, .slice A n q] 77)).drew) := ⟨(below_ad w5 _).size, fun b o _ e => block_below e (below_ad w5 _)⟩
      have HRS6 := hide (HRS.out.stay HST6 (fun _ h => h))
      have HN6 := hide ((nBk.new HR5.out.st (.cells #[.int .i64 (D2.length : Nat), .int .i64 4, .slice none 0 0, .slice A n q] 77)).step ((nR.refl (HR5.out.alloc hBw (.cells #[.int .i64 (D2.length : Nat), .int .i64 4, .slice none 0 0, .slice A n q] 77)).st).drew (Nat.le_trans hBw (HR5.out.alloc hBw (.cells #[.int .i64 (D2.length : Nat), .int .i64 4, .slice none 0 0, .slice A n q] 77)).size)))
      have HB6 := hide (HB5.out.step hr6)
      have HTY6 := hide (stay_tyU _ _ _ _ _ _ HTY.out HST6 (fun _ h _ => h))
      have hnb : w5.heap.size < (w5.alloc (.cells #[.int .i64 (D2.length : Nat), .int .i64 4, .slice none 0 0, .slice A n q] 77)).drew.heap.size := HN6.out.2.2.2.2.2
      have hnc : w5.heap.size ≠ c := HN6.out.2.1
      have hnr : w5.heap.size ≠ w.heap.size := by have := HB5.out.2.2.2.2.2; omega
      obtain ⟨w6, hw6⟩ : ∃ x, (w5.alloc (.cells #[.int .i64 (D2.length : Nat), .int .i64 4, .slice none 0 0, .slice A n q] 77)).drew = x := ⟨_, rfl⟩
      rw [hw6] at HR6 HBX6 HROW6 HRS6 HN6 HB6 HTY6 hnb ⊢
      clear hw6 HST6 hr6 HRS HROW HBX HT5 HR5 HB5 HTY HBx
      refine wp_region_chain (fun W => W.cell? ⟨c, 3, none⟩ = some (.map (some mb)) ∧ W.cell? ⟨w5.heap.size, 0, none⟩ = some (.int .i64 (D2.length : Nat))) 7 (by as_aux_lemma => kernel_rfl) (N := 8) (by as_aux_lemma => kernel_rfl) ?_; intro hsh
      have HS : w6.drew.cell? ⟨c, 3, none⟩ = some (.map (some mb)) ∧ w6.drew.cell? ⟨w5.heap.size, 0, none⟩ = some (.int .i64 (D2.length : Nat)) := ⟨HR6.out.st.c3, block_cell HN6.out.1 0⟩
      refine wpAnyC_take0 (i := 0) (k := 7) (v := ?_) (d := some 142) rfl (by rfl) (by as_aux_lemma => kernel_rfl) (by as_aux_lemma => kernel_rfl) (by as_aux_lemma => kernel_rfl) hsh (by decide) (by intro _ _ _ h; exact h) (by assumption) (Or.inl ⟨by rfl, ?hy⟩) ?_; (case hy => (intro W _; go_simp; (try with_reducible rfl))); clear hsh; intro hsh
      refine wpAnyC_take0 (i := 1) (k := 7) (v := ?_) (d := some 143) rfl (by rfl) (by as_aux_lemma => kernel_rfl) (by as_aux_lemma => kernel_rfl) (by as_aux_lemma => kernel_rfl) hsh (by decide) (by intro _ _ _ h; exact h) (by assumption) (Or.inl ⟨by rfl, ?hy⟩) ?_; (case hy => (intro W _; go_simp; (try with_reducible rfl))); clear hsh; intro hsh
      refine wpAnyC_take0 (i := 2) (k := 7) (v := ?_) (d := some 144) rfl (by rfl) (by as_aux_lemma => kernel_rfl) (by as_aux_lemma => kernel_rfl) (by as_aux_lemma => kernel_rfl) hsh (by decide) (by intro _ _ _ h; exact h) (by assumption) (Or.inl ⟨by rfl, ?hy⟩) ?_; (case hy => (intro W _; go_simp; (try with_reducible rfl))); clear hsh; intro hsh
      refine wpAnyC_take (i := 3) (k := 7) (f := 40) (v := ?_) (d := some 145) rfl (by rfl) (by as_aux_lemma => kernel_rfl) (by as_aux_lemma => kernel_rfl) (by as_aux_lemma => kernel_rfl) hsh (by decide) (by as_aux_lemma => kernel_rfl) (by intro _ _ _ h; exact h) (by assumption) (Or.inl ⟨by rfl, ?hy⟩) ?_; (case hy => (rintro W ⟨y0, y1⟩; go_simp; (try with_reducible rfl))); clear hsh; intro hsh
      refine wpAnyC_take0 (i := 4) (k := 7) (v := ?_) (d := some 146) rfl (by rfl) (by as_aux_lemma => kernel_rfl) (by as_aux_lemma => kernel_rfl) (by as_aux_lemma => kernel_rfl) hsh (by decide) (by intro _ _ _ h; exact h) (by assumption) (Or.inl ⟨by rfl, ?hy⟩) ?_; (case hy => (intro W _; go_simp; (try with_reducible rfl))); clear hsh; intro hsh
      refine wpAnyC_take0 (i := 5) (k := 7) (v := ?_) (d := some 147) rfl (by rfl) (by as_aux_lemma => kernel_rfl) (by as_aux_lemma => kernel_rfl) (by as_aux_lemma => kernel_rfl) hsh (by decide) (by intro _ _ _ h; exact h) (by assumption) (Or.inl ⟨by rfl, ?hy⟩) ?_; (case hy => (intro W _; go_simp; (try with_reducible rfl))); clear hsh; intro hsh
      refine wpAnyC_take (i := 6) (k := 7) (f := 40) (v := ?_) (d := some 148) rfl (by rfl) (by as_aux_lemma => kernel_rfl) (by as_aux_lemma => kernel_rfl) (by as_aux_lemma => kernel_rfl) hsh (by decide) (by as_aux_lemma => kernel_rfl) (by intro _ _ _ h; exact h) (by assumption) (Or.inl ⟨by rfl, ?hy⟩) ?_; (case hy => (rintro W ⟨y0, y1⟩; go_simp; (try with_reducible rfl))); clear hsh; intro hsh
      refine wpAnyC_tail (by as_aux_lemma => kernel_rfl) (by simp) (by as_aux_lemma => kernel_rfl) ?_; simp only [List.drop_succ_cons, List.drop_zero]; clear hsh
      clear HS
      go_simp
      go_wp2_with (at_mapUpdate; refine wpList_mapUpdate_own _ rfl _ _ _ 49 rfl 9 3 law_strD Tryd.underlying49 _ mb D2.length _ rfl HR6.out.st.map (by unfold maxLen; omega) _ _ _ rfl rfl (key_ofD kb hkm) _ [] (Go.plainElem_int Tryd.underlying3 (wf_intD (by omega))) ?_; intro w7 hown7 hg7; rw [HKB.out] at hown7; have HM7 := hide (nMid.start (x := (⟨4, [], ids⟩, Ty.mk 4 [] l)) HR6.out hBw HBX6.out HROW6.out HRS6.out HNF.out (below_drewN (Below.refl _ _) 1) hown7 hg7); have HN7 := hide (HN6.out.mid (below_drewN (Below.refl _ _) 1) hg7); have HB7 := hide (HB6.out.mid (below_drewN (Below.refl _ _) 1) hg7); have HTY7 := hide (stay_tyU _ _ _ _ _ _ HTY6.out (stay_mid HR6.out.st (below_drewN (Below.refl _ _) 1) hg7) (fun _ h _ => h)); clear hown7 hg7)
      refine wp_region_chain (fun W => W.cell? ⟨c, 4, none⟩ = some (.slice A6 D2.length k6) ∧ W.cell? ⟨w5.heap.size, 0, none⟩ = some (.int .i64 (D2.length : Nat)) ∧ W.cell? ⟨w5.heap.size, 1, none⟩ = some (.int .i64 4) ∧ W.cell? ⟨w5.heap.size, 2, none⟩ = some (.slice none 0 0) ∧ W.cell? ⟨w5.heap.size, 3, none⟩ = some (.slice A n q)) 7 (by as_aux_lemma => kernel_rfl) (N := 11) (by as_aux_lemma => kernel_rfl) ?_; intro hsh
      have HS : w7.drew.cell? ⟨c, 4, none⟩ = some (.slice A6 D2.length k6) ∧ w7.drew.cell? ⟨w5.heap.size, 0, none⟩ = some (.int .i64 (D2.length : Nat)) ∧ w7.drew.cell? ⟨w5.heap.size, 1, none⟩ = some (.int .i64 4) ∧ w7.drew.cell? ⟨w5.heap.size, 2, none⟩ = some (.slice none 0 0) ∧ w7.drew.cell? ⟨w5.heap.size, 3, none⟩ = some (.slice A n q) := ⟨block_cell HM7.out.box 4, block_cell HN7.out 0, block_cell HN7.out 1, block_cell HN7.out 2, block_cell HN7.out 3⟩
      refine wpAnyC_take0 (i := 0) (k := 7) (v := ?_) (d := some 149) rfl (by rfl) (by as_aux_lemma => kernel_rfl) (by as_aux_lemma => kernel_rfl) (by as_aux_lemma => kernel_rfl) hsh (by decide) (by intro _ _ _ h; exact h) (by assumption) (Or.inl ⟨by rfl, ?hy⟩) ?_; (case hy => (intro W _; go_simp; (try with_reducible rfl))); clear hsh; intro hsh
      refine wpAnyC_take0 (i := 1) (k := 7) (v := ?_) (d := some 150) rfl (by rfl) (by as_aux_lemma => kernel_rfl) (by as_aux_lemma => kernel_rfl) (by as_aux_lemma => kernel_rfl) hsh (by decide) (by intro _ _ _ h; exact h) (by assumption) (Or.inl ⟨by rfl, ?hy⟩) ?_; (case hy => (intro W _; go_simp; (try with_reducible rfl))); clear hsh; intro hsh
      refine wpAnyC_take0 (i := 2) (k := 7) (v := ?_) (d := some 151) rfl (by rfl) (by as_aux_lemma => kernel_rfl) (by as_aux_lemma => kernel_rfl) (by as_aux_lemma => kernel_rfl) hsh (by decide) (by intro _ _ _ h; exact h) (by assumption) (Or.inl ⟨by rfl, ?hy⟩) ?_; (case hy => (intro W _; go_simp; (try with_reducible rfl))); clear hsh; intro hsh
      refine wpAnyC_take0 (i := 3) (k := 7) (v := ?_) (d := some 152) rfl (by rfl) (by as_aux_lemma => kernel_rfl) (by as_aux_lemma => kernel_rfl) (by as_aux_lemma => kernel_rfl) hsh (by decide) (by intro _ _ _ h; exact h) (by assumption) (Or.inl ⟨by rfl, ?hy⟩) ?_; (case hy => (intro W _; go_simp; (try with_reducible rfl))); clear hsh; intro hsh
      refine wpAnyC_take (i := 4) (k := 7) (f := 40) (v := ?_) (d := some 153) rfl (by rfl) (by as_aux_lemma => kernel_rfl) (by as_aux_lemma => kernel_rfl) (by as_aux_lemma => kernel_rfl) hsh (by decide) (by as_aux_lemma => kernel_rfl) (by intro _ _ _ h; exact h) (by assumption) (Or.inl ⟨by rfl, ?hy⟩) ?_; (case hy => (rintro W ⟨y0, y1, y2, y3, y4⟩; go_simp; (try with_reducible rfl))); clear hsh; intro hsh
      refine wpAnyC_take (i := 5) (k := 7) (f := 40) (v := ?_) (d := some 154) rfl (by rfl) (by as_aux_lemma => kernel_rfl) (by as_aux_lemma => kernel_rfl) (by as_aux_lemma => kernel_rfl) hsh (by decide) (by as_aux_lemma => kernel_rfl) (by intro _ _ _ h; exact h) (by assumption) (Or.inl ⟨by rfl, ?hy⟩) ?_; (case hy => (rintro W ⟨y0, y1, y2, y3, y4⟩; go_simp; (try with_reducible rfl))); clear hsh; intro hsh
      refine wpAnyC_ready (rs := [6]) (by as_aux_lemma => kernel_rfl) (by simp) ?_; refine AllC.cons (i := 6) rfl (by as_aux_lemma => kernel_rfl) hsh (fun K hK => ?_) AllC.nil
      go_simp
      have HS2 : (w7.drew.alloc (.cells #[.int .i64 (D2.length : Nat), .int .i64 4, .slice none 0 0, .slice A n q] 77)).cell? ⟨c, 4, none⟩ = some (.slice A6 D2.length k6) ∧ (w7.drew.alloc (.cells #[.int .i64 (D2.length : Nat), .int .i64 4, .slice none 0 0, .slice A n q] 77)).cell? ⟨w5.heap.size, 0, none⟩ = some (.int .i64 (D2.length : Nat)) ∧ (w7.drew.alloc (.cells #[.int .i64 (D2.length : Nat), .int .i64 4, .slice none 0 0, .slice A n q] 77)).cell? ⟨w5.heap.size, 1, none⟩ = some (.int .i64 4) ∧ (w7.drew.alloc (.cells #[.int .i64 (D2.length : Nat), .int .i64 4, .slice none 0 0, .slice A n q] 77)).cell? ⟨w5.heap.size, 2, none⟩ = some (.slice none 0 0) ∧ (w7.drew.alloc (.cells #[.int .i64 (D2.length : Nat), .int .i64 4, .slice none 0 0, .slice A n q] 77)).cell? ⟨w5.heap.size, 3, none⟩ = some (.slice A n q) := ⟨block_cell (block_below HM7.out.box (below_da w7 _)) 4, block_cell (block_below HN7.out (below_da w7 _)) 0, block_cell (block_below HN7.out (below_da w7 _)) 1, block_cell (block_below HN7.out (below_da w7 _)) 2, block_cell (block_below HN7.out (below_da w7 _)) 3⟩
      refine hK _ _ (fun _ => HS2) ?_
      clear hK K hsh HS
      intro hsh
      refine wpAnyC_tail (by as_aux_lemma => kernel_rfl) (by simp) (by as_aux_lemma => kernel_rfl) ?_; simp only [List.drop_succ_cons, List.drop_zero]; clear hsh
      clear HS2
      go_simp
      have HRd := hide (own_stay HM7.out.row (w' := w7.drew) (fun g o _ e => e))
      obtain ⟨i0, hi0, iz0, iz1, iz2⟩ := info_parts info_nd
      refine wpList_append_own_at _ (by rfl) (.tmp 153) (.tmp 155) 67 (by rfl) B 77 i0 (.agg #[.int .i64 0, .int .i64 0, .slice none 0 0, .slice none 0 0]) 4 64 Tryd.underlying67 hi0 iz0 iz1 iz2 rfl (by decide) (.slice A6 D2.length k6) D2.length css.flatten (by rfl) (HRd.out.alloc _) ⟨w7.heap.size, 0, none⟩ 1 1 [.int .i64 (D2.length : Nat), .int .i64 4, .slice none 0 0, .slice A n q] (by rfl) (by rfl) (cells_new w7.drew [.int .i64 (D2.length : Nat), .int .i64 4, .slice none 0 0, .slice A n q] _) (by intro u hu; simp at hu; rcases hu with rfl | rfl | rfl | rfl <;> rfl) (by unfold maxLen; omega) (by omega) (Nat.le_trans hBw (HM7.out.be.trans ((below_da w7 (.cells #[.int .i64 (D2.length : Nat), .int .i64 4, .slice none 0 0, .slice A n q] 77)).mono (Nat.le_trans hBw HM7.out.be.size))).size) ?_
      intro v8 w8 hown8 hg8 _ hat8
      have HR9 := hide (HM7.out.push hBw HTY7.out HM.out HSH.out (by omega) (below_da w7 _) hown8 hg8 hat8)
      have e8c := block_push HM7.out.box (below_da w7 _) hg8 HM7.out.cnot
      have HN8 := hide (block_push HN7.out (below_da w7 _) hg8 (HN6.out.nrow HBX6.out))
      have e8r := block_push HB7.out (below_da w7 _) hg8 (HB6.out.nrow HBX6.out)
      have HB9 := hide (HB6.out.last e8c e8r (HB6.out.nrow HBX6.out) (N := (w7.drew.alloc (.cells #[.int .i64 (D2.length : Nat), .int .i64 4, .slice none 0 0, .slice A n q] 77)).heap.size) (by have := HM7.out.be.size; simp; omega) hat8)
      have HTY9 := hide (stay_tyU _ _ _ _ _ _ HTY7.out (stay_last HM7.out (below_da w7 _) hg8 v8) (fun _ h _ => h))
      obtain ⟨ao, cp, rfl⟩ := own_sl hown8
      have b3 : w8.frozen? ⟨c, 4, none⟩ = false := block_free e8c 4
      have b4 := block_cell e8c 4
      have n0 := block_cell HN8.out 0
      have n1 := block_cell HN8.out 1
      have n2 := block_cell HN8.out 2
      have n3 := block_cell HN8.out 3
      have r0 := block_cell HB9.out.1 0
      have r1 := block_cell HB9.out.1 1
      have r2 := block_cell HB9.out.1 2
      have r3 := block_cell HB9.out.1 3
      have fr0 := block_free HB9.out.1 0
      have fr1 := block_free HB9.out.1 1
      have fr2 := block_free HB9.out.1 2
      have fr3 := block_free HB9.out.1 3
      clear hown8 hg8 hat8 e8c e8r
      go_wp2_with (fail)
      obtain ⟨hrz, hbz, hsz⟩ := nFin HR9.out hBw HB9.out hrb (.int .i64 (D2.length : Nat)) (.int .i64 4) (.slice none 0 0) (.slice A n q)
      generalize World.setCell _ (⟨w.heap.size, 3, none⟩ : Addr) _ = wz at hrz hbz hsz ⊢
      have z0 := block_cell hbz 0
      have z1 := block_cell hbz 1
      have z2 := block_cell hbz 2
      have z3 := block_cell hbz 3
      simp at z0 z1 z2 z3
      ((try simp only [Exit.inBlock, Exit.then]); refine bodyPost_ret (by simp [results, Tryd.results27, go_sem, z0, z1, z2, z3]; try rfl) rfl ?_)
      exact RP.ok HE.out ⟨F2, _, _, _, _, _, _, _, rfl, stay_tyU _ _ _ _ _ _ HTY9.out hsz (fun _ h _ => h), hrz⟩
end Go.Proofs.YtocpmbpckbjepaaDoor

/- Walk of one of the program's reader of mangled names, a number; none of these; too deep (printed by gen_dg.py). -/
namespace Go.Proofs.YtocpmbpckbjepaaDoor
open Go.RowKit
set_option linter.unusedVariables false
set_option linter.unusedSimpArgs false
set_option maxRecDepth 100000 in
set_option maxHeartbeats 16000000 in
theorem nOne_S {s : ByteArray} {f : Nat} (hf : f + 1 ≤ 12) : nOneAt s (f + 1) 83 := by
  intro B c mb D F i d w hBw htb hs hDi hd h hb
  have hi := get_lt hb
  have HOK := hide h.ok
  have HRA := hide ((nR.refl h).alloc hBw (.cells #[.int .i64 0, .int .i64 0, .slice none 0 0, .slice none 0 0] 77))
  have HBA := hide (nBk.new h (.cells #[.int .i64 0, .int .i64 0, .slice none 0 0, .slice none 0 0] 77))
  have hrb : w.heap.size ≤ w.heap.size := Nat.le_refl _
  have c1 := HRA.out.st.c1
  have HPK := hide (nPeek B c mb s D F _ (Nat.le_trans hBw HRA.out.size) i hs HRA.out.st)
  rw [pkB_is hb] at HPK
  have HTB := hide htb
  have HDD := hide hd
  have hdeep : decide ((12 : Int) ≤ d) = false := by simp; omega
  have hdd : ¬ (12 : Int) ≤ d := by omega
  have hdw : wrap64 (d + 1) = d + 1 := (by unfold wrap64; omega)
  clear h htb hd
  have HX := hide (dOne_S (f := f) (D := D) hb)
  have HSB := hide hb
  clear hb
  cases hn : dAgain s D i with
  | bad e0 =>
    have HND := hide hn
    have HE := hide (show dOne s (f + 1) D i = .bad e0 by rw [HX.out, hn])
    clear hn HX
    go_enter Tryd.func27, Tryd.ntmps27
    go_wp2_with (first | (go_at_call 26; refine HPK.out.mono ?_; rintro e w1 ⟨rfl, hr⟩; have HR1 := hide (HRA.out.trans hr); have HB1 := hide (HBA.out.step hr); have hr2 := (nR.refl HR1.out.st).alloc (Nat.le_trans hBw HR1.out.size) (.cells #[.int .i64 0, .slice none 0 0, .slice none 0 0] 75); have HR2 := hide (HR1.out.trans hr2); have HB2 := hide (HB1.out.step hr2); have HAG := hide (nAgain_any s B c mb D F i _ (Nat.le_trans hBw HR2.out.size) hs HSB.out HR2.out.st); clear hr hr2 HPK) | (go_at_call 48; refine HAG.out.mono ?_; intro e w2 hrp; obtain ⟨rfl, y, hy, hr⟩ := hrp.of_bad HND.out; have HR6 := hide (HR2.out.trans hr); have HB6 := hide (HB2.out.step hr); have r0 := block_cell HB6.out.1 0; have r1 := block_cell HB6.out.1 1; have r2 := block_cell HB6.out.1 2; have r3 := block_cell HB6.out.1 3; have fr0 := block_free HB6.out.1 0; have fr1 := block_free HB6.out.1 1; have fr2 := block_free HB6.out.1 2; have fr3 := block_free HB6.out.1 3; clear hr hrp HAG))
    obtain ⟨hrz, hbz, hsz⟩ := nFin HR6.out hBw HB6.out hrb (.int .i64 0) (.int .i64 0) (.slice none 0 0) (.slice none 0 0)
    generalize World.setCell _ (⟨w.heap.size, 3, none⟩ : Addr) _ = wz at hrz hbz hsz ⊢
    have z0 := block_cell hbz 0
    have z1 := block_cell hbz 1
    have z2 := block_cell hbz 2
    have z3 := block_cell hbz 3
    simp at z0 z1 z2 z3
    ((try simp only [Exit.inBlock, Exit.then]); refine bodyPost_ret (by simp [results, Tryd.results27, go_sem, z0, z1, z2, z3]; try rfl) rfl ?_)
    exact RP.bad HE.out ⟨rfl, y, D, F, by omega, hrz⟩
  | ok j z =>
    obtain ⟨m, t, D2⟩ := z
    have HND := hide hn
    have HE := hide (show dOne s (f + 1) D i = .ok j (m, t, D2) by rw [HX.out, hn])
    clear hn HX
    go_enter Tryd.func27, Tryd.ntmps27
    go_wp2_with (first | (go_at_call 26; refine HPK.out.mono ?_; rintro e w1 ⟨rfl, hr⟩; have HR1 := hide (HRA.out.trans hr); have HB1 := hide (HBA.out.step hr); have hr2 := (nR.refl HR1.out.st).alloc (Nat.le_trans hBw HR1.out.size) (.cells #[.int .i64 0, .slice none 0 0, .slice none 0 0] 75); have HR2 := hide (HR1.out.trans hr2); have HB2 := hide (HB1.out.step hr2); have HAG := hide (nAgain_any s B c mb D F i _ (Nat.le_trans hBw HR2.out.size) hs HSB.out HR2.out.st); clear hr hr2 HPK) | (go_at_call 48; refine HAG.out.mono ?_; intro e w2 hrp; obtain ⟨k, A, n, q, A', n', q', rfl, hty, hD, hr⟩ := hrp.of_ok HND.out; have HR6 := hide (HR2.out.trans hr); have HB6 := hide (HB2.out.step hr); have r0 := block_cell HB6.out.1 0; have r1 := block_cell HB6.out.1 1; have r2 := block_cell HB6.out.1 2; have r3 := block_cell HB6.out.1 3; have fr0 := block_free HB6.out.1 0; have fr1 := block_free HB6.out.1 1; have fr2 := block_free HB6.out.1 2; have fr3 := block_free HB6.out.1 3; have HTY := hide hty; have HDE := hide hD; clear hty hD; clear hr hrp HAG))
    obtain ⟨hrz, hbz, hsz⟩ := nFin HR6.out hBw HB6.out hrb (.int .i64 (m : Nat)) (.int .i64 k) (.slice A n q) (.slice A' n' q')
    generalize World.setCell _ (⟨w.heap.size, 3, none⟩ : Addr) _ = wz at hrz hbz hsz ⊢
    have z0 := block_cell hbz 0
    have z1 := block_cell hbz 1
    have z2 := block_cell hbz 2
    have z3 := block_cell hbz 3
    simp at z0 z1 z2 z3
    ((try simp only [Exit.inBlock, Exit.then]); refine bodyPost_ret (by simp [results, Tryd.results27, go_sem, z0, z1, z2, z3]; try rfl) rfl ?_)
    exact RP.ok (HE.out.trans (by rw [show D2 = D from HDE.out])) ⟨F, _, _, _, _, _, _, _, rfl, stay_tyU _ _ _ _ _ _ HTY.out hsz (fun _ h _ => h), hrz⟩
set_option maxRecDepth 100000 in
set_option maxHeartbeats 16000000 in
theorem nOne_zero {s : ByteArray} : nOneOk s 0 := by
  intro B c mb D F i d w hBw htb hs hi hDi hd h
  have HOK := hide h.ok
  have HRA := hide ((nR.refl h).alloc hBw (.cells #[.int .i64 0, .int .i64 0, .slice none 0 0, .slice none 0 0] 77))
  have HBA := hide (nBk.new h (.cells #[.int .i64 0, .int .i64 0, .slice none 0 0, .slice none 0 0] 77))
  have hrb : w.heap.size ≤ w.heap.size := Nat.le_refl _
  have c1 := HRA.out.st.c1
  have HPK := hide (nPeek B c mb s D F _ (Nat.le_trans hBw HRA.out.size) i hs HRA.out.st)
  have HTB := hide htb
  have HDD := hide hd
  have hdeep : (12 : Int) ≤ d := by omega
  clear h htb hd
  have HE := hide (show dOne s 0 D i = .bad i from rfl)
  by_cases hn78 : s.data.toList[i]? = some 78
  · rw [pkB_is hn78] at HPK
    clear hn78
    go_enter Tryd.func27, Tryd.ntmps27
    go_wp2_with (first | (go_at_call 26; refine HPK.out.mono ?_; rintro e w1 ⟨rfl, hr⟩; have HR1 := hide (HRA.out.trans hr); have HB1 := hide (HBA.out.step hr); clear hr HPK) | (go_at_call 28; refine (nFail_new B c mb s D F _ (Nat.le_trans hBw HR1.out.size) i i HR1.out.st).mono ?_; rintro e w6 ⟨rfl, hr⟩; have HR6 := hide (HR1.out.trans hr); have HB6 := hide (HB1.out.step hr); have r0 := block_cell HB6.out.1 0; have r1 := block_cell HB6.out.1 1; have r2 := block_cell HB6.out.1 2; have r3 := block_cell HB6.out.1 3; have fr0 := block_free HB6.out.1 0; have fr1 := block_free HB6.out.1 1; have fr2 := block_free HB6.out.1 2; have fr3 := block_free HB6.out.1 3; have c2 := hr.st.c2; clear hr))
    obtain ⟨hrz, hbz, hsz⟩ := nFin HR6.out hBw HB6.out hrb (.int .i64 0) (.int .i64 0) (.slice none 0 0) (.slice none 0 0)
    generalize World.setCell _ (⟨w.heap.size, 3, none⟩ : Addr) _ = wz at hrz hbz hsz ⊢
    have z0 := block_cell hbz 0
    have z1 := block_cell hbz 1
    have z2 := block_cell hbz 2
    have z3 := block_cell hbz 3
    simp at z0 z1 z2 z3
    ((try simp only [Exit.inBlock, Exit.then]); refine bodyPost_ret (by simp [results, Tryd.results27, go_sem, z0, z1, z2, z3]; try rfl) rfl ?_)
    exact RP.bad HE.out ⟨rfl, i, D, F, by omega, hrz⟩
  by_cases hn82 : s.data.toList[i]? = some 82
  · rw [pkB_is hn82] at HPK
    clear hn78 hn82
    go_enter Tryd.func27, Tryd.ntmps27
    go_wp2_with (first | (go_at_call 26; refine HPK.out.mono ?_; rintro e w1 ⟨rfl, hr⟩; have HR1 := hide (HRA.out.trans hr); have HB1 := hide (HBA.out.step hr); clear hr HPK) | (go_at_call 28; refine (nFail_new B c mb s D F _ (Nat.le_trans hBw HR1.out.size) i i HR1.out.st).mono ?_; rintro e w6 ⟨rfl, hr⟩; have HR6 := hide (HR1.out.trans hr); have HB6 := hide (HB1.out.step hr); have r0 := block_cell HB6.out.1 0; have r1 := block_cell HB6.out.1 1; have r2 := block_cell HB6.out.1 2; have r3 := block_cell HB6.out.1 3; have fr0 := block_free HB6.out.1 0; have fr1 := block_free HB6.out.1 1; have fr2 := block_free HB6.out.1 2; have fr3 := block_free HB6.out.1 3; have c2 := hr.st.c2; clear hr))
    obtain ⟨hrz, hbz, hsz⟩ := nFin HR6.out hBw HB6.out hrb (.int .i64 0) (.int .i64 0) (.slice none 0 0) (.slice none 0 0)
    generalize World.setCell _ (⟨w.heap.size, 3, none⟩ : Addr) _ = wz at hrz hbz hsz ⊢
    have z0 := block_cell hbz 0
    have z1 := block_cell hbz 1
    have z2 := block_cell hbz 2
    have z3 := block_cell hbz 3
    simp at z0 z1 z2 z3
    ((try simp only [Exit.inBlock, Exit.then]); refine bodyPost_ret (by simp [results, Tryd.results27, go_sem, z0, z1, z2, z3]; try rfl) rfl ?_)
    exact RP.bad HE.out ⟨rfl, i, D, F, by omega, hrz⟩
  by_cases hn76 : s.data.toList[i]? = some 76
  · rw [pkB_is hn76] at HPK
    clear hn78 hn82 hn76
    go_enter Tryd.func27, Tryd.ntmps27
    go_wp2_with (first | (go_at_call 26; refine HPK.out.mono ?_; rintro e w1 ⟨rfl, hr⟩; have HR1 := hide (HRA.out.trans hr); have HB1 := hide (HBA.out.step hr); clear hr HPK) | (go_at_call 28; refine (nFail_new B c mb s D F _ (Nat.le_trans hBw HR1.out.size) i i HR1.out.st).mono ?_; rintro e w6 ⟨rfl, hr⟩; have HR6 := hide (HR1.out.trans hr); have HB6 := hide (HB1.out.step hr); have r0 := block_cell HB6.out.1 0; have r1 := block_cell HB6.out.1 1; have r2 := block_cell HB6.out.1 2; have r3 := block_cell HB6.out.1 3; have fr0 := block_free HB6.out.1 0; have fr1 := block_free HB6.out.1 1; have fr2 := block_free HB6.out.1 2; have fr3 := block_free HB6.out.1 3; have c2 := hr.st.c2; clear hr))
    obtain ⟨hrz, hbz, hsz⟩ := nFin HR6.out hBw HB6.out hrb (.int .i64 0) (.int .i64 0) (.slice none 0 0) (.slice none 0 0)
    generalize World.setCell _ (⟨w.heap.size, 3, none⟩ : Addr) _ = wz at hrz hbz hsz ⊢
    have z0 := block_cell hbz 0
    have z1 := block_cell hbz 1
    have z2 := block_cell hbz 2
    have z3 := block_cell hbz 3
    simp at z0 z1 z2 z3
    ((try simp only [Exit.inBlock, Exit.then]); refine bodyPost_ret (by simp [results, Tryd.results27, go_sem, z0, z1, z2, z3]; try rfl) rfl ?_)
    exact RP.bad HE.out ⟨rfl, i, D, F, by omega, hrz⟩
  by_cases hn70 : s.data.toList[i]? = some 70
  · rw [pkB_is hn70] at HPK
    clear hn78 hn82 hn76 hn70
    go_enter Tryd.func27, Tryd.ntmps27
    go_wp2_with (first | (go_at_call 26; refine HPK.out.mono ?_; rintro e w1 ⟨rfl, hr⟩; have HR1 := hide (HRA.out.trans hr); have HB1 := hide (HBA.out.step hr); clear hr HPK) | (go_at_call 28; refine (nFail_new B c mb s D F _ (Nat.le_trans hBw HR1.out.size) i i HR1.out.st).mono ?_; rintro e w6 ⟨rfl, hr⟩; have HR6 := hide (HR1.out.trans hr); have HB6 := hide (HB1.out.step hr); have r0 := block_cell HB6.out.1 0; have r1 := block_cell HB6.out.1 1; have r2 := block_cell HB6.out.1 2; have r3 := block_cell HB6.out.1 3; have fr0 := block_free HB6.out.1 0; have fr1 := block_free HB6.out.1 1; have fr2 := block_free HB6.out.1 2; have fr3 := block_free HB6.out.1 3; have c2 := hr.st.c2; clear hr))
    obtain ⟨hrz, hbz, hsz⟩ := nFin HR6.out hBw HB6.out hrb (.int .i64 0) (.int .i64 0) (.slice none 0 0) (.slice none 0 0)
    generalize World.setCell _ (⟨w.heap.size, 3, none⟩ : Addr) _ = wz at hrz hbz hsz ⊢
    have z0 := block_cell hbz 0
    have z1 := block_cell hbz 1
    have z2 := block_cell hbz 2
    have z3 := block_cell hbz 3
    simp at z0 z1 z2 z3
    ((try simp only [Exit.inBlock, Exit.then]); refine bodyPost_ret (by simp [results, Tryd.results27, go_sem, z0, z1, z2, z3]; try rfl) rfl ?_)
    exact RP.bad HE.out ⟨rfl, i, D, F, by omega, hrz⟩
  by_cases hn83 : s.data.toList[i]? = some 83
  · rw [pkB_is hn83] at HPK
    clear hn78 hn82 hn76 hn70 hn83
    go_enter Tryd.func27, Tryd.ntmps27
    go_wp2_with (first | (go_at_call 26; refine HPK.out.mono ?_; rintro e w1 ⟨rfl, hr⟩; have HR1 := hide (HRA.out.trans hr); have HB1 := hide (HBA.out.step hr); clear hr HPK) | (go_at_call 28; refine (nFail_new B c mb s D F _ (Nat.le_trans hBw HR1.out.size) i i HR1.out.st).mono ?_; rintro e w6 ⟨rfl, hr⟩; have HR6 := hide (HR1.out.trans hr); have HB6 := hide (HB1.out.step hr); have r0 := block_cell HB6.out.1 0; have r1 := block_cell HB6.out.1 1; have r2 := block_cell HB6.out.1 2; have r3 := block_cell HB6.out.1 3; have fr0 := block_free HB6.out.1 0; have fr1 := block_free HB6.out.1 1; have fr2 := block_free HB6.out.1 2; have fr3 := block_free HB6.out.1 3; have c2 := hr.st.c2; clear hr))
    obtain ⟨hrz, hbz, hsz⟩ := nFin HR6.out hBw HB6.out hrb (.int .i64 0) (.int .i64 0) (.slice none 0 0) (.slice none 0 0)
    generalize World.setCell _ (⟨w.heap.size, 3, none⟩ : Addr) _ = wz at hrz hbz hsz ⊢
    have z0 := block_cell hbz 0
    have z1 := block_cell hbz 1
    have z2 := block_cell hbz 2
    have z3 := block_cell hbz 3
    simp at z0 z1 z2 z3
    ((try simp only [Exit.inBlock, Exit.then]); refine bodyPost_ret (by simp [results, Tryd.results27, go_sem, z0, z1, z2, z3]; try rfl) rfl ?_)
    exact RP.bad HE.out ⟨rfl, i, D, F, by omega, hrz⟩
  have q83 := pk_ne (by decide) hn83
  have q83' : (((pkB s i).toNat : Int) == 83) = false := by simpa using q83
  have q78 := pk_ne (by decide) hn78
  have q78' : (((pkB s i).toNat : Int) == 78) = false := by simpa using q78
  have q82 := pk_ne (by decide) hn82
  have q82' : (((pkB s i).toNat : Int) == 82) = false := by simpa using q82
  have q76 := pk_ne (by decide) hn76
  have q76' : (((pkB s i).toNat : Int) == 76) = false := by simpa using q76
  have q70 := pk_ne (by decide) hn70
  have q70' : (((pkB s i).toNat : Int) == 70) = false := by simpa using q70
  clear hn83 hn78 hn82 hn76 hn70
  go_enter Tryd.func27, Tryd.ntmps27
  go_wp2_with (first | (go_at_call 26; refine HPK.out.mono ?_; rintro e w1 ⟨rfl, hr⟩; have HR1 := hide (HRA.out.trans hr); have HB1 := hide (HBA.out.step hr); have hr2 := (nR.refl HR1.out.st).alloc (Nat.le_trans hBw HR1.out.size) (.cells #[.int .i64 0, .slice none 0 0, .slice none 0 0] 75); have HR2 := hide (HR1.out.trans hr2); have HB2 := hide (HB1.out.step hr2); have c1' := HR2.out.st.c1; clear hr hr2 HPK) | (go_at_call 28; refine (nFail_new B c mb s D F _ (Nat.le_trans hBw HR2.out.size) i i HR2.out.st).mono ?_; rintro e w6 ⟨rfl, hr⟩; have HR6 := hide (HR2.out.trans hr); have HB6 := hide (HB2.out.step hr); have r0 := block_cell HB6.out.1 0; have r1 := block_cell HB6.out.1 1; have r2 := block_cell HB6.out.1 2; have r3 := block_cell HB6.out.1 3; have fr0 := block_free HB6.out.1 0; have fr1 := block_free HB6.out.1 1; have fr2 := block_free HB6.out.1 2; have fr3 := block_free HB6.out.1 3; have c2 := hr.st.c2; clear hr))
  obtain ⟨hrz, hbz, hsz⟩ := nFin HR6.out hBw HB6.out hrb (.int .i64 0) (.int .i64 0) (.slice none 0 0) (.slice none 0 0)
  generalize World.setCell _ (⟨w.heap.size, 3, none⟩ : Addr) _ = wz at hrz hbz hsz ⊢
  have z0 := block_cell hbz 0
  have z1 := block_cell hbz 1
  have z2 := block_cell hbz 2
  have z3 := block_cell hbz 3
  simp at z0 z1 z2 z3
  ((try simp only [Exit.inBlock, Exit.then]); refine bodyPost_ret (by simp [results, Tryd.results27, go_sem, z0, z1, z2, z3]; try rfl) rfl ?_)
  exact RP.bad HE.out ⟨rfl, i, D, F, by omega, hrz⟩
set_option maxRecDepth 100000 in
set_option maxHeartbeats 16000000 in
theorem nOne_no {s : ByteArray} {f : Nat} (hf : f + 1 ≤ 12) (B c mb : Nat) (D : List Nd) (F : Nat → Prop) (i : Nat) (d : Int) (w : World) (hBw : B ≤ w.heap.size) (htb : Tab10 B w) (hs : s.size ≤ 8000) (hi : i ≤ s.size) (hDi : D.length ≤ i) (hd : d = 12 - ((f + 1 : Nat) : Int)) (h : nS B c mb s i (-1) D F w)
    (hn83 : ¬ s.data.toList[i]? = some 83) (hn78 : ¬ s.data.toList[i]? = some 78) (hn82 : ¬ s.data.toList[i]? = some 82) (hn76 : ¬ s.data.toList[i]? = some 76) (hn70 : ¬ s.data.toList[i]? = some 70) :
    Calls Tryd.prog 27 #[.pointer (some ⟨c, 0, none⟩), .int .i64 d] w fun e w' => RP (dOne s (f + 1) D i)
    (fun e0 => e = .returned (.agg #[.int .i64 0, .int .i64 0, .slice none 0 0, .slice none 0 0]) ∧ ∃ (j : Nat) (D' : List Nd) (F' : Nat → Prop), j ≤ s.size + 2 * (f + 1) + 2 ∧ nR B c mb s j e0 D' F F' w w')
    (fun j x => ∃ (F' : Nat → Prop) (k : Int) (A : Option Addr) (n q : Nat) (A' : Option Addr) (n' q' : Nat), e = .returned (.agg #[.int .i64 x.1, .int .i64 k, .slice A n q, .slice A' n' q']) ∧ TyU w' F' x.2.1 [.int .i64 k, .slice A n q, .slice A' n' q'] ∧ nR B c mb s j (-1) x.2.2 F F' w w') := by
  have HOK := hide h.ok
  have HRA := hide ((nR.refl h).alloc hBw (.cells #[.int .i64 0, .int .i64 0, .slice none 0 0, .slice none 0 0] 77))
  have HBA := hide (nBk.new h (.cells #[.int .i64 0, .int .i64 0, .slice none 0 0, .slice none 0 0] 77))
  have hrb : w.heap.size ≤ w.heap.size := Nat.le_refl _
  have c1 := HRA.out.st.c1
  have HPK := hide (nPeek B c mb s D F _ (Nat.le_trans hBw HRA.out.size) i hs HRA.out.st)
  have HTB := hide htb
  have HDD := hide hd
  have hdeep : decide ((12 : Int) ≤ d) = false := by simp; omega
  have hdd : ¬ (12 : Int) ≤ d := by omega
  have hdw : wrap64 (d + 1) = d + 1 := (by unfold wrap64; omega)
  clear h htb hd
  have HE := hide (dOne_no (f := f) (D := D) hn83 hn78 hn82 hn76 hn70)
  have q83 := pk_ne (by decide) hn83
  have q83' : (((pkB s i).toNat : Int) == 83) = false := by simpa using q83
  have q78 := pk_ne (by decide) hn78
  have q78' : (((pkB s i).toNat : Int) == 78) = false := by simpa using q78
  have q82 := pk_ne (by decide) hn82
  have q82' : (((pkB s i).toNat : Int) == 82) = false := by simpa using q82
  have q76 := pk_ne (by decide) hn76
  have q76' : (((pkB s i).toNat : Int) == 76) = false := by simpa using q76
  have q70 := pk_ne (by decide) hn70
  have q70' : (((pkB s i).toNat : Int) == 70) = false := by simpa using q70
  clear hn83 hn78 hn82 hn76 hn70
  go_enter Tryd.func27, Tryd.ntmps27
  go_wp2_with (first | (go_at_call 26; refine HPK.out.mono ?_; rintro e w1 ⟨rfl, hr⟩; have HR1 := hide (HRA.out.trans hr); have HB1 := hide (HBA.out.step hr); have hr2 := (nR.refl HR1.out.st).alloc (Nat.le_trans hBw HR1.out.size) (.cells #[.int .i64 0, .slice none 0 0, .slice none 0 0] 75); have HR2 := hide (HR1.out.trans hr2); have HB2 := hide (HB1.out.step hr2); have c1' := HR2.out.st.c1; clear hr hr2 HPK) | (go_at_call 28; refine (nFail_new B c mb s D F _ (Nat.le_trans hBw HR2.out.size) i i HR2.out.st).mono ?_; rintro e w6 ⟨rfl, hr⟩; have HR6 := hide (HR2.out.trans hr); have HB6 := hide (HB2.out.step hr); have r0 := block_cell HB6.out.1 0; have r1 := block_cell HB6.out.1 1; have r2 := block_cell HB6.out.1 2; have r3 := block_cell HB6.out.1 3; have fr0 := block_free HB6.out.1 0; have fr1 := block_free HB6.out.1 1; have fr2 := block_free HB6.out.1 2; have fr3 := block_free HB6.out.1 3; have c2 := hr.st.c2; clear hr))
  obtain ⟨hrz, hbz, hsz⟩ := nFin HR6.out hBw HB6.out hrb (.int .i64 0) (.int .i64 0) (.slice none 0 0) (.slice none 0 0)
  generalize World.setCell _ (⟨w.heap.size, 3, none⟩ : Addr) _ = wz at hrz hbz hsz ⊢
  have z0 := block_cell hbz 0
  have z1 := block_cell hbz 1
  have z2 := block_cell hbz 2
  have z3 := block_cell hbz 3
  simp at z0 z1 z2 z3
  ((try simp only [Exit.inBlock, Exit.then]); refine bodyPost_ret (by simp [results, Tryd.results27, go_sem, z0, z1, z2, z3]; try rfl) rfl ?_)
  exact RP.bad HE.out ⟨rfl, i, D, F, by omega, hrz⟩
end Go.Proofs.YtocpmbpckbjepaaDoor

/- Walk of one of the program's reader of mangled names, all (printed by gen_dg.py). -/
namespace Go.Proofs.YtocpmbpckbjepaaDoor
open Go.RowKit
set_option linter.unusedVariables false
set_option linter.unusedSimpArgs false
theorem nOne_next {s : ByteArray} {f : Nat} (H : nOneOk s f) (hf : f + 1 ≤ 12) : nOneOk s (f + 1) := by
  have HT := nTys_of H (by omega)
  have HN := nNam_of HT (by omega)
  intro B c mb D F i d w hBw htb hs hi hDi hd h
  by_cases h83 : s.data.toList[i]? = some 83
  · exact nOne_S hf B c mb D F i d w hBw htb hs hDi hd h h83
  by_cases h78 : s.data.toList[i]? = some 78
  · exact nOne_N HN hf B c mb D F i d w hBw htb hs hDi hd h h78
  by_cases h82 : s.data.toList[i]? = some 82
  · exact nOne_R H hf B c mb D F i d w hBw htb hs hDi hd h h82
  by_cases h76 : s.data.toList[i]? = some 76
  · exact nOne_L H hf B c mb D F i d w hBw htb hs hDi hd h h76
  by_cases h70 : s.data.toList[i]? = some 70
  · exact nOne_F HT hf B c mb D F i d w hBw htb hs hDi hd h h70
  exact nOne_no hf B c mb D F i d w hBw htb hs hi hDi hd h h83 h78 h82 h76 h70
theorem nOne_all (s : ByteArray) : ∀ f, f ≤ 12 → nOneOk s f
  | 0, _ => nOne_zero
  | f + 1, hf => nOne_next (nOne_all s f (by omega)) hf
theorem nTys_all (s : ByteArray) : nTysOk s 12 := nTys_of (nOne_all s 12 (Nat.le_refl _)) (Nat.le_refl _)
theorem nNam_all (s : ByteArray) : nNamOk s 12 := nNam_of (nTys_all s) (Nat.le_refl _)
end Go.Proofs.YtocpmbpckbjepaaDoor
