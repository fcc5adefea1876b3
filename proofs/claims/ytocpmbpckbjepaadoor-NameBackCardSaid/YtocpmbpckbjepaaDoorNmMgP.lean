/- Walk of the program's Mangle. -/
import Derived.Test.YtocpmbpckbjepaaDoorNmMgW
import Derived.Test.YtocpmbpckbjepaaDoorNmSymE
import Derived.Maps.OwnOps
namespace Go.Proofs.YtocpmbpckbjepaaDoor
open Go.RowKit
set_option linter.unusedVariables false
set_option linter.unusedSimpArgs false
theorem mAll : ∀ f, mOneOk f
  | 0 => mOne_zero
  | f + 1 => mOne_succ (mName_of (mList_of (mAll f))) (mList_of (mAll f))
set_option maxRecDepth 100000 in
set_option maxHeartbeats 4000000 in
theorem Mangle_bad (k : Nat) (s : Sym) (cs : List Value) (w : World) (hin : SymIn w k s cs) (h0 : (symE s).1 ≠ 0) :
    Calls Tryd.prog 6 #[.agg cs.toArray] w fun e w' => e = .returned (.tuple #[.string ⟨#[]⟩, .int .i64 (symE s).1]) ∧ Below w.heap.size w w' := by
  have hin0 := hin
  obtain ⟨A, n, c, A2, n2, c2, rfl, hn, hm, hn2, hm2, hl, hl2⟩ := hin
  have HA := hide ((Below.refl w.heap.size w).alloc (Nat.le_refl _) (.cells #[.slice A n c, .slice A2 n2 c2] 25))
  have CK := hide (Check_any k s _ (w.alloc (.cells #[.slice A n c, .slice A2 n2 c2] 25)) (hin0.up HA.out))
  obtain ⟨E, hE⟩ : ∃ E, (symE s).1 = E := ⟨_, rfl⟩
  rw [hE] at h0 CK ⊢
  have h0' : (E == 0) = false := by simpa using h0
  clear hl hl2 hin0 hE
  go_enter Tryd.func6, Tryd.ntmps6
  go_wp2_with (go_at_call 16; refine CK.out.mono ?_; rintro e w1 ⟨rfl, hw1⟩; have hB1 : Below w.heap.size w w1 := HA.out.trans (hw1.mono HA.out.size))
  go_ret2
  exact ⟨rfl, hB1⟩
/-- What Mangle hands back for a right symbol. -/
noncomputable def mgRes (s : Sym) : List UInt8 × Int := if 8000 < (mgSym s).length then ([], 4) else (mgSym s, 0)
set_option maxRecDepth 100000 in
set_option maxHeartbeats 8000000 in
theorem Mangle_ok (k : Nat) (s : Sym) (cs : List Value) (w : World) (hin : SymIn w k s cs) (h0 : (symE s).1 = 0) (h5 : (symE s).2 ≤ 500) (htb : Tab10 w.heap.size w) :
    Calls Tryd.prog 6 #[.agg cs.toArray] w fun e w' => e = .returned (.tuple #[.string ⟨(mgRes s).1.toArray⟩, .int .i64 (mgRes s).2]) ∧ Below w.heap.size w w' := by
  have hin0 := hin
  obtain ⟨A, n, c, A2, n2, c2, rfl, hn, hm, hn2, hm2, hl, hl2⟩ := hin
  obtain ⟨g1, g2, g3, g4, g5, g6⟩ := sym_good h0
  obtain ⟨t1, t2⟩ := sym_txt h0
  have HA := hide ((Below.refl w.heap.size w).alloc (Nat.le_refl _) (.cells #[.slice A n c, .slice A2 n2 c2] 25))
  have HX := hide (heap_alloc_new w (.cells #[.slice A n c, .slice A2 n2 c2] 25))
  have CK := hide (Check_any k s _ (w.alloc (.cells #[.slice A n c, .slice A2 n2 c2] 25)) (hin0.up HA.out))
  rw [h0] at CK
  have hnl := hl.len
  have hnl2 := hl2.len
  have HL := hide hl
  have HL2 := hide hl2
  have HTB := hide htb
  have hmm := @run_makeMap Tryd.prog
  have hPG : ∀ p ∈ s.name, textE p.1 = 0 ∧ p.1.size ≤ 60 ∧ p.2.length ≤ 20 ∧ ∀ x ∈ p.2, Good 12 x ∧ Txt 12 x := fun p hp => ⟨(t1 p hp).1, (g1 p hp).1, (g1 p hp).2.1, fun x hx => ⟨(g1 p hp).2.2 x hx, (t1 p hp).2 x hx⟩⟩
  have hTG : ∀ x ∈ s.takes, Good 12 x ∧ Txt 12 x := fun x hx => ⟨g4 x hx, t2 x hx⟩
  have d0 : DOk [] := ⟨List.nodup_nil, by simp⟩
  have hgr := fold_grew (c := fun p : Part => cntTys 12 p.2) (S := fun p x => ∃ y ∈ p.2, Sub y x) (G := fun p => textE p.1 = 0 ∧ p.1.size ≤ 60 ∧ ∀ x ∈ p.2, Good 12 x ∧ Txt 12 x) (fun p d hp hd => mgParts_grew (Nat.le_refl _) p d hp hd) s.name [] (fun p hp => ⟨(hPG p hp).1, (hPG p hp).2.1, (hPG p hp).2.2.2⟩) d0
  have hnlen := mgParts_len (Nat.le_refl 12) (fun t d ht hd hn => mgT_len 12 t d (Nat.le_refl _) ht hd hn) (l := s.name) (d := []) (fun p hp => ⟨(hPG p hp).1, (hPG p hp).2.1, (hPG p hp).2.2.2⟩) d0 (by simp; omega)
  have hdl : (mgFold (mgPart (mgT 12)) s.name []).2.length ≤ cntParts 12 s.name := by have := hgr.len; simp only [List.length_nil, Nat.zero_add] at this; exact this
  have HDO := hide hgr.ok
  have HPG := hide hPG
  have HTG := hide hTG
  have HD0 := hide d0
  obtain ⟨D1, hD1⟩ : ∃ x, (mgFold (mgPart (mgT 12)) s.name []).2 = x := ⟨_, rfl⟩
  have hN2 : (mgName (mgT 12) s.name []).2 = D1 := hD1
  have hN1 : (mgName (mgT 12) s.name []).1.length ≤ 800000 := by
    unfold mgName
    simp only [List.length_cons, List.length_append, List.length_nil]
    omega
  have htlen := mgTys_len (Nat.le_refl 12) (fun t d ht hd hn => mgT_len 12 t d (Nat.le_refl _) ht hd hn) (l := s.takes) (d := D1) hTG (hD1 ▸ hgr.ok) (by rw [hD1] at hdl; omega)
  rw [hD1] at hdl HDO
  have HSY := hide (show mgSym s = (⟨#[81]⟩ : ByteArray).data.toList ++ (mgName (mgT 12) s.name []).1 ++ (⟨#[]⟩ : ByteArray).data.toList ++ (mgFold (mgT 12) s.takes D1).1 ++ (⟨#[90]⟩ : ByteArray).data.toList by unfold mgSym; rw [hN2]; simp)
  have HN2 := hide hN2
  clear hl hl2 hin0 htb g1 g4 t1 t2 hPG hTG d0 hgr hD1 hN2
  go_enter Tryd.func6, Tryd.ntmps6
  go_wp2_with (go_at_call 16; refine CK.out.mono ?_; rintro e w1 ⟨rfl, hw1⟩; have HB1 := hide (HA.out.trans (hw1.mono HA.out.size)); have HX1 := hide (block_below HX.out hw1); clear hw1)
  obtain ⟨W2, hW2⟩ : ∃ x, (w1.alloc (.map #[] 0)).alloc (.cells #[.pointer none, .slice none 0 0, .map (some w1.heap.size)] 55) = x := ⟨_, rfl⟩
  have hz1 := HB1.out.size
  have hb2 : Below w1.heap.size w1 W2 := by rw [← hW2]; exact ((Below.refl _ _).alloc (Nat.le_refl _) _).alloc (by simp) _
  have g1 : W2.heap[w1.heap.size + 1]? = some (.cells #[.pointer none, .slice none 0 0, .map (some w1.heap.size)] 55 (0, 0)) := by
    rw [← hW2]
    have h := heap_alloc_new (w1.alloc (.map #[] 0)) (.cells #[.pointer none, .slice none 0 0, .map (some w1.heap.size)] 55)
    simpa using h
  have g2 : W2.ownsMap Tryd.prog 9 (plainElem Tryd.prog 3) w1.heap.size 0 (.map [] : DataW Unit) := by
    rw [← hW2]
    exact mapM_below (World.ownsMap_made w1 _ _ _) ((Below.refl _ _).alloc (Nat.le_refl _) _)
  have st0 : MgS w.heap.size (w1.heap.size + 1) w1.heap.size [] [] W2 := ⟨.inl ⟨by omega, .slice none 0 0, g1, World.ownsRow_nil _ _ _ _⟩, g2, hz1, by omega⟩
  have hz2 : w.heap.size ≤ W2.heap.size := Nat.le_trans hz1 hb2.size
  have HX2 := hide (block_below HX1.out hb2)
  have HBW := hide (HB1.out.trans (hb2.mono hz1))
  obtain ⟨b, hb⟩ : ∃ q, w1.heap.size + 1 = q := ⟨_, rfl⟩
  obtain ⟨mb, hmb⟩ : ∃ q, w1.heap.size = q := ⟨_, rfl⟩
  have hnb : w.heap.size ≠ b := by have := HA.out.size; have := lt_of_block HX1.out; omega
  have hnm : w.heap.size ≠ mb := by have := lt_of_block HX1.out; omega
  rw [hW2]
  rw [hb, hmb] at st0
  rw [hb]
  have HS0 := hide (MgR.refl st0)
  clear hW2 g1 g2 st0 hb2 hmm hb hmb HX1 HB1
  go_wp2_with (first | (go_at_call 17; refine (mg_write HS0.out.st ⟨#[81]⟩ hz2 (by decide)).mono ?_; rintro e w3 ⟨rfl, hr⟩; have HR1 := hide (HS0.out.trans hr); have HX3 := hide (HR1.out.kept.cells HX2.out (by decide) hnb hnm); have HB3 := hide (HBW.out.trans HR1.out.be); have x0 : w3.cell? ⟨w.heap.size, 0, none⟩ = some (.slice A n c) := block_cell HX3.out 0; clear hr HS0) | (go_at_call 18; refine (mName_of (mList_of (mAll 12)) k A n c s.name w.heap.size b mb _ [] w3 hn hm (by omega) (parts_below HL.out HB3.out) HPG.out (Nat.le_refl _) HD0.out (by simp only [List.length_nil]; omega) (by omega) HR1.out.st (HTB.out.below HB3.out) HB3.out.size (by simp)).mono ?_; rintro e w4 ⟨rfl, hr⟩; rw [HN2.out] at hr; have HR2 := hide (HR1.out.trans hr); have HX4 := hide (HR2.out.kept.cells HX2.out (by decide) hnb hnm); have HB4 := hide (HBW.out.trans HR2.out.be); have x1 : w4.cell? ⟨w.heap.size, 1, none⟩ = some (.slice A2 n2 c2) := block_cell HX4.out 1; clear hr HR1) | (go_at_call 19; refine (mList_of (mAll 12) k A2 n2 c2 s.takes ⟨#[]⟩ ⟨#[90]⟩ w.heap.size b mb _ D1 w4 hn2 hm2 (by omega) (by decide) (by decide) (tys_below HL2.out HB4.out) HTG.out (Nat.le_refl _) HDO.out (by omega) (by omega) HR2.out.st (HTB.out.below HB4.out) HB4.out.size (by simp only [List.length_append, List.length_nil, List.length_singleton]; omega)).mono ?_; rintro e w5 ⟨rfl, hr⟩; have HR3 := hide (HR2.out.trans hr); clear hr HR2))
  have hne : mgSym s ≠ [] := by unfold mgSym; simp
  have HR4 := hide (show MgR w.heap.size b mb (mgSym s) _ W2 w5 from by rw [HSY.out]; simpa using HR3.out)
  obtain ⟨M, hM⟩ : ∃ x, mgSym s = x := ⟨_, rfl⟩
  rw [hM] at HR4 hne
  have HM := hide hM
  have hsz5 := HBW.out.trans HR4.out.be
  have HLE := hide (MLen_any w.heap.size b M _ w5 HR4.out.st.bld)
  have HST := hide (MString_any w.heap.size b M _ w5 HR4.out.st.bld hne)
  have HB5 := hide hsz5
  clear hM hsz5 HR3 HSY hne HR4
  by_cases hbig : 8000 < M.length
  · have hbi : (8000 : Int) < (M.length : Int) := by omega
    go_wp2_with (go_at_call 20; refine HLE.out.mono ?_; rintro e w' ⟨rfl, rfl⟩)
    go_ret2
    unfold mgRes
    rw [HM.out, if_pos hbig]
    exact ⟨rfl, HB5.out⟩
  · have hbi : ¬ (8000 : Int) < (M.length : Int) := by omega
    have hbi' : decide ((8000 : Int) < (M.length : Int)) = false := by simp; omega
    have hbi2 : decide (8000 < M.length) = false := by simp; omega
    go_wp2_with (first | (go_at_call 20; refine HLE.out.mono ?_; rintro e w' ⟨rfl, rfl⟩) | (go_at_call 21; refine HST.out.mono ?_; rintro e w6 ⟨rfl, hw6⟩))
    go_ret2
    unfold mgRes
    rw [HM.out, if_neg hbig]
    exact ⟨rfl, HB5.out.trans hw6⟩
end Go.Proofs.YtocpmbpckbjepaaDoor
