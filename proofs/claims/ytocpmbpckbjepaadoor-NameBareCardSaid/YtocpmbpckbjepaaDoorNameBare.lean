/- The law NameBare. -/
import Derived.Test.YtocpmbpckbjepaaDoorNmBrL
import Derived.Test.YtocpmbpckbjepaaDoorNmFam
import Derived.Test.YtocpmbpckbjepaaDoorNmBares
import Derived.Test.YtocpmbpckbjepaaDoorNmMgP
import Derived.Test.YtocpmbpckbjepaaDoorNmOpen
import Derived.Test.YtocpmbpckbjepaaDoorNmFmQ
import Derived.Test.YtocpmbpckbjepaaDoorNmAwk
import Derived.Test.YtocpmbpckbjepaaDoorRows
import Derived.LaidMore
import Derived.Stop.LaidErr
import Derived.MakeChecks
namespace Go.Proofs.YtocpmbpckbjepaaDoor
open Go.RowKit
set_option linter.unusedVariables false
set_option linter.unusedSimpArgs false
theorem symE_500 {s : Sym} (h : (symE s).1 = 0) : (symE s).2 ≤ 500 := by
  have h0 := h
  unfold symE at h0
  by_cases h1 : (chkName (chkTy 12) s.name 0).1 = 0
  · rw [if_neg (by simpa using h1)] at h0
    have a := chkName_le (chkTy_le 12) s.name 0 (by decide) h1
    have b := chkList_le (chkTy_le 12) 20 s.takes _ a h0
    have hs : (symE s).2 = (chkList (chkTy 12) 20 s.takes (chkName (chkTy 12) s.name 0).2).2 := by unfold symE; rw [if_neg (by simpa using h1)]
    omega
  · rw [if_pos h1] at h0; exact absurd h0 h1
/-- Four new strings, read as a list. -/
theorem sl_four (w : World) (a b c d : ByteArray) : Sl (w.alloc (.cells #[.string a, .string b, .string c, .string d] 9)) (w.alloc (.cells #[.string a, .string b, .string c, .string d] 9)).heap.size cs 1 (some ⟨w.heap.size, 0, none⟩) 4 [a, b, c, d] := by
  have hX := heap_alloc_new w (.cells #[.string a, .string b, .string c, .string d] 9)
  refine ⟨rfl, fun _ => ⟨w.heap.size, 0, rfl, by simp, fun i x hx j v hv => ?_⟩⟩
  have hi := (List.getElem?_eq_some_iff.1 hx).1
  have hj := (List.getElem?_eq_some_iff.1 hv).1
  simp only [cs, List.length_cons, List.length_nil] at hi hj
  obtain rfl : j = 0 := by omega
  have hv : Value.string x = v := by simpa [cs] using hv
  subst hv
  refine (block_cell hX _).trans ?_
  rcases (show i = 0 ∨ i = 1 ∨ i = 2 ∨ i = 3 by omega) with rfl | rfl | rfl | rfl <;> simp at hx ⊢ <;> exact hx
set_option maxRecDepth 100000 in
set_option maxHeartbeats 8000000 in
theorem NameBare_ok (k : Nat) (s : Sym) (A : Option Addr) (n c : Nat) (A2 : Option Addr) (n2 c2 : Nat) (w : World) (hin : SymIn w k s [.slice A n c, .slice A2 n2 c2]) (h0 : (symE s).1 = 0) (hz : (mgSym s).length ≤ 8000) (htb : Tab10 w.heap.size w) :
    Calls Tryd.prog 3 #[.agg #[.slice A n c, .slice A2 n2 c2]] w fun e w' => e = .returned (.bool true) ∧ Below w.heap.size w w' := by
  have hb := bare_chkB h0
  have hb0 : (symE (bareS s)).1 = 0 := by rw [hb]
  have hbl := bare_lenB h0
  obtain ⟨M, hM⟩ : ∃ M : ByteArray, (⟨(mgSym s).toArray⟩ : ByteArray) = M := ⟨_, rfl⟩
  obtain ⟨K, hK⟩ : ∃ K : ByteArray, (⟨(mgSym (bareS s)).toArray⟩ : ByteArray) = K := ⟨_, rfl⟩
  have hM' : M.data.toList = mgSym s := by rw [← hM]
  have hK' : K.data.toList = mgSym (bareS s) := by rw [← hK]
  have hMz : M.size ≤ 8000 := by rw [← strL, hM']; exact hz
  have hKz : K.size ≤ 8000 := by rw [← strL, hK']; omega
  have hZz : (M ++ (⟨#[90]⟩ : ByteArray) : ByteArray).size ≤ 8001 := by rw [ByteArray.size_append]; show M.size + 1 ≤ 8001; omega
  have hm1 : mgRes s = (mgSym s, 0) := if_neg (by omega)
  have hm2 : mgRes (bareS s) = (mgSym (bareS s), 0) := if_neg (by omega)
  obtain ⟨q1, q2, q3⟩ := sh_three h0 hM' hMz hK'
  obtain ⟨S, hS⟩ : ∃ S, shL s.name = S := ⟨_, rfl⟩
  rw [hS] at q1 q2
  have hf := fam_four h0 hM' hMz hK'
  have up := fun (W : World) (h : Below w.heap.size w W) => htb.upF h
  have HAW := hide (fun W (h : Below w.heap.size w W) => awakeName_any W (up W h))
  have HMG := hide (fun W (h : Below w.heap.size w W) => show Calls Tryd.prog 6 #[.agg #[.slice A n c, .slice A2 n2 c2]] W fun e w' => e = .returned (.tuple #[.string M, .int .i64 0]) ∧ Below W.heap.size W w' from by
    have := Mangle_ok k s _ W (hin.up h) h0 (symE_500 h0) (up W h)
    rw [hm1] at this
    simp only [hM] at this
    exact this)
  have HBA := hide (fun W (h : Below w.heap.size w W) => Bare_ok k s _ W (hin.up h) h0)
  have HTY := hide (fun W cs (h : SymIn W k (bareS s) cs) => show Calls Tryd.prog 8 #[.agg cs.toArray] W fun e w' => e = .returned (.tuple #[.int .i64 0, .int .i64 0]) ∧ Below W.heap.size W w' from by
    have := Types_any k (bareS s) cs W h
    rw [show symN (bareS s) = 0 by unfold symN; rw [hb]; rfl, hb0] at this
    exact this)
  have HMK := hide (fun W cs (hB : Below w.heap.size w W) (h : SymIn W k (bareS s) cs) => show Calls Tryd.prog 6 #[.agg cs.toArray] W fun e w' => e = .returned (.tuple #[.string K, .int .i64 0]) ∧ Below W.heap.size W w' from by
    have := Mangle_ok k (bareS s) cs W h hb0 (by rw [hb]; decide) (up W hB)
    rw [hm2] at this
    simp only [hK] at this
    exact this)
  have HFA := hide (fun (W : World) (h : Below w.heap.size w (W.alloc (.cells #[.string M, .string K, .string (M ++ (⟨#[90]⟩ : ByteArray)), .string (M ++ (⟨#[90]⟩ : ByteArray))] 9))) => hf ▸ Families_any (some ⟨W.heap.size, 0, none⟩) 4 4 [M, K, M ++ (⟨#[90]⟩ : ByteArray), M ++ (⟨#[90]⟩ : ByteArray)] (W.alloc (.cells #[.string M, .string K, .string (M ++ (⟨#[90]⟩ : ByteArray)), .string (M ++ (⟨#[90]⟩ : ByteArray))] 9)) (by decide) (sl_four W _ _ _ _) (fun x hx => by
    have hr : 8001 ≤ reachBytes := by unfold reachBytes; decide
    simp only [List.mem_cons, List.not_mem_nil, or_false] at hx
    rcases hx with rfl | rfl | rfl | rfl <;> omega) (up _ h))
  have hml : ∀ {x : ByteArray}, x.size ≤ 8001 → x.size ≤ maxLen := fun h => Nat.le_trans h (by decide)
  have HS1 := hide (fun W (h : Below w.heap.size w W) => q1 ▸ Short_any M W (hml (by omega)) (up W h))
  have HS2 := hide (fun W (h : Below w.heap.size w W) => q2 ▸ Short_any K W (hml (by omega)) (up W h))
  have HS3 := hide (fun W (h : Below w.heap.size w W) => show Calls Tryd.prog 10 #[.string (M ++ (⟨#[90]⟩ : ByteArray))] W fun e w' => e = .returned (.string (M ++ (⟨#[90]⟩ : ByteArray))) ∧ Below W.heap.size W w' from by
    have := Short_any (M ++ (⟨#[90]⟩ : ByteArray)) W (hml hZz) (up W h)
    rw [q3] at this
    exact this)
  have HQ := hide (fun A c A' c' x W h h' => Equal_row A 2 c A' c' x W (by decide) h h')
  have HX := hide (heap_alloc_new w (.cells #[.slice A n c, .slice A2 n2 c2] 25))
  clear hf q1 q2 q3 hS hm1 hm2 hM hK hM' hK' hb hb0 h0 hbl up hin htb hml
  go_enter Tryd.func3, Tryd.ntmps3
  go_wp2_with (first | (go_at_call 5; refine (HAW.out _ (ref_alloc _ _)).mono ?_; rintro e w1 ⟨rfl, hw1⟩; have HB1 := hide ((ref_alloc w (.cells #[.slice A n c, .slice A2 n2 c2] 25)).trans (hw1.mono (by simp))); have HX1 := hide (block_below HX.out hw1); have x0 : w1.cell? ⟨w.heap.size, 0, none⟩ = some (.slice A n c) := (block_cell HX1.out 0).trans rfl; have x1 : w1.cell? ⟨w.heap.size, 1, none⟩ = some (.slice A2 n2 c2) := (block_cell HX1.out 1).trans rfl; clear hw1 HAW) | (go_at_call 6; refine (HMG.out _ HB1.out).mono ?_; rintro e w2 ⟨rfl, hw2⟩; have HB2 := hide (HB1.out.trans (hw2.mono HB1.out.size)); have HX2 := hide (block_below HX1.out hw2); have y0 : w2.cell? ⟨w.heap.size, 0, none⟩ = some (.slice A n c) := (block_cell HX2.out 0).trans rfl; have y1 : w2.cell? ⟨w.heap.size, 1, none⟩ = some (.slice A2 n2 c2) := (block_cell HX2.out 1).trans rfl; clear hw2 HMG) | (go_at_call 7; refine (HBA.out _ HB2.out).mono ?_; rintro e w3 ⟨⟨A7, n7, c7, rfl, hin7⟩, hw3⟩; have HB3 := hide ((HB2.out.trans (hw3.mono HB2.out.size)).alloc (HB2.out.trans (hw3.mono HB2.out.size)).size (.cells #[.slice A7 n7 c7, .slice none 0 0] 25)); have HX3 := hide (heap_alloc_new w3 (.cells #[.slice A7 n7 c7, .slice none 0 0] 25)); have HI3 := hide (hin7.up (ref_alloc w3 (.cells #[.slice A7 n7 c7, .slice none 0 0] 25))); have z0 := (block_cell HX3.out 0).trans rfl; have z1 := (block_cell HX3.out 1).trans rfl; clear hw3 hin7 HBA) | (go_at_call 8; refine (HTY.out _ _ HI3.out).mono ?_; rintro e w4 ⟨rfl, hw4⟩; have HB4 := hide (HB3.out.trans (hw4.mono HB3.out.size)); have HX4 := hide (block_below HX3.out hw4); have HI4 := hide (HI3.out.up hw4); have v0 := (block_cell HX4.out 0).trans rfl; have v1 := (block_cell HX4.out 1).trans rfl; clear hw4 HTY) | (go_at_call 6; refine (HMK.out _ _ HB4.out HI4.out).mono ?_; rintro e w5 ⟨rfl, hw5⟩; have HB5 := hide ((HB4.out.trans (hw5.mono HB4.out.size)).alloc (HB4.out.trans (hw5.mono HB4.out.size)).size (.cells #[.string M, .string K, .string (M ++ (⟨#[90]⟩ : ByteArray)), .string (M ++ (⟨#[90]⟩ : ByteArray))] 9)); clear hw5 HMK) | (go_at_call 9; refine (HFA.out _ HB5.out).mono ?_; rintro e w6 ⟨⟨fv, fs, rfl, hF6⟩, hw6⟩; have HB6 := hide (HB5.out.trans (hw6.mono HB5.out.size)); have HF6 := hide hF6; obtain ⟨va, vc, rfl⟩ := two_sl hF6; clear hw6 hF6 HFA) | (go_at_call 10; refine (HS1.out _ HB6.out).mono ?_; rintro e w7 ⟨rfl, hw7⟩; have HB7 := hide (HB6.out.trans (hw7.mono HB6.out.size)); have HF7 := hide (HF6.out.below hw7); clear hw7 HS1) | (go_at_call 10; refine (HS2.out _ HB7.out).mono ?_; rintro e w8 ⟨rfl, hw8⟩; have HB8 := hide (HB7.out.trans (hw8.mono HB7.out.size)); have HF8 := hide (HF7.out.below hw8); clear hw8 HS2) | (go_at_call 10; refine (HS3.out _ HB8.out).mono ?_; rintro e w9 ⟨rfl, hw9⟩; have hb9 := HB8.out.trans (hw9.mono HB8.out.size); have HB9 := hide (hb9.alloc hb9.size (.cells #[.int .i64 0, .int .i64 1] 3)); obtain ⟨g, b0, d0, b1, d1, hva, hg, e0, e1, hs0, hs1⟩ := two_rows (HF8.out.below hw9); obtain rfl := hva; have HR0 := hide ((hs0.below (ref_alloc w9 (.cells #[.int .i64 0, .int .i64 1] 3))).more (ref_alloc w9 (.cells #[.int .i64 0, .int .i64 1] 3)).size); have HN9 := hide (sl_pair w9 0 1); have HE1 := hide e1; have HS91 := hide hs1; clear hw9 HS3 hs0 hs1 hb9 e1) | (go_at_call 11; refine (HQ.out _ _ _ _ _ _ HR0.out HN9.out).mono ?_; rintro e wa ⟨rfl, hwa⟩; have hba := HB9.out.trans (hwa.mono HB9.out.size); have HBA := hide (hba.alloc hba.size (.cells #[.int .i64 2, .int .i64 3] 3)); have hbq := (ref_alloc w9 (.cells #[.int .i64 0, .int .i64 1] 3)).trans (hwa.mono (by simp)); have e1 : wa.cell? ⟨g, 1, none⟩ = some (.slice b1 2 d1) := (hbq.cell (p := ⟨g, 1, none⟩) hg).trans HE1.out; have hsa := (HS91.out.below hbq).more hbq.size; have HR1 := hide ((hsa.below (ref_alloc wa (.cells #[.int .i64 2, .int .i64 3] 3))).more (ref_alloc wa (.cells #[.int .i64 2, .int .i64 3] 3)).size); have HNA := hide (sl_pair wa 2 3); clear hwa hba hbq hsa HN9) | (go_at_call 11; refine (HQ.out _ _ _ _ _ _ HR1.out HNA.out).mono ?_; rintro e wb ⟨rfl, hwb⟩; have HBZ := hide (HBA.out.trans (hwb.mono HBA.out.size)); clear hwb HNA))
  go_ret
  exact ⟨rfl, HBZ.out⟩
set_option maxHeartbeats 4000000 in
theorem NameBare_no (A : Option Addr) (n c : Nat) (A2 : Option Addr) (n2 c2 : Nat) (w : World) (E : Int) (h0 : E ≠ 0) (htb : Tab10 w.heap.size w)
    (hm : ∀ W, Below w.heap.size w W → Calls Tryd.prog 6 #[.agg #[.slice A n c, .slice A2 n2 c2]] W fun e w' => e = .returned (.tuple #[.string ⟨#[]⟩, .int .i64 E]) ∧ Below W.heap.size W w') :
    Calls Tryd.prog 3 #[.agg #[.slice A n c, .slice A2 n2 c2]] w fun e w' => e = .returned (.bool true) ∧ Below w.heap.size w w' := by
  have h0' : (E == 0) = false := by simpa using h0
  have HAW := hide (fun W (h : Below w.heap.size w W) => awakeName_any W (htb.upF h))
  have HMG := hide hm
  have HX := hide (heap_alloc_new w (.cells #[.slice A n c, .slice A2 n2 c2] 25))
  clear hm htb
  go_enter Tryd.func3, Tryd.ntmps3
  go_wp2_with (first | (go_at_call 5; refine (HAW.out _ (ref_alloc _ _)).mono ?_; rintro e w1 ⟨rfl, hw1⟩; have HB1 := hide ((ref_alloc w (.cells #[.slice A n c, .slice A2 n2 c2] 25)).trans (hw1.mono (by simp))); have HX1 := hide (block_below HX.out hw1); have x0 : w1.cell? ⟨w.heap.size, 0, none⟩ = some (.slice A n c) := (block_cell HX1.out 0).trans rfl; have x1 : w1.cell? ⟨w.heap.size, 1, none⟩ = some (.slice A2 n2 c2) := (block_cell HX1.out 1).trans rfl; clear hw1 HAW) | (go_at_call 6; refine (HMG.out _ HB1.out).mono ?_; rintro e w2 ⟨rfl, hw2⟩; have HB2 := hide (HB1.out.trans (hw2.mono HB1.out.size)); have HX2 := hide (block_below HX1.out hw2); have y0 : w2.cell? ⟨w.heap.size, 0, none⟩ = some (.slice A n c) := (block_cell HX2.out 0).trans rfl; have y1 : w2.cell? ⟨w.heap.size, 1, none⟩ = some (.slice A2 n2 c2) := (block_cell HX2.out 1).trans rfl; clear hw2 HMG))
  go_ret
  exact ⟨by simp, HB2.out⟩
theorem NameBare_all (k : Nat) (s : Sym) (cs : List Value) (w : World) (hin : SymIn w k s cs) (htb : Tab10 w.heap.size w) :
    Calls Tryd.prog 3 #[.agg cs.toArray] w fun e w' => e = .returned (.bool true) ∧ Below w.heap.size w w' := by
  obtain ⟨A, n, c, A2, n2, c2, rfl, hr⟩ := id hin
  by_cases h0 : (symE s).1 = 0
  · by_cases hz : (mgSym s).length ≤ 8000
    · exact NameBare_ok k s A n c A2 n2 c2 w hin h0 hz htb
    · refine NameBare_no A n c A2 n2 c2 w 4 (by decide) htb fun W h => ?_
      have := Mangle_ok k s _ W (hin.up h) h0 (symE_500 h0) (htb.upF h)
      rw [show mgRes s = ([], 4) from if_pos (by omega)] at this
      exact this
  · exact NameBare_no A n c A2 n2 c2 w _ h0 htb fun W h => Mangle_bad k s _ W (hin.up h) h0
theorem tab_ltB {w : World} {name : String} {k : IntKind} {zs : List Int} {g : Nat} (h : Lib.TabIs Tryd.prog w name k zs) (hg : Tryd.prog.globalNamed name = some g) : g < w.heap.size := by
  unfold Lib.TabIs World.var? at h
  rw [hg] at h
  simp only [Option.bind_some] at h
  split at h
  · rename_i cs e fr hb; exact lt_of_block hb
  · cases h
theorem tab10_ofB {W : World} (hL : laidMetH Tryd.prog Rows.nameBareRow.laid W) : Tab10 W.heap.size W := by
  rw [MakeChecks.laidMetH_plain _ _ _ (by kernel_rfl)] at hL
  have h : Lib.TabIs Tryd.prog W "internal/strconv.uint64pow10" .u64 Lib.pow10Tab :=
    Lib.tabIs_of_head (n := 20) (t := 139) (e := 131) (g := 0) (by kernel_rfl) (by kernel_rfl) (by kernel_rfl) (by kernel_rfl) (by kernel_rfl) (by kernel_rfl) (laidMet.tail (laidMet.tail hL))
  exact ⟨h, fun g hg => tab_ltB h hg⟩
namespace nameBare
set_option maxRecDepth 100000 in
theorem walk {H : Type} {enc : TypeId × Value → H} {d0 : DataW H} {p0 : List MemPlace} {base : Nat} {W : World}
    (v0 : Value) (k0 : DataW.Trod enc Tryd.prog W 0 (fun _ => true) true 25 v0 d0 p0) (ok0 : Value.okWide Tryd.prog W .any base 25 v0)
    (hL : laidMetH Tryd.prog Rows.nameBareRow.laid W) :
    Calls Tryd.prog 3 #[v0] W fun e w' => e = .returned (.bool true) ∧ Below W.heap.size W w' := by
  obtain ⟨ka, a, ca, rfl, ha⟩ := open_sym ok0 k0
  exact NameBare_all _ a ca W ha (tab10_ofB hL)
end nameBare
end Go.Proofs.YtocpmbpckbjepaaDoor
