/- The law NameBack. -/
import Derived.Test.YtocpmbpckbjepaaDoorNmGB
import Derived.Test.YtocpmbpckbjepaaDoorNmGG
import Derived.Test.YtocpmbpckbjepaaDoorNmMgP
import Derived.Test.YtocpmbpckbjepaaDoorNmGP
import Derived.Test.YtocpmbpckbjepaaDoorNmGS
import Derived.Test.YtocpmbpckbjepaaDoorNmAwj
import Derived.Test.YtocpmbpckbjepaaDoorNmOpen
import Derived.Test.YtocpmbpckbjepaaDoorRows
import Derived.LaidMore
import Derived.Stop.LaidErr
import Derived.MakeChecks
namespace Go.Proofs.YtocpmbpckbjepaaDoor
open Go.RowKit
set_option linter.unusedVariables false
set_option linter.unusedSimpArgs false
theorem Tab10.upK {W W' : World} (h : Tab10 W.heap.size W) (hb : Below W.heap.size W W') : Tab10 W'.heap.size W' := ⟨(h.below hb).1, fun g hg => Nat.lt_of_lt_of_le (h.2 g hg) hb.size⟩
theorem ref_allocK (w : World) (o : Obj) : Below w.heap.size w (w.alloc o) := (Below.refl _ _).alloc (Nat.le_refl _) o
/- Plain law. -/
theorem dm_mgK {y : Sym} {M : ByteArray} (h : (symE y).1 = 0) (hM : M.data.toList = mgSym y) (hz : M.size ≤ 8000) : dmE M = 0 ∧ dmY M = y ∧ dmN M = 0 := by
  have hd := dSym_mg h [] (by rw [List.append_nil]; exact hM)
  rw [if_pos rfl] at hd
  unfold dmE dmY dmN
  rw [if_neg (by omega), if_neg (by omega), if_neg (by omega), hd]
  exact ⟨h, by simp only; exact if_pos h, rfl⟩
theorem dm_text {s : ByteArray} (h : dmE s = 0) : (symE (dmY s)).1 = 0 ∧ mgSym (dmY s) = s.data.toList ∧ s.size ≤ 8000 := by
  unfold dmE at h
  by_cases h0 : 8000 < s.size
  · rw [if_pos h0] at h; cases h
  · rw [if_neg h0] at h
    unfold dmY
    rw [if_neg h0]
    cases hd : dSym s with
    | bad e0 => rw [hd] at h; cases h
    | ok j y =>
      rw [hd] at h
      simp only at h ⊢
      rw [if_pos h]
      exact ⟨h, (dSym_bk hd).symm, by omega⟩
theorem ps_pr {y : Sym} {P : ByteArray} (h : (symE y).1 = 0) (hW : symW y = false) (hP : P.data.toList = prSym y) (hz : P.size ≤ 8000) : psS P = y ∧ psN P = 0 ∧ psE P = 0 := by
  unfold symW at hW
  rw [Bool.or_eq_false_iff] at hW
  exact ps_ok hz (pSym_pr h hW.1 hW.2 hP) h
theorem ps_text {s : ByteArray} (h : psE s = 0) : (symE (psS s)).1 = 0 ∧ symW (psS s) = false ∧ prSym (psS s) = s.data.toList ∧ s.size ≤ 8000 := by
  have h0 := h
  unfold psE at h0
  by_cases hz : 8000 < s.size
  · rw [if_pos hz] at h0; cases h0
  · rw [if_neg hz] at h0
    cases hd : pSym s with
    | bad e0 => rw [hd] at h0; cases h0
    | ok j y =>
      rw [hd] at h0
      simp only at h0
      obtain ⟨e1, _, _⟩ := ps_ok (by omega) hd h0
      obtain ⟨f1, f2, f3⟩ := pSym_bk hd
      rw [e1]
      exact ⟨h0, by unfold symW; rw [f2, f3]; rfl, f1.symm, by omega⟩
theorem str_of {s : ByteArray} {l : List UInt8} (h : l = s.data.toList) : (⟨l.toArray⟩ : ByteArray) = s := ByteArray.ext (Array.toList_inj.1 h)
/- What the calls answer. -/
section
variable {w : World} {s : Sym} {k : Nat} {cs : List Value}
theorem bk_mangle (hin : SymIn w k s cs) (htb : Tab10 w.heap.size w) : ∃ (M : ByteArray) (E : Int),
    (∀ W, Below w.heap.size w W → Calls Tryd.prog 6 #[.agg cs.toArray] W fun e w' => e = .returned (.tuple #[.string M, .int .i64 E]) ∧ Below W.heap.size W w') ∧
    (E = 0 → ∀ W, Below w.heap.size w W → Calls Tryd.prog 12 #[.string M] W fun e w' => ∃ (k' : Nat) (cs' : List Value), e = .returned (.tuple #[.agg cs'.toArray, .int .i64 0, .int .i64 0]) ∧ SymIn w' k' s cs' ∧ Below W.heap.size W w') := by
  by_cases h0 : (symE s).1 = 0
  · by_cases hz : (mgSym s).length ≤ 8000
    · refine ⟨⟨(mgSym s).toArray⟩, 0, fun W h => ?_, fun _ W h => ?_⟩
      · have := Mangle_ok k s cs W (hin.up h) h0 (symE_500 h0) (htb.upK h)
        rw [show mgRes s = (mgSym s, 0) from if_neg (by omega)] at this
        exact this
      · have hsz : (⟨(mgSym s).toArray⟩ : ByteArray).size ≤ 8000 := hz
        obtain ⟨e1, e2, e3⟩ := dm_mgK (M := ⟨(mgSym s).toArray⟩) h0 rfl hsz
        have := Demangle_any ⟨(mgSym s).toArray⟩ W (Nat.le_trans hsz (by decide)) (htb.upK h)
        rw [e1, e2, e3] at this
        exact this
    · refine ⟨⟨#[]⟩, 4, fun W h => ?_, fun h => absurd h (by decide)⟩
      have := Mangle_ok k s cs W (hin.up h) h0 (symE_500 h0) (htb.upK h)
      rw [show mgRes s = ([], 4) from if_pos (by omega)] at this
      exact this
  · exact ⟨⟨#[]⟩, _, fun W h => Mangle_bad k s cs W (hin.up h) h0, fun h => absurd h h0⟩
theorem bk_print (hin : SymIn w k s cs) : ∃ (P : ByteArray) (E : Int),
    (∀ W, Below w.heap.size w W → Calls Tryd.prog 14 #[.agg cs.toArray] W fun e w' => e = .returned (.tuple #[.string P, .int .i64 E]) ∧ Below W.heap.size W w') ∧
    (E = 0 → ∀ W, Calls Tryd.prog 15 #[.string P] W fun e w' => ∃ (k' : Nat) (cs' : List Value), e = .returned (.tuple #[.agg cs'.toArray, .int .i64 0, .int .i64 0]) ∧ SymIn w' k' s cs' ∧ Below W.heap.size W w') := by
  by_cases h0 : (symE s).1 = 0
  · by_cases hW : symW s = false
    · by_cases hz : 8000 < (prSym s).length
      · refine ⟨⟨#[]⟩, 4, fun W h => ?_, fun h => absurd h (by decide)⟩
        have := Print_ok k s cs W (hin.up h) h0 hW
        rw [if_pos hz] at this
        exact this
      · refine ⟨⟨(prSym s).toArray⟩, 0, fun W h => ?_, fun _ W => ?_⟩
        · have := Print_ok k s cs W (hin.up h) h0 hW
          rw [if_neg hz] at this
          exact this
        · have hsz : (⟨(prSym s).toArray⟩ : ByteArray).size ≤ 8000 := by show (prSym s).length ≤ 8000; omega
          obtain ⟨e1, e2, e3⟩ := ps_pr (P := ⟨(prSym s).toArray⟩) h0 hW rfl hsz
          refine (nParse_any ⟨(prSym s).toArray⟩ W (Nat.le_trans hsz (by decide))).mono ?_
          rintro e w' ⟨⟨A, n, q, A', n', q', he, hs⟩, hb⟩
          rw [e2, e3] at he
          rw [e1] at hs
          exact ⟨12, _, he, hs, hb⟩
    · exact ⟨⟨#[]⟩, 3, fun W h => Print_word k s cs W (hin.up h) h0 (by simpa using hW), fun h => absurd h (by decide)⟩
  · exact ⟨⟨#[]⟩, _, fun W h => Print_err k s cs W (hin.up h) _ rfl h0, fun h => absurd h h0⟩
theorem bk_dem (w : World) (t : ByteArray) (ht : t.size ≤ maxLen) (htb : Tab10 w.heap.size w) : ∃ (y : Sym) (N E : Int),
    (∀ W, Below w.heap.size w W → Calls Tryd.prog 12 #[.string t] W fun e w' => ∃ (k' : Nat) (cs' : List Value), e = .returned (.tuple #[.agg cs'.toArray, .int .i64 N, .int .i64 E]) ∧ SymIn w' k' y cs' ∧ Below W.heap.size W w') ∧
    (E = 0 → ∀ W k' cs', Below w.heap.size w W → SymIn W k' y cs' → Calls Tryd.prog 6 #[.agg cs'.toArray] W fun e w' => e = .returned (.tuple #[.string t, .int .i64 0]) ∧ Below W.heap.size W w') := by
  refine ⟨dmY t, dmN t, dmE t, fun W h => Demangle_any t W ht (htb.upK h), fun h0 W k' cs' h hin => ?_⟩
  obtain ⟨h1, h2, h3⟩ := dm_text h0
  have := Mangle_ok k' (dmY t) cs' W hin h1 (symE_500 h1) (htb.upK h)
  rw [show mgRes (dmY t) = (mgSym (dmY t), 0) from if_neg (by rw [h2, strL]; omega)] at this
  simp only [str_of h2] at this
  exact this
theorem bk_parse (t : ByteArray) (ht : t.size ≤ maxLen) : ∃ (y : Sym) (N E : Int),
    (∀ W, Calls Tryd.prog 15 #[.string t] W fun e w' => ∃ (k' : Nat) (cs' : List Value), e = .returned (.tuple #[.agg cs'.toArray, .int .i64 N, .int .i64 E]) ∧ SymIn w' k' y cs' ∧ Below W.heap.size W w') ∧
    (E = 0 → ∀ W k' cs', SymIn W k' y cs' → Calls Tryd.prog 14 #[.agg cs'.toArray] W fun e w' => e = .returned (.tuple #[.string t, .int .i64 0]) ∧ Below W.heap.size W w') := by
  refine ⟨psS t, psN t, psE t, fun W => ?_, fun h0 W k' cs' hin => ?_⟩
  · refine (nParse_any t W ht).mono ?_
    rintro e w' ⟨⟨A, n, q, A', n', q', he, hs⟩, hb⟩
    exact ⟨12, _, he, hs, hb⟩
  · obtain ⟨h1, h2, h3, h4⟩ := ps_text h0
    have := Print_ok k' (psS t) cs' W hin h1 h2
    rw [if_neg (by rw [h3, strL]; omega), str_of h3] at this
    exact this
end
theorem split0 {E : Int} {p : Prop} (h : E = 0 → p) : (E = 0 ∧ Hid p) ∨ (E == 0) = false := by
  by_cases h0 : E = 0
  · exact .inl ⟨h0, hide (h h0)⟩
  · exact .inr (by simpa using h0)
theorem same_symK (y : Sym) (k1 k2 : Nat) (cs1 cs2 : List Value) (W : World) (h1 : SymIn W k1 y cs1) (h2 : SymIn W k2 y cs2) :
    Calls Tryd.prog 13 #[.agg cs1.toArray, .agg cs2.toArray] W fun e w' => e = .returned (.bool true) ∧ Below W.heap.size W w' :=
  same_yes (rfl : y = y) ▸ Same_any (k1 + k2) y y cs1 cs2 W (h1.deep (by omega)) (h2.deep (by omega))
set_option maxRecDepth 100000 in
set_option maxHeartbeats 32000000 in
theorem NameBack_all (k : Nat) (s : Sym) (cs : List Value) (t : ByteArray) (w : World) (hin : SymIn w k s cs) (ht : t.size ≤ maxLen) (htb : Tab10 w.heap.size w) :
    Calls Tryd.prog 4 #[.agg cs.toArray, .string t] w fun e w' => e = .returned (.bool true) ∧ Below w.heap.size w w' := by
  obtain ⟨A, n, c, A2, n2, c2, rfl, hr⟩ := id hin
  obtain ⟨M, E1, hm1, hd1⟩ := bk_mangle hin htb
  obtain ⟨P, E2, hp1, ha1⟩ := bk_print hin
  obtain ⟨y3, N3, E3, hd3, hm3⟩ := bk_dem w t ht htb
  obtain ⟨y4, N4, E4, ha4, hp4⟩ := bk_parse t ht
  have HAW := hide (fun W (h : Below w.heap.size w W) => awakeName_any W (htb.upK h))
  have HM1 := hide hm1
  have HP1 := hide hp1
  have HD3 := hide hd3
  have HA4 := hide ha4
  have HSA := hide (same_symK s)
  have HIN := hide hin
  have HXB := hide (heap_alloc_new w (.cells #[.slice A n c, .slice A2 n2 c2] 25))
  have HB := hide (ref_allocK w (.cells #[.slice A n c, .slice A2 n2 c2] 25))
  unfold maxLen at ht
  clear hr hm1 hp1 hd3 ha4 hin htb
  rcases split0 hd1 with ⟨rfl, HD1⟩ | h1' <;> rcases split0 ha1 with ⟨rfl, HA1⟩ | h2' <;> rcases split0 hm3 with ⟨rfl, HM3⟩ | h3' <;> rcases split0 hp4 with ⟨rfl, HP4⟩ | h4' <;> clear hd1 ha1 hm3 hp4 <;>
    (go_enter Tryd.func4, Tryd.ntmps4
     go_wp2_with (first | (go_at_call 5; refine (HAW.out _ HB.out).mono ?_; rintro e w1 ⟨rfl, hw⟩; have HB := hide (HB.out.trans (hw.mono HB.out.size)); have HXB := hide (block_below HXB.out hw); have x0 := (block_cell HXB.out 0).trans rfl; have x1 := (block_cell HXB.out 1).trans rfl; clear hw HAW) | (go_at_call 6; refine (HM1.out _ HB.out).mono ?_; rintro e w2 ⟨rfl, hw⟩; have HB := hide (HB.out.trans (hw.mono HB.out.size)); have HXB := hide (block_below HXB.out hw); have x0 := (block_cell HXB.out 0).trans rfl; have x1 := (block_cell HXB.out 1).trans rfl; clear hw HM1) | (go_at_call 12; refine (HD1.out _ HB.out).mono ?_; rintro e w5 ⟨k5, cs5, rfl, hin5, hw⟩; obtain ⟨A5, n5, c5, A6, n6, c6, rfl, hr⟩ := id hin5; have HB := hide (HB.out.trans (hw.mono HB.out.size)); have HXB := hide (block_below HXB.out hw); have x0 := (block_cell HXB.out 0).trans rfl; have x1 := (block_cell HXB.out 1).trans rfl; have HI5 := hide (hin5.up (ref_allocK _ (.cells #[.slice A5 n5 c5, .slice A6 n6 c6] 25))); have HXN := hide (heap_alloc_new w5 (.cells #[.slice A5 n5 c5, .slice A6 n6 c6] 25)); have z0 := (block_cell HXN.out 0).trans rfl; have z1 := (block_cell HXN.out 1).trans rfl; have HB := hide (HB.out.alloc HB.out.size (.cells #[.slice A5 n5 c5, .slice A6 n6 c6] 25)); have HXB := hide (block_below HXB.out (ref_allocK w5 (.cells #[.slice A5 n5 c5, .slice A6 n6 c6] 25))); clear hw hr hin5 HD1) | (go_at_call 13; refine (HSA.out _ _ _ _ _ (HIN.out.up HB.out) HI5.out).mono ?_; rintro e w6 ⟨rfl, hw⟩; have HB := hide (HB.out.trans (hw.mono HB.out.size)); have HXB := hide (block_below HXB.out hw); have x0 := (block_cell HXB.out 0).trans rfl; have x1 := (block_cell HXB.out 1).trans rfl; clear hw HI5) | (go_at_call 14; refine (HP1.out _ HB.out).mono ?_; rintro e w7 ⟨rfl, hw⟩; have HB := hide (HB.out.trans (hw.mono HB.out.size)); have HXB := hide (block_below HXB.out hw); have x0 := (block_cell HXB.out 0).trans rfl; have x1 := (block_cell HXB.out 1).trans rfl; clear hw HP1) | (go_at_call 15; refine (HA1.out _).mono ?_; rintro e w5 ⟨k5, cs5, rfl, hin5, hw⟩; obtain ⟨A5, n5, c5, A6, n6, c6, rfl, hr⟩ := id hin5; have HB := hide (HB.out.trans (hw.mono HB.out.size)); have HXB := hide (block_below HXB.out hw); have x0 := (block_cell HXB.out 0).trans rfl; have x1 := (block_cell HXB.out 1).trans rfl; have HI5 := hide (hin5.up (ref_allocK _ (.cells #[.slice A5 n5 c5, .slice A6 n6 c6] 25))); have HXN := hide (heap_alloc_new w5 (.cells #[.slice A5 n5 c5, .slice A6 n6 c6] 25)); have z0 := (block_cell HXN.out 0).trans rfl; have z1 := (block_cell HXN.out 1).trans rfl; have HB := hide (HB.out.alloc HB.out.size (.cells #[.slice A5 n5 c5, .slice A6 n6 c6] 25)); have HXB := hide (block_below HXB.out (ref_allocK w5 (.cells #[.slice A5 n5 c5, .slice A6 n6 c6] 25))); clear hw hr hin5 HA1) | (go_at_call 12; refine (HD3.out _ HB.out).mono ?_; rintro e w5 ⟨k5, cs5, rfl, hin5, hw⟩; obtain ⟨A5, n5, c5, A6, n6, c6, rfl, hr⟩ := id hin5; have HB := hide (HB.out.trans (hw.mono HB.out.size)); have HXB := hide (block_below HXB.out hw); have x0 := (block_cell HXB.out 0).trans rfl; have x1 := (block_cell HXB.out 1).trans rfl; have HI5 := hide (hin5.up (ref_allocK _ (.cells #[.slice A5 n5 c5, .slice A6 n6 c6] 25))); have HXN := hide (heap_alloc_new w5 (.cells #[.slice A5 n5 c5, .slice A6 n6 c6] 25)); have z0 := (block_cell HXN.out 0).trans rfl; have z1 := (block_cell HXN.out 1).trans rfl; have HB := hide (HB.out.alloc HB.out.size (.cells #[.slice A5 n5 c5, .slice A6 n6 c6] 25)); have HXB := hide (block_below HXB.out (ref_allocK w5 (.cells #[.slice A5 n5 c5, .slice A6 n6 c6] 25))); clear hw hr hin5 HD3) | (go_at_call 6; refine (HM3.out _ _ _ HB.out HI5.out).mono ?_; rintro e w2 ⟨rfl, hw⟩; have HB := hide (HB.out.trans (hw.mono HB.out.size)); have HXB := hide (block_below HXB.out hw); have x0 := (block_cell HXB.out 0).trans rfl; have x1 := (block_cell HXB.out 1).trans rfl; clear hw HM3 HI5) | (go_at_call 15; refine (HA4.out _).mono ?_; rintro e w5 ⟨k5, cs5, rfl, hin5, hw⟩; obtain ⟨A5, n5, c5, A6, n6, c6, rfl, hr⟩ := id hin5; have HB := hide (HB.out.trans (hw.mono HB.out.size)); have HXB := hide (block_below HXB.out hw); have x0 := (block_cell HXB.out 0).trans rfl; have x1 := (block_cell HXB.out 1).trans rfl; have HI5 := hide (hin5.up (ref_allocK _ (.cells #[.slice A5 n5 c5, .slice A6 n6 c6] 25))); have HXN := hide (heap_alloc_new w5 (.cells #[.slice A5 n5 c5, .slice A6 n6 c6] 25)); have z0 := (block_cell HXN.out 0).trans rfl; have z1 := (block_cell HXN.out 1).trans rfl; have HB := hide (HB.out.alloc HB.out.size (.cells #[.slice A5 n5 c5, .slice A6 n6 c6] 25)); have HXB := hide (block_below HXB.out (ref_allocK w5 (.cells #[.slice A5 n5 c5, .slice A6 n6 c6] 25))); clear hw hr hin5 HA4) | (go_at_call 14; refine (HP4.out _ _ _ HI5.out).mono ?_; rintro e w7 ⟨rfl, hw⟩; have HB := hide (HB.out.trans (hw.mono HB.out.size)); have HXB := hide (block_below HXB.out hw); have x0 := (block_cell HXB.out 0).trans rfl; have x1 := (block_cell HXB.out 1).trans rfl; clear hw HP4 HI5))
     go_ret
     exact ⟨rfl, HB.out⟩)
theorem tab_ltK {w : World} {name : String} {k : IntKind} {zs : List Int} {g : Nat} (h : Lib.TabIs Tryd.prog w name k zs) (hg : Tryd.prog.globalNamed name = some g) : g < w.heap.size := by
  unfold Lib.TabIs World.var? at h
  rw [hg] at h
  simp only [Option.bind_some] at h
  split at h
  · rename_i cs e fr hb; exact lt_of_block hb
  · cases h
theorem tab10_ofK {W : World} (hL : laidMetH Tryd.prog Rows.nameBackRow.laid W) : Tab10 W.heap.size W := by
  rw [MakeChecks.laidMetH_plain _ _ _ (by kernel_rfl)] at hL
  have h : Lib.TabIs Tryd.prog W "internal/strconv.uint64pow10" .u64 Lib.pow10Tab :=
    Lib.tabIs_of_head (n := 20) (t := 139) (e := 131) (g := 0) (by kernel_rfl) (by kernel_rfl) (by kernel_rfl) (by kernel_rfl) (by kernel_rfl) (by kernel_rfl) (laidMet.tail (laidMet.tail hL))
  exact ⟨h, fun g hg => tab_ltK h hg⟩
namespace nameBack
set_option maxRecDepth 100000 in
theorem walk {H : Type} {enc : TypeId × Value → H} {d0 : DataW H} {p0 : List MemPlace} {base : Nat} {W : World}
    (v0 : Value) (k0 : DataW.Trod enc Tryd.prog W 0 (fun _ => true) true 25 v0 d0 p0) (ok0 : Value.okWide Tryd.prog W .any base 25 v0) (t : ByteArray) (ht : t.size ≤ reachBytes)
    (hL : laidMetH Tryd.prog Rows.nameBackRow.laid W) :
    Calls Tryd.prog 4 #[v0, .string t] W fun e w' => e = .returned (.bool true) ∧ Below W.heap.size W w' := by
  obtain ⟨ka, a, ca, rfl, ha⟩ := open_sym ok0 k0
  exact NameBack_all _ a ca t W ha (Nat.le_trans ht (by decide)) (tab10_ofK hL)
end nameBack
end Go.Proofs.YtocpmbpckbjepaaDoor
