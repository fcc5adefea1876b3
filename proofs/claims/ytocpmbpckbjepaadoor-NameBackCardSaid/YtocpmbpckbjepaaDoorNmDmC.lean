/- Walks of digits and ident of the program's reader of mangled names (printed by gen_db.py). -/
import Derived.Test.YtocpmbpckbjepaaDoorNmDmB
import Derived.Test.YtocpmbpckbjepaaDoorNmGA
import Derived.BigQuiet
namespace Go.Proofs.YtocpmbpckbjepaaDoor
open Go.RowKit
set_option linter.unusedVariables false
set_option linter.unusedSimpArgs false
theorem dgs_is {s : ByteArray} {i x : Nat} (hix : i ≤ x) (hx : x ≤ s.size) (h1 : ∀ j, i ≤ j → j < x → ∀ d, s.data.toList[j]? = some d → digB d = true) (h2 : ∀ d, s.data.toList[x]? = some d → digB d = false) : dgs s i = (s.extract i x).data.toList ∧ (dgs s i).length = x - i := by
  have e := ext_toL s i (x - i) (by omega)
  rw [show i + (x - i) = x by omega] at e
  have e2 : dgs s i = (s.data.toList.drop i).take (x - i) := by
    unfold dgs
    conv => lhs; rw [← List.take_append_drop (x - i) (s.data.toList.drop i)]
    rw [List.takeWhile_append_of_pos, List.drop_drop, show i + (x - i) = x by omega]
    · have : (s.data.toList.drop x).takeWhile digB = [] := by
        cases hd : s.data.toList.drop x with
        | nil => rfl
        | cons a l =>
          have ha : s.data.toList[x]? = some a := by
            have := List.getElem?_drop (xs := s.data.toList) (i := x) (j := 0)
            rw [hd] at this; simpa using this.symm
          rw [List.takeWhile_cons, h2 a ha]; rfl
      rw [this, List.append_nil]
    · intro a ha
      obtain ⟨k, hk, rfl⟩ := List.mem_iff_getElem.1 ha
      rw [List.length_take, List.length_drop] at hk
      refine h1 (i + k) (by omega) (by omega) _ ?_
      rw [List.getElem_take, List.getElem_drop]
      exact List.getElem?_eq_getElem _
  rw [e2, e]
  refine ⟨rfl, ?_⟩
  rw [List.length_take, List.length_drop, str_len]
  omega
theorem idN_is {s : ByteArray} {j n k : Nat} (hn : j + n ≤ s.size) (hk : k ≤ n) (h1 : ∀ m, m < k → ∀ c, s.data.toList[j + m]? = some c → okId m c = true) (h2 : k < n → ∀ c, s.data.toList[j + k]? = some c → okId k c = false) : idN s j n = k := by
  unfold idN
  have hg : ∀ m, m < n → ((s.data.toList.drop j).take n)[m]? = s.data.toList[j + m]? := fun m hm => by
    rw [List.getElem?_take, if_pos hm, List.getElem?_drop]
  refine idK_is _ 0 k (by rw [List.length_take, List.length_drop, str_len]; omega) (fun m c hm hc => ?_) (fun c hc => ?_)
  · rw [hg m (by omega)] at hc; rw [Nat.zero_add]; exact h1 m hm c hc
  · by_cases hkn : k < n
    · rw [hg k hkn] at hc; rw [Nat.zero_add]; exact h2 hkn c hc
    · rw [List.getElem?_eq_none (by rw [List.length_take]; omega)] at hc; cases hc
theorem okId_getD {s : ByteArray} {j i : Nat} (h : j < s.size) : (∀ c, s.data.toList[j]? = some c → okId i c = okId i s[j]) := fun c hc => by rw [str_get s j h] at hc; cases hc; rfl
/-- What holds of what a reader answers. -/
def RP {α : Type} (r : Res α) (b : Nat → Prop) (o : Nat → α → Prop) : Prop := match r with
  | .bad e => b e
  | .ok j x => o j x
theorem RP.bad {α : Type} {r : Res α} {b : Nat → Prop} {o : Nat → α → Prop} {e : Nat} (h : r = .bad e) (hb : b e) : RP r b o := by subst h; exact hb
theorem RP.ok {α : Type} {r : Res α} {b : Nat → Prop} {o : Nat → α → Prop} {j : Nat} {x : α} (h : r = .ok j x) (ho : o j x) : RP r b o := by subst h; exact ho
theorem RP.of_bad {α : Type} {r : Res α} {b : Nat → Prop} {o : Nat → α → Prop} {e : Nat} (hr : RP r b o) (h : r = .bad e) : b e := by subst h; exact hr
theorem RP.of_ok {α : Type} {r : Res α} {b : Nat → Prop} {o : Nat → α → Prop} {j : Nat} {x : α} (hr : RP r b o) (h : r = .ok j x) : o j x := by subst h; exact hr
theorem dId_num {s : ByteArray} {i e : Nat} (h : dNum s i = .bad e) : dId s i = .bad e := by rw [dId, h]; rfl
theorem dId_len {s : ByteArray} {i j n : Nat} (h : dNum s i = .ok j n) (hc : n = 0 ∨ 60 < n ∨ s.size < j + n) : dId s i = .bad i := by rw [dId, h, Res.bind, if_pos hc]
theorem dId_chr {s : ByteArray} {i j n k : Nat} (h : dNum s i = .ok j n) (hc : ¬ (n = 0 ∨ 60 < n ∨ s.size < j + n)) (hk : idN s j n = k) (hn : k < n) : dId s i = .bad (j + k) := by rw [dId, h, Res.bind, if_neg hc, if_neg (by omega), hk]
theorem dId_fine {s : ByteArray} {i j n : Nat} (h : dNum s i = .ok j n) (hc : ¬ (n = 0 ∨ 60 < n ∨ s.size < j + n)) (hk : idN s j n = n) : dId s i = .ok (j + n) (s.extract j (j + n)) := by rw [dId, h, Res.bind, if_neg hc, if_pos hk]
theorem dNum_bad {s : ByteArray} {i : Nat} (h : (dgs s i).length = 0 ∨ 4 < (dgs s i).length ∨ (1 < (dgs s i).length ∧ s.data.toList[i]? = some 48)) : dNum s i = .bad i := by rw [dNum, if_pos h]
theorem dNum_ok {s : ByteArray} {i : Nat} (h : ¬ ((dgs s i).length = 0 ∨ 4 < (dgs s i).length ∨ (1 < (dgs s i).length ∧ s.data.toList[i]? = some 48))) : dNum s i = .ok (i + (dgs s i).length) (dgV (dgs s i)) := by rw [dNum, if_neg h]
def atD (c : Nat) (w : World) : Nat := match w.cell? ⟨c, 1, none⟩ with
  | some (.int _ n) => n.toNat
  | _ => 0
theorem atD_nS {B c mb : Nat} {s : ByteArray} {i : Nat} {q : Int} {D : List Nd} {F : Nat → Prop} {w : World} (h : nS B c mb s i q D F w) : atD c w = i := by
  unfold atD; rw [h.c1]; simp
set_option maxRecDepth 100000 in
set_option maxHeartbeats 8000000 in
theorem nDig_on (B c mb : Nat) (s : ByteArray) (D : List Nd) (F : Nat → Prop) (w : World) (hB : B ≤ w.heap.size) (i : Nat) (hs : s.size ≤ 8000) (hi : i ≤ s.size) (h : nS B c mb s i (-1) D F w) :
    Calls Tryd.prog 71 #[.pointer (some ⟨c, 0, none⟩)] w fun e w' => RP (dNum s i) (fun e0 => e = .returned (.tuple #[.int .i64 0, .int .i64 i]) ∧ e0 = i ∧ ∃ j : Nat, j ≤ s.size ∧ nR B c mb s j i D F F w w')
      (fun j n => e = .returned (.tuple #[.int .i64 n, .int .i64 i]) ∧ nR B c mb s j (-1) D F F w w') := by
  have HP := hide (nR.refl h)
  have c1 := h.c1
  clear h
  go_enter Tryd.func71, Tryd.ntmps71
  go_wp2_with (fail)
  go_loopw [] (fun wr => ∃ x : Nat, i ≤ x ∧ x ≤ s.size ∧ (∀ j, i ≤ j → j < x → ∀ d, s.data.toList[j]? = some d → digB d = true) ∧ nR B c mb s x (-1) D F F w wr) (fun wr => s.size - atD c wr)
  case atStart => exact ⟨i, Nat.le_refl _, hi, fun j h h' => by omega, HP.out⟩
  case round =>
    obtain ⟨x, hix, hk, hall, hp⟩ := hrel
    have HALL := hide hall
    have hz := Nat.le_trans hB hp.be.size
    have HQ := hide hp
    have HAT := hide (atD_nS hp.st)
    have HPK := hide (nPeek B c mb s D F wr hz x hs hp.st)
    have HDG := hide (fun W => isDigit_any (pkB s x) W)
    clear hall hp
    have ARM := True
    cases hd : digB (pkB s x)
    · have E := hide (dgs_is hix hk HALL.out (fun d h => by rw [← pkB_is h]; exact hd))
      rw [hd] at HDG
      clear hd
      go_wp2_with (first | (go_at_call 26; refine HPK.out.mono ?_; rintro e w1 ⟨rfl, hr⟩; have HR := hide (HQ.out.trans hr); clear hr) | (go_at_call 64; refine (HDG.out _).mono ?_; rintro e w2 ⟨rfl, rfl⟩))
      have c0 : w2.cell? ⟨c, 0, none⟩ = some (.string s) := HR.out.st.c0
      have c1 : w2.cell? ⟨c, 1, none⟩ = some (.int .i64 (x : Nat)) := HR.out.st.c1
      have m1 : min (i : Int) (s.size : Int) = i := by omega
      have m2 : min (x : Int) (s.size : Int) = x := by omega
      refine wp_region_chain (fun W => W.cell? ⟨c, 0, none⟩ = some (.string s) ∧ W.cell? ⟨c, 1, none⟩ = some (.int .i64 (x : Nat))) 21 (by as_aux_lemma => kernel_rfl) (N := 23) (by as_aux_lemma => kernel_rfl) ?_; intro hsh
      have HS : w2.drew.cell? ⟨c, 0, none⟩ = some (.string s) ∧ w2.drew.cell? ⟨c, 1, none⟩ = some (.int .i64 (x : Nat)) := ⟨c0, c1⟩
      refine wpAnyC_take0 (i := 0) (k := 21) (v := ?_) (d := some 19) rfl (by rfl) (by as_aux_lemma => kernel_rfl) (by as_aux_lemma => kernel_rfl) (by as_aux_lemma => kernel_rfl) hsh (by decide) (by intro _ _ _ h; exact h) (by assumption) (Or.inl ⟨by rfl, ?hy⟩) ?_; (case hy => (intro W _; go_simp; (try with_reducible rfl))); clear hsh; intro hsh
      refine wpAnyC_take0 (i := 1) (k := 21) (v := ?_) (d := some 20) rfl (by rfl) (by as_aux_lemma => kernel_rfl) (by as_aux_lemma => kernel_rfl) (by as_aux_lemma => kernel_rfl) hsh (by decide) (by intro _ _ _ h; exact h) (by assumption) (Or.inl ⟨by rfl, ?hy⟩) ?_; (case hy => (intro W _; go_simp; (try with_reducible rfl))); clear hsh; intro hsh
      refine wpAnyC_take0 (i := 2) (k := 21) (v := ?_) (d := some 21) rfl (by rfl) (by as_aux_lemma => kernel_rfl) (by as_aux_lemma => kernel_rfl) (by as_aux_lemma => kernel_rfl) hsh (by decide) (by intro _ _ _ h; exact h) (by assumption) (Or.inl ⟨by rfl, ?hy⟩) ?_; (case hy => (intro W _; go_simp; (try with_reducible rfl))); clear hsh; intro hsh
      refine wpAnyC_take (i := 3) (k := 21) (f := 40) (v := ?_) (d := some 22) rfl (by rfl) (by as_aux_lemma => kernel_rfl) (by as_aux_lemma => kernel_rfl) (by as_aux_lemma => kernel_rfl) hsh (by decide) (by as_aux_lemma => kernel_rfl) (by intro _ _ _ h; exact h) (by assumption) (Or.inl ⟨by rfl, ?hy⟩) ?_; (case hy => (rintro W ⟨y0, y1⟩; go_simp; (try with_reducible rfl))); clear hsh; intro hsh
      refine wpAnyC_take0 (i := 4) (k := 21) (v := ?_) (d := some 23) rfl (by rfl) (by as_aux_lemma => kernel_rfl) (by as_aux_lemma => kernel_rfl) (by as_aux_lemma => kernel_rfl) hsh (by decide) (by intro _ _ _ h; exact h) (by assumption) (Or.inl ⟨by rfl, ?hy⟩) ?_; (case hy => (intro W _; go_simp; (try with_reducible rfl))); clear hsh; intro hsh
      refine wpAnyC_take0 (i := 5) (k := 21) (v := ?_) (d := some 24) rfl (by rfl) (by as_aux_lemma => kernel_rfl) (by as_aux_lemma => kernel_rfl) (by as_aux_lemma => kernel_rfl) hsh (by decide) (by intro _ _ _ h; exact h) (by assumption) (Or.inl ⟨by rfl, ?hy⟩) ?_; (case hy => (intro W _; go_simp; (try with_reducible rfl))); clear hsh; intro hsh
      refine wpAnyC_take0 (i := 6) (k := 21) (v := ?_) (d := some 25) rfl (by rfl) (by as_aux_lemma => kernel_rfl) (by as_aux_lemma => kernel_rfl) (by as_aux_lemma => kernel_rfl) hsh (by decide) (by intro _ _ _ h; exact h) (by assumption) (Or.inl ⟨by rfl, ?hy⟩) ?_; (case hy => (intro W _; go_simp; (try with_reducible rfl))); clear hsh; intro hsh
      refine wpAnyC_take0 (i := 7) (k := 21) (v := ?_) (d := some 26) rfl (by rfl) (by as_aux_lemma => kernel_rfl) (by as_aux_lemma => kernel_rfl) (by as_aux_lemma => kernel_rfl) hsh (by decide) (by intro _ _ _ h; exact h) (by assumption) (Or.inl ⟨by rfl, ?hy⟩) ?_; (case hy => (intro W _; go_simp; (try with_reducible rfl))); clear hsh; intro hsh
      refine wpAnyC_take (i := 8) (k := 21) (f := 40) (v := ?_) (d := some 27) rfl (by rfl) (by as_aux_lemma => kernel_rfl) (by as_aux_lemma => kernel_rfl) (by as_aux_lemma => kernel_rfl) hsh (by decide) (by as_aux_lemma => kernel_rfl) (by intro _ _ _ h; exact h) (by assumption) (Or.inl ⟨by rfl, ?hy⟩) ?_; (case hy => (rintro W ⟨y0, y1⟩; go_simp; (try with_reducible rfl))); clear hsh; intro hsh
      refine wpAnyC_take0 (i := 9) (k := 21) (v := ?_) (d := some 28) rfl (by rfl) (by as_aux_lemma => kernel_rfl) (by as_aux_lemma => kernel_rfl) (by as_aux_lemma => kernel_rfl) hsh (by decide) (by intro _ _ _ h; exact h) (by assumption) (Or.inl ⟨by rfl, ?hy⟩) ?_; (case hy => (intro W _; go_simp; (try with_reducible rfl))); clear hsh; intro hsh
      refine wpAnyC_take0 (i := 10) (k := 21) (v := ?_) (d := some 29) rfl (by rfl) (by as_aux_lemma => kernel_rfl) (by as_aux_lemma => kernel_rfl) (by as_aux_lemma => kernel_rfl) hsh (by decide) (by intro _ _ _ h; exact h) (by assumption) (Or.inl ⟨by rfl, ?hy⟩) ?_; (case hy => (intro W _; go_simp; (try with_reducible rfl))); clear hsh; intro hsh
      refine wpAnyC_take0 (i := 11) (k := 21) (v := ?_) (d := some 30) rfl (by rfl) (by as_aux_lemma => kernel_rfl) (by as_aux_lemma => kernel_rfl) (by as_aux_lemma => kernel_rfl) hsh (by decide) (by intro _ _ _ h; exact h) (by assumption) (Or.inl ⟨by rfl, ?hy⟩) ?_; (case hy => (intro W _; go_simp; (try with_reducible rfl))); clear hsh; intro hsh
      refine wpAnyC_take0 (i := 12) (k := 21) (v := ?_) (d := some 31) rfl (by rfl) (by as_aux_lemma => kernel_rfl) (by as_aux_lemma => kernel_rfl) (by as_aux_lemma => kernel_rfl) hsh (by decide) (by intro _ _ _ h; exact h) (by assumption) (Or.inl ⟨by rfl, ?hy⟩) ?_; (case hy => (intro W _; go_simp; (try with_reducible rfl))); clear hsh; intro hsh
      refine wpAnyC_take0 (i := 13) (k := 21) (v := ?_) (d := some 32) rfl (by rfl) (by as_aux_lemma => kernel_rfl) (by as_aux_lemma => kernel_rfl) (by as_aux_lemma => kernel_rfl) hsh (by decide) (by intro _ _ _ h; exact h) (by assumption) (Or.inl ⟨by rfl, ?hy⟩) ?_; (case hy => (intro W _; go_simp; (try with_reducible rfl))); clear hsh; intro hsh
      refine wpAnyC_take (i := 14) (k := 21) (f := 40) (v := ?_) (d := some 33) rfl (by rfl) (by as_aux_lemma => kernel_rfl) (by as_aux_lemma => kernel_rfl) (by as_aux_lemma => kernel_rfl) hsh (by decide) (by as_aux_lemma => kernel_rfl) (by intro _ _ _ h; exact h) (by assumption) (Or.inl ⟨by rfl, ?hy⟩) ?_; (case hy => (rintro W ⟨y0, y1⟩; go_simp; (try with_reducible rfl))); clear hsh; intro hsh
      refine wpAnyC_take0 (i := 15) (k := 21) (v := ?_) (d := some 34) rfl (by rfl) (by as_aux_lemma => kernel_rfl) (by as_aux_lemma => kernel_rfl) (by as_aux_lemma => kernel_rfl) hsh (by decide) (by intro _ _ _ h; exact h) (by assumption) (Or.inl ⟨by rfl, ?hy⟩) ?_; (case hy => (intro W _; go_simp; (try with_reducible rfl))); clear hsh; intro hsh
      refine wpAnyC_take0 (i := 16) (k := 21) (v := ?_) (d := some 35) rfl (by rfl) (by as_aux_lemma => kernel_rfl) (by as_aux_lemma => kernel_rfl) (by as_aux_lemma => kernel_rfl) hsh (by decide) (by intro _ _ _ h; exact h) (by assumption) (Or.inl ⟨by rfl, ?hy⟩) ?_; (case hy => (intro W _; go_simp; (try with_reducible rfl))); clear hsh; intro hsh
      refine wpAnyC_take0 (i := 17) (k := 21) (v := ?_) (d := some 36) rfl (by rfl) (by as_aux_lemma => kernel_rfl) (by as_aux_lemma => kernel_rfl) (by as_aux_lemma => kernel_rfl) hsh (by decide) (by intro _ _ _ h; exact h) (by assumption) (Or.inl ⟨by rfl, ?hy⟩) ?_; (case hy => (intro W _; go_simp; (try with_reducible rfl))); clear hsh; intro hsh
      refine wpAnyC_take (i := 18) (k := 21) (f := 40) (v := ?_) (d := some 37) rfl (by rfl) (by as_aux_lemma => kernel_rfl) (by as_aux_lemma => kernel_rfl) (by as_aux_lemma => kernel_rfl) hsh (by decide) (by as_aux_lemma => kernel_rfl) (by intro _ _ _ h; exact h) (by assumption) (Or.inl ⟨by rfl, ?hy⟩) ?_; (case hy => (rintro W ⟨y0, y1⟩; go_simp; (try with_reducible rfl))); clear hsh; intro hsh
      refine wpAnyC_take0 (i := 19) (k := 21) (v := ?_) (d := some 38) rfl (by rfl) (by as_aux_lemma => kernel_rfl) (by as_aux_lemma => kernel_rfl) (by as_aux_lemma => kernel_rfl) hsh (by decide) (by intro _ _ _ h; exact h) (by assumption) (Or.inl ⟨by rfl, ?hy⟩) ?_; (case hy => (intro W _; go_simp; (try with_reducible rfl))); clear hsh; intro hsh
      refine wpAnyC_take0 (i := 20) (k := 21) (v := ?_) (d := some 39) rfl (by rfl) (by as_aux_lemma => kernel_rfl) (by as_aux_lemma => kernel_rfl) (by as_aux_lemma => kernel_rfl) hsh (by decide) (by intro _ _ _ h; exact h) (by assumption) (Or.inl ⟨by rfl, ?hy⟩) ?_; (case hy => (intro W _; go_simp; (try with_reducible rfl))); clear hsh; intro hsh
      refine wpAnyC_tail (by as_aux_lemma => kernel_rfl) (by simp) (by as_aux_lemma => kernel_rfl) ?_; simp only [List.drop_succ_cons, List.drop_zero]; clear hsh
      obtain ⟨ds, hds⟩ : ∃ ds, s.extract i x = ds := ⟨_, rfl⟩
      have HE1 := hide (show dgs s i = ds.data.toList by rw [E.out.1, hds])
      have HE2 := hide E.out.2
      have HSZ := hide (show ds.size = x - i by rw [← hds, ByteArray.size_extract]; omega)
      have HF := hide (fun (W : World) (hW : B ≤ W.heap.size) (h : nS B c mb s x (-1) D F W) => nFail_new B c mb s D F W hW x i h)
      have HDW := hide (fun m => HR.out.below hB (below_drewN (Below.refl w2.heap.size w2) m))
      have c2 : w2.cell? ⟨c, 2, none⟩ = some (.int .i64 (-1)) := HR.out.st.c2
      have HG0 := hide (fun (hz : 0 < ds.size) => show s.data.toList[i]? = some ds[0] by
        have h1 : i < s.size := by have := HSZ.out; omega
        rw [str_get s i h1]
        have h2 : ds[0] = s[i] := by
          subst hds
          rw [ByteArray.getElem_extract]; rfl
        rw [h2])
      by_cases h0 : ds.size = 0
      · have HE := hide (dNum_bad (s := s) (i := i) (.inl (by rw [HE2.out, ← HSZ.out, h0])))
        obtain rfl : ds = ⟨#[]⟩ := str_empty h0
        clear h0 HG0
        go_wp2_with (first | go_quiet (fail) | (go_at_call 28; refine (HF.out _ (Nat.le_trans hB (HDW.out _).be.size) (HDW.out _).st).mono ?_; rintro e w3 ⟨rfl, hr⟩; have HR2 := hide ((HDW.out _).trans hr); clear hr))
        go_ret2
        exact RP.bad HE.out ⟨rfl, rfl, x, hk, HR2.out⟩
      · obtain ⟨g1, g2⟩ := str_full h0
        have hpos : 0 < ds.size := by omega
        by_cases h4 : 4 < ds.size
        · have HE := hide (dNum_bad (s := s) (i := i) (.inr (.inl (by rw [HE2.out, ← HSZ.out]; exact h4))))
          have h4' : (4 : Int) < (ds.size : Int) := by omega
          go_wp2_with (first | go_quiet (fail) | (go_at_call 28; refine (HF.out _ (Nat.le_trans hB (HDW.out _).be.size) (HDW.out _).st).mono ?_; rintro e w3 ⟨rfl, hr⟩; have HR2 := hide ((HDW.out _).trans hr); clear hr))
          go_ret2
          exact RP.bad HE.out ⟨rfl, rfl, x, hk, HR2.out⟩
        · have h4' : decide ((4 : Int) < (ds.size : Int)) = false := by simp; omega
          by_cases h1 : 1 < ds.size
          · have h1' : (1 : Int) < (ds.size : Int) := by omega
            by_cases h5 : ds[0] = 48
            · have HE := hide (dNum_bad (s := s) (i := i) (.inr (.inr ⟨by rw [HE2.out, ← HSZ.out]; exact h1, by rw [HG0.out hpos, h5]⟩)))
              have h6 : (ds[0].toNat : Int) = 48 := by rw [h5]; rfl
              clear h5
              go_wp2_with (first | go_quiet (fail) | (go_at_call 28; refine (HF.out _ (Nat.le_trans hB (HDW.out _).be.size) (HDW.out _).st).mono ?_; rintro e w3 ⟨rfl, hr⟩; have HR2 := hide ((HDW.out _).trans hr); clear hr))
              go_ret2
              exact RP.bad HE.out ⟨rfl, rfl, x, hk, HR2.out⟩
            · have HE := hide (dNum_ok (s := s) (i := i) (by
                rw [HE2.out, ← HSZ.out]
                rintro (h | h | h)
                · omega
                · omega
                · rw [HG0.out hpos] at h; exact h5 (Option.some.inj h.2)))
              have h6 : ¬ (ds[0].toNat : Int) = 48 := fun e => h5 (UInt8.toNat_inj.1 (by show ds[0].toNat = 48; omega))
              have h7 : ((ds[0].toNat : Int) == 48) = false := by simpa using h6
              clear h5
              have HA := hide (fun W => atoi_any ds W hpos (by omega) (fun b hb => dgs_dig s i b (by rw [HE1.out]; exact hb)))
              go_wp2_with (first | go_quiet (fail) | (go_at_call 77; refine (HA.out _).mono ?_; rintro e w3 ⟨rfl, hb⟩; have HR2 := hide ((HDW.out _).below hB hb); clear hb))
              go_ret2
              refine RP.ok HE.out ⟨by rw [HE1.out]; rfl, ?_⟩
              rw [show i + (dgs s i).length = x by rw [HE2.out]; omega]
              exact HR2.out
          · have h1' : decide ((1 : Int) < (ds.size : Int)) = false := by simp; omega
            have HE := hide (dNum_ok (s := s) (i := i) (by
              rw [HE2.out, ← HSZ.out]
              rintro (h | h | h) <;> omega))
            have HA := hide (fun W => atoi_any ds W hpos (by omega) (fun b hb => dgs_dig s i b (by rw [HE1.out]; exact hb)))
            go_wp2_with (first | go_quiet (fail) | (go_at_call 77; refine (HA.out _).mono ?_; rintro e w3 ⟨rfl, hb⟩; have HR2 := hide ((HDW.out _).below hB hb); clear hb))
            go_ret2
            refine RP.ok HE.out ⟨by rw [HE1.out]; rfl, ?_⟩
            rw [show i + (dgs s i).length = x by rw [HE2.out]; omega]
            exact HR2.out
    · have hlt : x < s.size := by
        rcases Nat.lt_or_ge x s.size with h | h
        · exact h
        · rw [pkB_end (by omega)] at hd; exact absurd hd (by decide)
      have HK := hide (fun d (h : s.data.toList[x]? = some d) => show digB d = true by rw [← pkB_is h]; exact hd)
      rw [hd] at HDG
      clear hd
      go_wp2_with (first | (go_at_call 26; refine HPK.out.mono ?_; rintro e w1 ⟨rfl, hr⟩; have HR := hide (HQ.out.trans hr); have c1 := hr.st.c1; have f1 := hr.st.f 1; clear hr) | (go_at_call 64; refine (HDG.out _).mono ?_; rintro e w' ⟨rfl, rfl⟩))
      go_roundw
      case rel => exact ⟨x + 1, by omega, by omega, fun j h1 h2 d hd => by (by_cases e : j = x); (subst e; exact HK.out d hd); exact HALL.out j h1 (by omega) d hd, by rw [show ((x + 1 : Nat) : Int) = (x : Int) + 1 by omega]; exact HR.out.set1 hB _⟩
      case measure => rw [HAT.out, show atD c _ = x + 1 from atD_nS (i := x + 1) (by rw [show ((x + 1 : Nat) : Int) = (x : Int) + 1 by omega]; exact (HR.out.set1 hB _).st)]; omega
set_option maxRecDepth 100000 in
set_option maxHeartbeats 8000000 in
theorem nIdent_on (B c mb : Nat) (s : ByteArray) (D : List Nd) (F : Nat → Prop) (w : World) (hB : B ≤ w.heap.size) (i : Nat) (hs : s.size ≤ 8000) (hi : i ≤ s.size) (h : nS B c mb s i (-1) D F w) :
    Calls Tryd.prog 46 #[.pointer (some ⟨c, 0, none⟩)] w fun e w' => RP (dId s i) (fun e0 => e = .returned (.string ⟨#[]⟩) ∧ ∃ j : Nat, j ≤ s.size ∧ nR B c mb s j e0 D F F w w')
      (fun j x => e = .returned (.string x) ∧ nR B c mb s j (-1) D F F w w') := by
  have HP := hide (nR.refl h)
  have HDG := hide (nDig_on B c mb s D F w hB i hs hi h)
  clear h
  have hnf := dNum_from s i hi
  obtain ⟨R, hR⟩ : ∃ R, dId s i = R := ⟨_, rfl⟩
  rw [hR]
  have HRR := hide hR
  clear hR
  cases hr : dNum s i with
  | bad e0 =>
    rw [hr] at HDG hnf
    simp only at hnf
    subst hnf
    have HE := hide (HRR.out.symm.trans (dId_num hr))
    clear hr
    go_enter Tryd.func46, Tryd.ntmps46
    go_wp2_with (first | (go_at_call 71; refine HDG.out.mono ?_; rintro e w1 ⟨rfl, _, j, hj, hr⟩; have HR := hide hr; have c2 := hr.st.c2; clear hr))
    go_ret
    exact RP.bad HE.out ⟨rfl, j, hj, HR.out⟩
  | ok j n =>
    rw [hr] at HDG hnf
    have hn := (dNum_lt hr).1
    simp only at hnf
    obtain ⟨hij, hj4, hjs⟩ := hnf
    have HN := hide hr
    clear hr
    have HF := hide (fun (W : World) (hW : B ≤ W.heap.size) (h : nS B c mb s j (-1) D F W) (a : Int) => nFail_new B c mb s D F W hW j a h)
    by_cases hc : n = 0 ∨ 60 < n ∨ s.size < j + n
    · have HE := hide (HRR.out.symm.trans (dId_len HN.out hc))
      by_cases h0 : n = 0
      · subst h0
        clear hc
        go_enter Tryd.func46, Tryd.ntmps46
        go_wp2_with (first | (go_at_call 71; refine HDG.out.mono ?_; rintro e w1 ⟨rfl, hr⟩; have HR := hide hr; have c0 := hr.st.c0; have c1 := hr.st.c1; have c2 := hr.st.c2; have HDR := hide (fun m => hr.below hB (below_drewN (Below.refl w1.heap.size w1) m)); clear hr) | go_quiet (fail) | (go_at_call 28; refine (HF.out _ (Nat.le_trans hB (HDR.out _).be.size) (HDR.out _).st _).mono ?_; rintro e w2 ⟨rfl, hr⟩; have HR2 := hide ((HDR.out _).trans hr); clear hr))
        go_ret
        exact RP.bad HE.out ⟨rfl, j, hjs, HR2.out⟩
      · have h0' : ¬ (n : Int) = 0 := by omega
        have h0'' : ((n : Int) == 0) = false := by simpa using h0
        by_cases h6 : 60 < n
        · have h6' : (60 : Int) < (n : Int) := by omega
          clear hc
          go_enter Tryd.func46, Tryd.ntmps46
          go_wp2_with (first | (go_at_call 71; refine HDG.out.mono ?_; rintro e w1 ⟨rfl, hr⟩; have HR := hide hr; have c0 := hr.st.c0; have c1 := hr.st.c1; have c2 := hr.st.c2; have HDR := hide (fun m => hr.below hB (below_drewN (Below.refl w1.heap.size w1) m)); clear hr) | go_quiet (fail) | (go_at_call 28; refine (HF.out _ (Nat.le_trans hB (HDR.out _).be.size) (HDR.out _).st _).mono ?_; rintro e w2 ⟨rfl, hr⟩; have HR2 := hide ((HDR.out _).trans hr); clear hr))
          go_ret
          exact RP.bad HE.out ⟨rfl, j, hjs, HR2.out⟩
        · have h6' : decide ((60 : Int) < (n : Int)) = false := by simp; omega
          have h6'' : decide (60 < n) = false := by simp; omega
          have h7 : (s.size : Int) - (j : Int) < (n : Int) := by omega
          clear hc
          go_enter Tryd.func46, Tryd.ntmps46
          go_wp2_with (first | (go_at_call 71; refine HDG.out.mono ?_; rintro e w1 ⟨rfl, hr⟩; have HR := hide hr; have c0 := hr.st.c0; have c1 := hr.st.c1; have c2 := hr.st.c2; have HDR := hide (fun m => hr.below hB (below_drewN (Below.refl w1.heap.size w1) m)); clear hr) | go_quiet (fail) | (go_at_call 28; refine (HF.out _ (Nat.le_trans hB (HDR.out _).be.size) (HDR.out _).st _).mono ?_; rintro e w2 ⟨rfl, hr⟩; have HR2 := hide ((HDR.out _).trans hr); clear hr))
          go_ret
          exact RP.bad HE.out ⟨rfl, j, hjs, HR2.out⟩
    · have HNC := hide hc
      have h0 : ¬ n = 0 := fun e => hc (.inl e)
      have h0' : ¬ (n : Int) = 0 := by omega
      have h0'' : ((n : Int) == 0) = false := by simpa using h0
      have h6' : decide ((60 : Int) < (n : Int)) = false := by simp; omega
      have h6'' : decide (60 < n) = false := by simp; omega
      have h7 : decide ((s.size : Int) - (j : Int) < (n : Int)) = false := by simp; omega
      have hjn : j + n ≤ s.size := by omega
      have hn60 : n ≤ 60 := by omega
      clear hc
      go_enter Tryd.func46, Tryd.ntmps46
      go_wp2_with (first | (go_at_call 71; refine HDG.out.mono ?_; rintro e w1 ⟨rfl, hr⟩; have HR := hide hr; have c0 := hr.st.c0; have c1 := hr.st.c1; have c2 := hr.st.c2; clear hr) | go_quiet (fail))
      go_loopw [41] (fun y wr => ∃ k : Nat, y = .int .i64 k ∧ k ≤ n ∧ (∀ m, m < k → ∀ d, s.data.toList[j + m]? = some d → okId m d = true) ∧ nR B c mb s j (-1) D F F w wr) (fun y _ => n - (intOf y).toNat)
      case atStart => exact ⟨0, rfl, Nat.zero_le _, fun j h => by omega, by first | exact HR.out | exact HR.out.below hB (below_drewN (Below.refl _ _) _)⟩
      case round =>
        obtain ⟨k, rfl, hk, hall, hp⟩ := hrel
        have HALL := hide hall
        have HQ := hide hp
        have c0 := hp.st.c0
        have c1 := hp.st.c1
        have c2 := hp.st.c2
        have f1 := hp.st.f 1
        have hz := Nat.le_trans hB hp.be.size
        clear hall hp
        have HDR := hide (fun m => HQ.out.below hB (below_drewN (Below.refl wr.heap.size wr) m))
        by_cases hlt : k < n
        · obtain ⟨x, hx⟩ : ∃ x, x = j + k := ⟨_, rfl⟩
          have hjk : x < s.size := by omega
          have hjx : (j : Int) + (k : Int) = (x : Int) := by omega
          have HX := hide hx
          clear hx
          have HL := hide (fun W => isLetter_any s[x] W)
          have HD := hide (fun W => isDigit_any s[x] W)
          have HC := hide (fun m => HF.out (wr.drewN m) (Nat.le_trans hz (by simp)) (HDR.out m).st (x : Int))
          have hlt' : (k : Int) < (n : Int) := by omega
          cases hl : lettB s[x]
          · by_cases hk0 : k = 0
            · subst hk0
              obtain rfl : j = x := by have := HX.out; omega
              clear hjx
              have E := hide (show idN s j n = 0 from idN_is (by omega) (by omega) (fun m h => by omega) (fun _ d h => by rw [okId_getD hjk d (by rw [HX.out]; exact h), okId, hl]; rfl))
              rw [hl] at HL
              clear hl
              go_wp2_with (first | go_quiet (first | (go_at_call 63; exact Calls.quiet_of_same (HL.out _)) | (go_at_call 64; exact Calls.quiet_of_same (HD.out _))) | (go_at_call 63; refine (HL.out _).mono ?_; rintro e w' ⟨rfl, rfl⟩) | (go_at_call 64; refine (HD.out _).mono ?_; rintro e w' ⟨rfl, rfl⟩) | (go_at_call 28; refine (HC.out _).mono ?_; rintro e w2 ⟨rfl, hr⟩; have HR2 := hide ((HDR.out _).trans hr); clear hr))
              go_ret
              exact RP.bad (HRR.out.symm.trans ((dId_chr HN.out HNC.out E.out (by omega)).trans (congrArg _ HX.out.symm))) ⟨rfl, j, hjs, HR2.out⟩
            · have hk1 : ¬ (k : Int) = 0 := by omega
              have hk1' : ((k : Int) == 0) = false := by simp; omega
              cases hd : digB s[x]
              · have E := hide (show idN s j n = k from idN_is (by omega) (by omega) HALL.out (fun _ d h => by rw [okId_getD hjk d (by rw [HX.out]; exact h), okId, hl, hd]; simp))
                rw [hl] at HL
                rw [hd] at HD
                clear hl hd
                go_wp2_with (first | go_quiet (first | (go_at_call 63; exact Calls.quiet_of_same (HL.out _)) | (go_at_call 64; exact Calls.quiet_of_same (HD.out _))) | (go_at_call 63; refine (HL.out _).mono ?_; rintro e w' ⟨rfl, rfl⟩) | (go_at_call 64; refine (HD.out _).mono ?_; rintro e w' ⟨rfl, rfl⟩) | (go_at_call 28; refine (HC.out _).mono ?_; rintro e w2 ⟨rfl, hr⟩; have HR2 := hide ((HDR.out _).trans hr); clear hr))
                go_ret
                exact RP.bad (HRR.out.symm.trans ((dId_chr HN.out HNC.out E.out (by omega)).trans (congrArg _ HX.out.symm))) ⟨rfl, j, hjs, HR2.out⟩
              · have HK := hide (show ∀ d, s.data.toList[j + k]? = some d → okId k d = true from fun d h => by rw [okId_getD hjk d (by rw [HX.out]; exact h), okId, hl, hd]; simp; omega)
                rw [hl] at HL
                rw [hd] at HD
                clear hl hd
                go_wp2_with (first | go_quiet (first | (go_at_call 63; exact Calls.quiet_of_same (HL.out _)) | (go_at_call 64; exact Calls.quiet_of_same (HD.out _))) | (go_at_call 63; refine (HL.out _).mono ?_; rintro e w' ⟨rfl, rfl⟩) | (go_at_call 64; refine (HD.out _).mono ?_; rintro e w' ⟨rfl, rfl⟩))
                go_roundw
                case rel => exact ⟨k + 1, by go_num, by omega, fun m hm d hd => by (by_cases e : m = k); (subst e; exact HK.out d hd); exact HALL.out m (by omega) d hd, HDR.out _⟩
                case measure => simp [intOf]; omega
          · have HK := hide (show ∀ d, s.data.toList[j + k]? = some d → okId k d = true from fun d h => by rw [okId_getD hjk d (by rw [HX.out]; exact h), okId, hl]; rfl)
            rw [hl] at HL
            clear hl
            go_wp2_with (first | go_quiet (first | (go_at_call 63; exact Calls.quiet_of_same (HL.out _)) | (go_at_call 64; exact Calls.quiet_of_same (HD.out _))) | (go_at_call 63; refine (HL.out _).mono ?_; rintro e w' ⟨rfl, rfl⟩) | (go_at_call 64; refine (HD.out _).mono ?_; rintro e w' ⟨rfl, rfl⟩))
            go_roundw
            case rel => exact ⟨k + 1, by go_num, by omega, fun m hm d hd => by (by_cases e : m = k); (subst e; exact HK.out d hd); exact HALL.out m (by omega) d hd, HDR.out _⟩
            case measure => simp [intOf]; omega
        · obtain rfl : k = n := by omega
          have E := hide (show idN s j k = k from idN_is (by omega) (Nat.le_refl _) HALL.out (fun h => by omega))
          have hlt' : decide ((k : Int) < (k : Int)) = false := by simp
          have hjk : (j : Int) + (k : Int) - (k : Int) = (j : Int) := by omega
          go_wp2_with (first | go_quiet (fail))
          go_ret
          exact RP.ok (HRR.out.symm.trans (dId_fine HN.out HNC.out E.out)) ⟨rfl, by rw [show ((j + k : Nat) : Int) = (j : Int) + (k : Int) by omega]; exact (HQ.out.set1 hB _).below hB (below_drewN (Below.refl _ _) _)⟩
end Go.Proofs.YtocpmbpckbjepaaDoor
