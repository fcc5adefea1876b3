/- Walk of number of the reference's reader of mangled names (printed by gen_ra.py). -/
import Derived.Test.YtecancnojdifaaaDoorNmDmC
import Derived.Test.YtecancnojdifaaaDoorNmDmN
import Derived.Test.YtecancnojdifaaaDoorNmDmF
namespace Go.Proofs.YtecancnojdifaaaDoor
open Go.RowKit
set_option linter.unusedVariables false
set_option linter.unusedSimpArgs false
theorem digB_of {b : UInt8} (h1 : 48 ≤ b.toNat) (h2 : b.toNat ≤ 57) : digB b = true := by simp [digB]; exact ⟨h1, h2⟩
theorem digB_lo {b : UInt8} (h1 : b.toNat < 48) : digB b = false := by
  rw [Bool.eq_false_iff]; intro h
  have : 48 ≤ b.toNat ∧ b.toNat ≤ 57 := by simpa [digB] using h
  omega
theorem digB_hi {b : UInt8} (h1 : 57 < b.toNat) : digB b = false := by
  rw [Bool.eq_false_iff]; intro h
  have : 48 ≤ b.toNat ∧ b.toNat ≤ 57 := by simpa [digB] using h
  omega
set_option maxRecDepth 100000 in
set_option maxHeartbeats 8000000 in
theorem rNum_on (B c mb : Nat) (s : ByteArray) (D : List Nd) (F : Nat → Prop) (w : World) (hB : B ≤ w.heap.size) (i : Nat) (hs : s.size ≤ 8000) (hi : i ≤ s.size) (h : rS B c mb s i (-1) D F w) :
    Calls Tryd.prog 68 #[.pointer (some ⟨c, 0, none⟩)] w fun e w' => RP (dNum s i) (fun e0 => e = .returned (.tuple #[.int .i64 0, .int .i64 i]) ∧ e0 = i ∧ ∃ j : Nat, j ≤ s.size ∧ rR B c mb s j i D F F w w')
      (fun j n => e = .returned (.tuple #[.int .i64 n, .int .i64 i]) ∧ rR B c mb s j (-1) D F F w w') := by
  have HP := hide (rR.refl h)
  have c1 := h.c1
  clear h
  go_enter Tryd.func68, Tryd.ntmps68
  go_wp2_with (fail)
  go_loopw [5] (fun y wr => ∃ x : Nat, y = .int .i64 x ∧ i ≤ x ∧ x ≤ s.size ∧ (∀ j, i ≤ j → j < x → ∀ d, s.data.toList[j]? = some d → digB d = true) ∧ rR B c mb s i (-1) D F F w wr) (fun y wr => s.size - (intOf y).toNat)
  case atStart => exact ⟨i, rfl, Nat.le_refl _, hi, fun j h h' => by omega, HP.out⟩
  case round =>
    obtain ⟨x, rfl, hix, hk, hall, hp⟩ := hrel
    have HALL := hide hall
    have hz := Nat.le_trans hB hp.be.size
    have HQ := hide hp
    have c0 := hp.st.c0
    have c2 := hp.st.c2
    have c1' := hp.st.c1
    have f1 := hp.st.f 1
    clear hall hp
    by_cases hlt : x < s.size
    · by_cases hlo : s[x].toNat < 48
      · have E := hide (dgs_is hix hk HALL.out (fun d h => by rw [str_get s x hlt] at h; obtain rfl := Option.some.inj h; exact digB_lo hlo))
        have g1 : decide ((48 : Int) ≤ (s[x].toNat : Int)) = false := by simp; omega
        have HF := hide (fun (W : World) (hW : B ≤ W.heap.size) (h : rS B c mb s i (-1) D F W) => rFail_new B c mb s D F W hW i i h)
        by_cases h0 : x = i
        · subst h0
          have HE := hide (dNum_bad (s := s) (i := x) (.inl (by rw [E.out.2]; omega)))
          go_wp2_with (first | (go_at_call 35; refine (HF.out _ (Nat.le_trans hB HQ.out.size) HQ.out.st).mono ?_; rintro e w3 ⟨rfl, hr⟩; have HR2 := hide (HQ.out.trans hr); have c0' := hr.st.c0; have c2' := hr.st.c2; have f1' := hr.st.f 1; have c1' := hr.st.c1; clear hr))
          go_ret2
          exact RP.bad HE.out ⟨rfl, rfl, x, hk, HR2.out⟩
        · have h0' : ¬ (x : Int) = (i : Int) := by omega
          have h0'' : ((x : Int) == (i : Int)) = false := by simpa using h0'
          obtain ⟨ds, hds⟩ : ∃ ds, s.extract i x = ds := ⟨_, rfl⟩
          have HE1 := hide (show dgs s i = ds.data.toList by rw [E.out.1, hds])
          have HE2 := hide E.out.2
          have HSZ := hide (show ds.size = x - i by rw [← hds, ByteArray.size_extract]; omega)
          have HG0 := hide (show ds.data.toList[0]? = s.data.toList[i]? by
            have h1 : i < s.size := by omega
            have h2 : 0 < ds.size := by have := HSZ.out; omega
            rw [str_get s i h1, str_get ds 0 h2]
            subst hds
            rw [ByteArray.getElem_extract]; rfl)
          by_cases hb : ds.size < 1 ∨ 4 < ds.size ∨ (1 < ds.size ∧ ds.data.toList[0]? = some 48)
          · have HE := hide (dNum_bad (s := s) (i := i) (by rw [HE2.out, ← HSZ.out, ← HG0.out]; rcases hb with h | h | h; (left; omega); (right; left; exact h); (right; right; exact h)))
            have HNB := hide (fun W => num_bad ds W (by have := HSZ.out; omega) hb)
            clear hb
            go_wp2_with (first | (go_at_call 100; refine (HNB.out _).mono ?_; rintro e w4 ⟨rfl, hb⟩; have HR1 := hide (HQ.out.below hB hb); have c1' := HR1.out.st.c1; have f1' := HR1.out.st.f 1; clear hb) | (go_at_call 35; refine (HF.out _ (Nat.le_trans hB HR1.out.size) HR1.out.st).mono ?_; rintro e w3 ⟨rfl, hr⟩; have HR2 := hide (HR1.out.trans hr); have c0' := hr.st.c0; have c2' := hr.st.c2; have f1' := hr.st.f 1; have c1' := hr.st.c1; clear hr))
            go_ret2
            refine RP.bad HE.out ⟨rfl, rfl, x, hk, ?_⟩
            exact HR2.out.set1 hB _
          · have HE := hide (dNum_ok (s := s) (i := i) (by rw [HE2.out, ← HSZ.out, ← HG0.out]; intro h; apply hb; rcases h with h | h | h; (left; omega); (right; left; exact h); (right; right; exact h)))
            have HNB := hide (fun W => num_ok ds W (by have := HSZ.out; omega) (by omega) (fun b hb => dgs_dig s i b (by rw [HE1.out]; exact hb)) (fun h => hb (.inr (.inr h))))
            clear hb
            go_wp2_with (first | (go_at_call 100; refine (HNB.out _).mono ?_; rintro e w4 ⟨rfl, hb⟩; have HR1 := hide (HQ.out.below hB hb); have c1' := HR1.out.st.c1; have f1' := HR1.out.st.f 1; clear hb))
            go_ret2
            refine RP.ok HE.out ⟨by rw [HE1.out]; rfl, ?_⟩
            rw [show i + (dgs s i).length = x by rw [HE2.out]; omega]
            exact HR1.out.set1 hB _
      · by_cases hhi : 57 < s[x].toNat
        · have E := hide (dgs_is hix hk HALL.out (fun d h => by rw [str_get s x hlt] at h; obtain rfl := Option.some.inj h; exact digB_hi hhi))
          have g1 : (48 : Int) ≤ (s[x].toNat : Int) := by omega
          have g2 : decide ((s[x].toNat : Int) ≤ 57) = false := by simp; omega
          have HF := hide (fun (W : World) (hW : B ≤ W.heap.size) (h : rS B c mb s i (-1) D F W) => rFail_new B c mb s D F W hW i i h)
          by_cases h0 : x = i
          · subst h0
            have HE := hide (dNum_bad (s := s) (i := x) (.inl (by rw [E.out.2]; omega)))
            go_wp2_with (first | (go_at_call 35; refine (HF.out _ (Nat.le_trans hB HQ.out.size) HQ.out.st).mono ?_; rintro e w3 ⟨rfl, hr⟩; have HR2 := hide (HQ.out.trans hr); have c0' := hr.st.c0; have c2' := hr.st.c2; have f1' := hr.st.f 1; have c1' := hr.st.c1; clear hr))
            go_ret2
            exact RP.bad HE.out ⟨rfl, rfl, x, hk, HR2.out⟩
          · have h0' : ¬ (x : Int) = (i : Int) := by omega
            have h0'' : ((x : Int) == (i : Int)) = false := by simpa using h0'
            obtain ⟨ds, hds⟩ : ∃ ds, s.extract i x = ds := ⟨_, rfl⟩
            have HE1 := hide (show dgs s i = ds.data.toList by rw [E.out.1, hds])
            have HE2 := hide E.out.2
            have HSZ := hide (show ds.size = x - i by rw [← hds, ByteArray.size_extract]; omega)
            have HG0 := hide (show ds.data.toList[0]? = s.data.toList[i]? by
              have h1 : i < s.size := by omega
              have h2 : 0 < ds.size := by have := HSZ.out; omega
              rw [str_get s i h1, str_get ds 0 h2]
              subst hds
              rw [ByteArray.getElem_extract]; rfl)
            by_cases hb : ds.size < 1 ∨ 4 < ds.size ∨ (1 < ds.size ∧ ds.data.toList[0]? = some 48)
            · have HE := hide (dNum_bad (s := s) (i := i) (by rw [HE2.out, ← HSZ.out, ← HG0.out]; rcases hb with h | h | h; (left; omega); (right; left; exact h); (right; right; exact h)))
              have HNB := hide (fun W => num_bad ds W (by have := HSZ.out; omega) hb)
              clear hb
              go_wp2_with (first | (go_at_call 100; refine (HNB.out _).mono ?_; rintro e w4 ⟨rfl, hb⟩; have HR1 := hide (HQ.out.below hB hb); have c1' := HR1.out.st.c1; have f1' := HR1.out.st.f 1; clear hb) | (go_at_call 35; refine (HF.out _ (Nat.le_trans hB HR1.out.size) HR1.out.st).mono ?_; rintro e w3 ⟨rfl, hr⟩; have HR2 := hide (HR1.out.trans hr); have c0' := hr.st.c0; have c2' := hr.st.c2; have f1' := hr.st.f 1; have c1' := hr.st.c1; clear hr))
              go_ret2
              refine RP.bad HE.out ⟨rfl, rfl, x, hk, ?_⟩
              exact HR2.out.set1 hB _
            · have HE := hide (dNum_ok (s := s) (i := i) (by rw [HE2.out, ← HSZ.out, ← HG0.out]; intro h; apply hb; rcases h with h | h | h; (left; omega); (right; left; exact h); (right; right; exact h)))
              have HNB := hide (fun W => num_ok ds W (by have := HSZ.out; omega) (by omega) (fun b hb => dgs_dig s i b (by rw [HE1.out]; exact hb)) (fun h => hb (.inr (.inr h))))
              clear hb
              go_wp2_with (first | (go_at_call 100; refine (HNB.out _).mono ?_; rintro e w4 ⟨rfl, hb⟩; have HR1 := hide (HQ.out.below hB hb); have c1' := HR1.out.st.c1; have f1' := HR1.out.st.f 1; clear hb))
              go_ret2
              refine RP.ok HE.out ⟨by rw [HE1.out]; rfl, ?_⟩
              rw [show i + (dgs s i).length = x by rw [HE2.out]; omega]
              exact HR1.out.set1 hB _
        · have HK := hide (digB_of (b := s[x]) (by omega) (by omega))
          have g1 : (48 : Int) ≤ (s[x].toNat : Int) := by omega
          have g2 : (s[x].toNat : Int) ≤ 57 := by omega
          go_wp2_with (first | go_quiet (fail))
          go_roundw
          case rel => exact ⟨x + 1, by go_num, by omega, by omega, fun j h1 h2 d hd => by (by_cases e : j = x); (subst e; rw [str_get s _ hlt] at hd; obtain rfl := Option.some.inj hd; exact HK.out); exact HALL.out j h1 (by omega) d hd, by first | exact HQ.out | exact HQ.out.below hB (below_drewN (Below.refl _ _) _)⟩
          case measure => simp [intOf]; omega
    · have E := hide (dgs_is hix hk HALL.out (fun d h => by rw [List.getElem?_eq_none (by rw [str_len]; omega)] at h; cases h))
      have hlt' : decide ((x : Int) < (s.size : Int)) = false := by simp; omega
      have HF := hide (fun (W : World) (hW : B ≤ W.heap.size) (h : rS B c mb s i (-1) D F W) => rFail_new B c mb s D F W hW i i h)
      by_cases h0 : x = i
      · subst h0
        have HE := hide (dNum_bad (s := s) (i := x) (.inl (by rw [E.out.2]; omega)))
        go_wp2_with (first | (go_at_call 35; refine (HF.out _ (Nat.le_trans hB HQ.out.size) HQ.out.st).mono ?_; rintro e w3 ⟨rfl, hr⟩; have HR2 := hide (HQ.out.trans hr); have c0' := hr.st.c0; have c2' := hr.st.c2; have f1' := hr.st.f 1; have c1' := hr.st.c1; clear hr))
        go_ret2
        exact RP.bad HE.out ⟨rfl, rfl, x, hk, HR2.out⟩
      · have h0' : ¬ (x : Int) = (i : Int) := by omega
        have h0'' : ((x : Int) == (i : Int)) = false := by simpa using h0'
        obtain ⟨ds, hds⟩ : ∃ ds, s.extract i x = ds := ⟨_, rfl⟩
        have HE1 := hide (show dgs s i = ds.data.toList by rw [E.out.1, hds])
        have HE2 := hide E.out.2
        have HSZ := hide (show ds.size = x - i by rw [← hds, ByteArray.size_extract]; omega)
        have HG0 := hide (show ds.data.toList[0]? = s.data.toList[i]? by
          have h1 : i < s.size := by omega
          have h2 : 0 < ds.size := by have := HSZ.out; omega
          rw [str_get s i h1, str_get ds 0 h2]
          subst hds
          rw [ByteArray.getElem_extract]; rfl)
        by_cases hb : ds.size < 1 ∨ 4 < ds.size ∨ (1 < ds.size ∧ ds.data.toList[0]? = some 48)
        · have HE := hide (dNum_bad (s := s) (i := i) (by rw [HE2.out, ← HSZ.out, ← HG0.out]; rcases hb with h | h | h; (left; omega); (right; left; exact h); (right; right; exact h)))
          have HNB := hide (fun W => num_bad ds W (by have := HSZ.out; omega) hb)
          clear hb
          go_wp2_with (first | (go_at_call 100; refine (HNB.out _).mono ?_; rintro e w4 ⟨rfl, hb⟩; have HR1 := hide (HQ.out.below hB hb); have c1' := HR1.out.st.c1; have f1' := HR1.out.st.f 1; clear hb) | (go_at_call 35; refine (HF.out _ (Nat.le_trans hB HR1.out.size) HR1.out.st).mono ?_; rintro e w3 ⟨rfl, hr⟩; have HR2 := hide (HR1.out.trans hr); have c0' := hr.st.c0; have c2' := hr.st.c2; have f1' := hr.st.f 1; have c1' := hr.st.c1; clear hr))
          go_ret2
          refine RP.bad HE.out ⟨rfl, rfl, x, hk, ?_⟩
          exact HR2.out.set1 hB _
        · have HE := hide (dNum_ok (s := s) (i := i) (by rw [HE2.out, ← HSZ.out, ← HG0.out]; intro h; apply hb; rcases h with h | h | h; (left; omega); (right; left; exact h); (right; right; exact h)))
          have HNB := hide (fun W => num_ok ds W (by have := HSZ.out; omega) (by omega) (fun b hb => dgs_dig s i b (by rw [HE1.out]; exact hb)) (fun h => hb (.inr (.inr h))))
          clear hb
          go_wp2_with (first | (go_at_call 100; refine (HNB.out _).mono ?_; rintro e w4 ⟨rfl, hb⟩; have HR1 := hide (HQ.out.below hB hb); have c1' := HR1.out.st.c1; have f1' := HR1.out.st.f 1; clear hb))
          go_ret2
          refine RP.ok HE.out ⟨by rw [HE1.out]; rfl, ?_⟩
          rw [show i + (dgs s i).length = x by rw [HE2.out]; omega]
          exact HR1.out.set1 hB _
end Go.Proofs.YtecancnojdifaaaDoor
