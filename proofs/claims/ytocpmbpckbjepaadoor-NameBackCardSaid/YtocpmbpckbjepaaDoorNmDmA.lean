/- Walks of fail, peek, take and need of both readers of mangled names (printed by gen_da.py). -/
import Derived.Test.YtocpmbpckbjepaaDoorNmDmS
import Derived.Test.YtocpmbpckbjepaaDoorNmGA
import Derived.WalkKit
import Derived.BigQuiet
namespace Go.Proofs.YtocpmbpckbjepaaDoor
open Go.RowKit
set_option linter.unusedVariables false
set_option linter.unusedSimpArgs false
/-- The byte that comes; 0 at the end. -/
def pkB (s : ByteArray) (i : Nat) : UInt8 := (s.data.toList[i]?).getD 0
theorem pkB_lt {s : ByteArray} {i : Nat} (h : i < s.size) : pkB s i = s[i] := by
  unfold pkB; rw [show s.data.toList[i]? = some s[i] from str_get s i h]; rfl
theorem pkB_end {s : ByteArray} {i : Nat} (h : ¬ i < s.size) : pkB s i = 0 := by
  unfold pkB; rw [List.getElem?_eq_none (by rw [str_len]; omega)]; rfl
theorem pkB_is {s : ByteArray} {i : Nat} {b : UInt8} (h : s.data.toList[i]? = some b) : pkB s i = b := by unfold pkB; rw [h]; rfl
theorem pkB_iff {s : ByteArray} {i : Nat} {b : UInt8} (h0 : b ≠ 0) : pkB s i = b ↔ s.data.toList[i]? = some b := by
  refine ⟨fun h => ?_, pkB_is⟩
  by_cases hl : i < s.size
  · rw [show s.data.toList[i]? = some s[i] from str_get s i hl, ← pkB_lt hl, h]
  · rw [pkB_end hl] at h; exact absurd h.symm h0
theorem u8_neD {a b : UInt8} (h : ¬ a = b) : ¬ (a.toNat : Int) = (b.toNat : Int) := fun e => h (UInt8.toNat_inj.1 (by omega))
theorem pk_ne {s : ByteArray} {i : Nat} {b : UInt8} (h0 : b ≠ 0) (h : ¬ s.data.toList[i]? = some b) : ¬ ((pkB s i).toNat : Int) = (b.toNat : Int) := u8_neD (fun e => h ((pkB_iff h0).1 e))
theorem get_lt' {s : ByteArray} {i : Nat} {b : UInt8} (h : s.data.toList[i]? = some b) : i < s.size := get_lt h
set_option maxHeartbeats 2000000 in
theorem nFail_new (B c mb : Nat) (s : ByteArray) (D : List Nd) (F : Nat → Prop) (w : World) (hB : B ≤ w.heap.size) (i a : Int) (h : nS B c mb s i (-1) D F w) :
    Calls Tryd.prog 28 #[.pointer (some ⟨c, 0, none⟩), .int .i64 a] w fun e w' => e = .returned (.tuple #[]) ∧ nR B c mb s i a D F F w w' := by
  have HP := hide (nR.refl h)
  have c2 := h.c2
  have f2 := h.f 2
  clear h
  go_enter Tryd.func28, Tryd.ntmps28
  go_wp2_with (fail)
  go_end0
  exact ⟨rfl, HP.out.set2 hB a⟩
set_option maxHeartbeats 2000000 in
theorem nFail_old (B c mb : Nat) (s : ByteArray) (D : List Nd) (F : Nat → Prop) (w : World) (hB : B ≤ w.heap.size) (i q a : Int) (h0 : 0 ≤ q) (h : nS B c mb s i q D F w) :
    Calls Tryd.prog 28 #[.pointer (some ⟨c, 0, none⟩), .int .i64 a] w fun e w' => e = .returned (.tuple #[]) ∧ nR B c mb s i q D F F w w' := by
  have HP := hide (nR.refl h)
  have c2 := h.c2
  have h1 : decide (q < 0) = false := by simp; omega
  clear h
  go_enter Tryd.func28, Tryd.ntmps28
  go_wp2_with (fail)
  go_end0
  exact ⟨rfl, HP.out⟩
set_option maxRecDepth 100000 in
set_option maxHeartbeats 4000000 in
theorem nPeek (B c mb : Nat) (s : ByteArray) (D : List Nd) (F : Nat → Prop) (w : World) (hB : B ≤ w.heap.size) (i : Nat) (hs : s.size ≤ 8000) (h : nS B c mb s i (-1) D F w) :
    Calls Tryd.prog 26 #[.pointer (some ⟨c, 0, none⟩)] w fun e w' => e = .returned (.int .u8 (pkB s i).toNat) ∧ nR B c mb s i (-1) D F F w w' := by
  have HP := hide (nR.refl h)
  have c0 := h.c0
  have c1 := h.c1
  have c2 := h.c2
  clear h
  by_cases hlt : i < s.size
  · have E := hide (pkB_lt hlt)
    have t1 : decide ((s.size : Int) ≤ (i : Int)) = false := by simp; omega
    have t2 : decide (s.size ≤ i) = false := by simp; omega
    go_enter Tryd.func26, Tryd.ntmps26
    go_wp2_with (go_quiet (fail))
    go_ret
    exact ⟨by rw [E.out]; rfl, HP.out.below hB (below_drewN (below_drewN (Below.refl _ _) _) _)⟩
  · have E := hide (pkB_end hlt)
    have t1 : (s.size : Int) ≤ (i : Int) := by omega
    go_enter Tryd.func26, Tryd.ntmps26
    go_wp2_with (go_quiet (fail))
    go_ret
    exact ⟨by rw [E.out]; rfl, HP.out.below hB (below_drewN (Below.refl _ _) _)⟩
set_option maxRecDepth 100000 in
set_option maxHeartbeats 4000000 in
theorem nPeek_off (B c mb : Nat) (s : ByteArray) (D : List Nd) (F : Nat → Prop) (w : World) (hB : B ≤ w.heap.size) (i q : Int) (h0 : 0 ≤ q) (h : nS B c mb s i q D F w) :
    Calls Tryd.prog 26 #[.pointer (some ⟨c, 0, none⟩)] w fun e w' => e = .returned (.int .u8 0) ∧ nR B c mb s i q D F F w w' := by
  have HP := hide (nR.refl h)
  have c2 := h.c2
  clear h
  go_enter Tryd.func26, Tryd.ntmps26
  go_wp2_with (go_quiet (fail))
  go_ret
  exact ⟨rfl, HP.out.below hB (below_drewN (Below.refl _ _) _)⟩
set_option maxRecDepth 100000 in
set_option maxHeartbeats 4000000 in
theorem nTake_ok (B c mb : Nat) (s : ByteArray) (D : List Nd) (F : Nat → Prop) (w : World) (hB : B ≤ w.heap.size) (i : Nat) (b : UInt8) (hs : s.size ≤ 8000) (hb : s.data.toList[i]? = some b) (h : nS B c mb s i (-1) D F w) :
    Calls Tryd.prog 24 #[.pointer (some ⟨c, 0, none⟩), .int .u8 b.toNat] w fun e w' => e = .returned (.tuple #[]) ∧ nR B c mb s ((i + 1 : Nat) : Int) (-1) D F F w w' := by
  have HP := hide (nR.refl h)
  have c0 := h.c0
  have c1 := h.c1
  have c2 := h.c2
  have f1 := h.f 1
  have hlt := get_lt hb
  have hbb : s[i] = b := by rw [show s.data.toList[i]? = some s[i] from str_get s i hlt] at hb; exact Option.some.inj hb
  subst hbb
  have t1 : decide ((s.size : Int) ≤ (i : Int)) = false := by simp; omega
  have t2 : decide (s.size ≤ i) = false := by simp; omega
  clear h hb
  go_enter Tryd.func24, Tryd.ntmps24
  go_wp2_with (go_quiet (fail))
  go_end0
  refine ⟨rfl, ?_⟩
  rw [show ((i + 1 : Nat) : Int) = (i : Int) + 1 by omega]
  exact (HP.out.below hB (below_drewN (Below.refl _ _) _)).set1 hB _
set_option maxRecDepth 100000 in
set_option maxHeartbeats 4000000 in
theorem nTake_bad (B c mb : Nat) (s : ByteArray) (D : List Nd) (F : Nat → Prop) (w : World) (hB : B ≤ w.heap.size) (i : Nat) (b : UInt8) (hs : s.size ≤ 8000) (hi : i ≤ s.size) (hb : ¬ s.data.toList[i]? = some b) (h : nS B c mb s i (-1) D F w) :
    Calls Tryd.prog 24 #[.pointer (some ⟨c, 0, none⟩), .int .u8 b.toNat] w fun e w' => e = .returned (.tuple #[]) ∧ ∃ j : Nat, j ≤ s.size + 1 ∧ nR B c mb s j i D F F w w' := by
  have HP := hide (nR.refl h)
  have HF := hide (fun (W : World) (hW : B ≤ W.heap.size) (h : nS B c mb s i (-1) D F W) => nFail_new B c mb s D F W hW i i h)
  have c0 := h.c0
  have c1 := h.c1
  have c2 := h.c2
  have HD := hide (fun n => HP.out.below hB (below_drewN (Below.refl w.heap.size w) n))
  have HC := hide (fun n => HF.out (w.drewN n) (Nat.le_trans hB (HD.out n).size) (HD.out n).st)
  clear h
  by_cases hlt : i < s.size
  · have t1 : decide ((s.size : Int) ≤ (i : Int)) = false := by simp; omega
    have t2 : decide (s.size ≤ i) = false := by simp; omega
    have hne : ¬ s[i] = b := fun e => hb (by rw [show s.data.toList[i]? = some s[i] from str_get s i hlt, e])
    have t3 : ¬ (s[i].toNat : Int) = (b.toNat : Int) := u8_neD hne
    have t4 : ((s[i].toNat : Int) == (b.toNat : Int)) = false := by simpa using t3
    clear hne hb
    go_enter Tryd.func24, Tryd.ntmps24
    go_wp2_with (first | go_quiet (fail) | (go_at_call 28; refine (HC.out _).mono ?_; rintro e w1 ⟨rfl, hr⟩; have HR := hide ((HD.out _).trans hr); have c1 := HR.out.st.c1; have c2 := HR.out.st.c2; have f1 := HR.out.st.f 1; clear hr))
    go_end0
    refine ⟨rfl, i + 1, by omega, ?_⟩
    rw [show ((i + 1 : Nat) : Int) = (i : Int) + 1 by omega]
    exact HR.out.set1 hB _
  · have t1 : (s.size : Int) ≤ (i : Int) := by omega
    clear hb
    go_enter Tryd.func24, Tryd.ntmps24
    go_wp2_with (first | go_quiet (fail) | (go_at_call 28; refine (HC.out _).mono ?_; rintro e w1 ⟨rfl, hr⟩; have HR := hide ((HD.out _).trans hr); have c1 := HR.out.st.c1; have c2 := HR.out.st.c2; have f1 := HR.out.st.f 1; clear hr))
    go_end0
    refine ⟨rfl, i + 1, by omega, ?_⟩
    rw [show ((i + 1 : Nat) : Int) = (i : Int) + 1 by omega]
    exact HR.out.set1 hB _
set_option maxRecDepth 100000 in
set_option maxHeartbeats 4000000 in
theorem nTake_off (B c mb : Nat) (s : ByteArray) (D : List Nd) (F : Nat → Prop) (w : World) (hB : B ≤ w.heap.size) (i : Nat) (q : Int) (b : UInt8) (hi : i ≤ 1000000) (h0 : 0 ≤ q) (h : nS B c mb s i q D F w) :
    Calls Tryd.prog 24 #[.pointer (some ⟨c, 0, none⟩), .int .u8 b.toNat] w fun e w' => e = .returned (.tuple #[]) ∧ nR B c mb s ((i + 1 : Nat) : Int) q D F F w w' := by
  have HP := hide (nR.refl h)
  have c0 := h.c0
  have c1 := h.c1
  have c2 := h.c2
  have f1 := h.f 1
  have t0 : decide (q < 0) = false := by simp; omega
  clear h
  go_enter Tryd.func24, Tryd.ntmps24
  go_wp2_with (go_quiet (fail))
  go_end0
  refine ⟨rfl, ?_⟩
  rw [show ((i + 1 : Nat) : Int) = (i : Int) + 1 by omega]
  exact (HP.out.below hB (below_drewN (Below.refl _ _) _)).set1 hB _
end Go.Proofs.YtocpmbpckbjepaaDoor
