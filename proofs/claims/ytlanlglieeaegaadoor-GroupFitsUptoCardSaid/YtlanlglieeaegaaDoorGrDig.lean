/- Walk of the closure 'digits' of the reference's Plained. -/
import Derived.Test.YtlanlglieeaegaaDoorGrRow
import Derived.Lib.IndexAny
namespace Go.Proofs.YtlanlglieeaegaaDoor
open Go.RowKit
set_option linter.unusedVariables false
theorem u8_all {f g : UInt8 → Bool} (h : ∀ n, n < 256 → f (UInt8.ofNat n) = g (UInt8.ofNat n)) (c : UInt8) : f c = g c := by
  have := h c.toNat (UInt8.toNat_lt c)
  simpa using this
def hexB : ByteArray := ⟨#[48, 49, 50, 51, 52, 53, 54, 55, 56, 57, 97, 98, 99, 100, 101, 102, 65, 66, 67, 68, 69, 70]⟩
def decB : ByteArray := ⟨#[48, 49, 50, 51, 52, 53, 54, 55, 56, 57]⟩
theorem hexB_has (c : UInt8) : hexB.data.toList.contains c = isHx c := u8_all (f := fun c => hexB.data.toList.contains c) (by decide +kernel) c
theorem decB_has (c : UInt8) : decB.data.toList.contains c = isDig c := u8_all (f := fun c => decB.data.toList.contains c) (by decide +kernel) c
theorem index_sign (l : List UInt8) (c : UInt8) {b : Bool} (h : l.contains c = b) : if b then 0 ≤ Lib.indexByte l c else Lib.indexByte l c < 0 := by
  have := Lib.contains_iff_indexByte l c
  rw [h] at this
  cases b
  · have h2 := of_decide_eq_false this.symm
    simp; omega
  · have h2 := of_decide_eq_true this.symm
    simpa using h2
set_option maxRecDepth 100000 in
set_option maxHeartbeats 2000000 in
theorem dig_any (t : ByteArray) (p : UInt8 → Bool) (hp : ∀ c, t.data.toList.contains c = p c) (s : ByteArray) (n bn bs : Nat) (w : World) (hn : n ≤ s.size) (hs : s.size ≤ 9223372036854775000) (c0 : w.cell? ⟨bn, 0, none⟩ = some (.int .i64 n)) (c1 : w.cell? ⟨bs, 0, none⟩ = some (.string s)) :
    Calls Tryd.prog 19 #[.string t, .pointer (some ⟨bn, 0, none⟩), .pointer (some ⟨bs, 0, none⟩)] w fun e w' => e = .returned (.int .i64 (n + run p (s.data.toList.drop n) : Nat)) ∧ w = w' := by
  have HC := hide (fun (c : UInt8) W => Tryd.strings_IndexByte t (c.toNat : Int) W)
  have HPX := hide hp
  clear hp
  obtain ⟨r, hr⟩ : ∃ r : Nat, n + run p (s.data.toList.drop n) = r := ⟨_, rfl⟩
  rw [hr]
  have HR := hide hr
  clear hr
  go_enter Tryd.func19, Tryd.ntmps19
  go_wp2
  go_loop [5] (fun i => ∃ k : Nat, n ≤ k ∧ k ≤ s.size ∧ i = .int .i64 k ∧ ∀ (j : Nat) c, j < k - n → (s.data.toList.drop n)[j]? = some c → p c = true) (fun i => s.size - (intOf i).toNat)
  case atStart => exact ⟨n, Nat.le_refl _, hn, rfl, fun j c h => by omega⟩
  case round =>
    obtain ⟨k, hnk, hk, rfl, hall⟩ := hrel
    have HALL := hide hall
    clear hall
    by_cases hlt : k < s.size
    · obtain ⟨c, hc⟩ : ∃ c, s[k] = c := ⟨_, rfl⟩
      have HG := hide (show (s.data.toList.drop n)[k - n]? = some c by rw [List.getElem?_drop, show n + (k - n) = k by omega, get_at s k hlt, hc])
      obtain ⟨x, hx⟩ : ∃ x, Lib.indexByte t.data.toList c = x := ⟨_, rfl⟩
      have hsg := index_sign t.data.toList c (HPX.out c)
      rw [hx] at hsg
      have HI := hide (show ∀ W, Calls Tryd.prog 16 #[.string t, .int .u8 s[k].toNat] W fun e w' => e = .returned (.int .i64 x) ∧ w' = W from fun W => by
        have := HC.out c W
        rw [show ((c.toNat : Int)).toNat.toUInt8 = c by simp, hx] at this
        rw [hc]; exact this)
      cases hq : p c
      · rw [hq] at hsg
        have hx1 : x < 0 := hsg
        have hx2 : decide (0 ≤ x) = false := by simp; omega
        have E := hide (show r = k by rw [← HR.out, run_snoc HALL.out (by simp; omega) (fun d hd => by rw [HG.out] at hd; cases hd; exact hq)]; omega)
        clear hx hsg hc hq
        go_wp2_with (go_at_call 16; refine (HI.out _).mono ?_; rintro e w' ⟨rfl, rfl⟩)
        go_ret
        exact ⟨by rw [E.out]; rfl, rfl⟩
      · rw [hq] at hsg
        have hx1 : 0 ≤ x := hsg
        have HQ := hide hq
        clear hx hsg hc hq
        go_wp2_with (go_at_call 16; refine (HI.out _).mono ?_; rintro e w' ⟨rfl, rfl⟩)
        go_round
        case rel => exact ⟨k + 1, by omega, by omega, by go_num, fun j d hj hd => by (by_cases e : j = k - n); (subst e; rw [HG.out] at hd; cases hd; exact HQ.out); exact HALL.out j d (by omega) hd⟩
        case measure => simp [intOf]; omega
    · have E := hide (show r = k by rw [← HR.out, run_snoc HALL.out (by simp; omega) (fun d hd => by rw [List.getElem?_drop, get_none s _ (by omega)] at hd; cases hd)]; omega)
      go_wp2_with (fail)
      go_ret
      exact ⟨by rw [E.out]; rfl, rfl⟩
end Go.Proofs.YtlanlglieeaegaaDoor
