/- GtStd: RateStands over Names (printed by gen_gt0.py). -/
import Derived.Test.YtkoijhecahebgaaDoorGtSmp
namespace Go.Proofs.YtkoijhecahebgaaDoor
open Go.RowKit
def rateOk (r : Int) : Bool := !outsideB r 1 1000000
def standSum (l : List Int) : Int := (l.map fun r => 1000000000000 / r).sum
theorem standSum_snoc (l : List Int) (a : Int) : standSum (l ++ [a]) = standSum l + 1000000000000 / a := by simp [standSum]
theorem standSum_bd (l : List Int) (h : ∀ r ∈ l, rateOk r = true) : 0 ≤ standSum l ∧ standSum l ≤ 1000000000000 * l.length := by
  induction l with
  | nil => simp [standSum]
  | cons a l ih =>
    have h1 := ih (fun r hr => h r (List.mem_cons_of_mem _ hr))
    have h2 := h a (List.mem_cons_self ..)
    simp [rateOk, outsideB] at h2
    have h3 : 0 ≤ 1000000000000 / a := Int.ediv_nonneg (by omega) (by omega)
    have h4 : 1000000000000 / a ≤ 1000000000000 := Int.ediv_le_self _ (by omega)
    have h5 : standSum (a :: l) = 1000000000000 / a + standSum l := by simp [standSum]
    rw [h5, List.length_cons]
    omega
/-- What Stands returns: the number, and the error. -/
def standsM (l : List Int) : Int × Int := if 1000 < l.length then (0, 4) else if l.all rateOk then ((standSum l + 500000) / 1000000, 0) else (0, 2)
theorem rateOk_iff (r : Int) : rateOk r = true ↔ 1 ≤ r ∧ r ≤ 1000000 := by simp [rateOk, outsideB]
theorem rateOk_no (r : Int) (h : rateOk r = false) : outsideB r 1 1000000 = true := by simpa [rateOk] using h
theorem rateOk_yes (r : Int) (h : rateOk r = true) : outsideB r 1 1000000 = false := by simpa [rateOk] using h
theorem all_false_of {l : List Int} {k : Nat} {a : Int} (h : l[k]? = some a) (hf : rateOk a = false) : l.all rateOk = false := by
  rw [List.all_eq_false]; exact ⟨a, List.mem_of_getElem? h, by simp [hf]⟩
set_option maxHeartbeats 400000 in
theorem Stands_any (A : Option Addr) (n c : Nat) (l : List Int) (w : World) (hl : Sl w w.heap.size ci 1 A n l) (hn : n ≤ maxLen) :
    Calls Tryd.prog 49 #[.slice A n c] w fun e w' => e = .returned (.tuple #[.int .i64 (standsM l).1, .int .i64 (standsM l).2]) ∧ w = w' := by
  unfold maxLen at hn
  have HL := hide hl.len
  by_cases h1 : 1000 < n
  · have E := hide (show standsM l = (0, 4) by rw [standsM, if_pos (by have := HL.out; omega)])
    go_enter Tryd.func49, Tryd.ntmps49
    go_wp2
    go_ret2
    exact ⟨by rw [E.out]; rfl, rfl⟩
  · go_enter Tryd.func49, Tryd.ntmps49
    go_wp2
    go_loop [4, 12] (fun v i => ∃ k : Nat, k ≤ n ∧ i = .int .i64 k ∧ (∀ r ∈ l.take k, rateOk r = true) ∧ v = .int .i64 (standSum (l.take k))) (fun _ i => n - (intOf i).toNat)
    case atStart => exact ⟨0, Nat.zero_le _, rfl, by simp, rfl⟩
    case round =>
      obtain ⟨k, hk, rfl, hall, rfl⟩ := hrel
      have hbd := standSum_bd _ hall
      have hlen : (l.take k).length ≤ k := List.length_take_le _ _
      by_cases hlt : k < n
      · obtain ⟨b, o, a, rfl, hb, ha, hc⟩ := hl.at_ hlt
        have hc0 := hc 0 _ rfl
        simp only [Nat.mul_one, Nat.add_zero] at hc0
        have HA := hide ha
        have HALL := hide hall
        clear hc ha hall
        by_cases hok : rateOk a = true
        · have ⟨ha1, ha2⟩ := (rateOk_iff a).1 hok
          have hout := rateOk_yes a hok
          have hq : 0 ≤ 1000000000000 / a ∧ 1000000000000 / a ≤ 1000000000000 := ⟨Int.ediv_nonneg (by omega) (by omega), Int.ediv_le_self _ (by omega)⟩
          go_wp2_with (go_at_call 50; refine (outside_any _ _ _ _).mono ?_; rintro e w' ⟨rfl, rfl⟩)
          go_round
          case rel =>
            refine ⟨k + 1, by omega, by go_num, ?_, ?_⟩
            · intro r hr
              rw [take_succ_get HA.out, List.mem_append, List.mem_singleton] at hr
              rcases hr with hr | rfl
              · exact HALL.out r hr
              · exact hok
            · rw [take_succ_get HA.out, standSum_snoc]
          case measure => simp [intOf]; omega
        · have hout := rateOk_no a (by simpa using hok)
          have E := hide (show standsM l = (0, 2) by rw [standsM, if_neg (by have := HL.out; omega), all_false_of HA.out (by simpa using hok)]; rfl)
          go_wp2_with (go_at_call 50; refine (outside_any _ _ _ _).mono ?_; rintro e w' ⟨rfl, rfl⟩)
          go_ret2
          exact ⟨by rw [E.out]; rfl, rfl⟩
      · have ht : l.take k = l := take_len l (by have := HL.out; omega)
        rw [ht] at hbd hlen ⊢
        have hm : 1000000000000 * (l.length : Int) ≤ 1000000000000000 := by omega
        have E := hide (show standsM l = ((standSum l + 500000) / 1000000, 0) by rw [standsM, if_neg (by have := HL.out; omega), if_pos (by rw [List.all_eq_true]; rw [ht] at hall; exact hall)])
        clear hall ht
        go_wp2
        go_ret2
        exact ⟨by rw [E.out]; rfl, rfl⟩
theorem sl_one_int (w : World) (n : Int) (ty : TypeId) : Sl (w.alloc (.cells #[.int .i64 n] ty)) (w.alloc (.cells #[.int .i64 n] ty)).heap.size ci 1 (some ⟨w.heap.size, 0, none⟩) 1 [n] := by
  refine ⟨rfl, fun _ => ⟨w.heap.size, 0, rfl, by simp, fun i a ha j v hv => ?_⟩⟩
  match i, j, ha, hv with
  | 0, 0, ha, hv =>
    simp at ha hv
    subst ha
    simp [ci] at hv
    subst hv
    simp
  | 0, j + 1, ha, hv => simp [ci] at hv
  | i + 1, _, ha, _ => simp at ha
theorem awakeRate_any (w : World) :
    Calls Tryd.prog 20 #[] w fun e w' => e = .returned (.bool true) ∧ Below w.heap.size w w' := by
  have E := hide (show standsM [1000000] = (1, 0) by decide)
  have HS := hide (sl_one_int w 1000000)
  go_enter Tryd.func20, Tryd.ntmps20
  go_wp2_with (go_at_call 49; refine (Stands_any _ _ _ [1000000] _ (HS.out _) (by decide)).mono ?_; rintro e w' ⟨rfl, rfl⟩; rw [E.out])
  go_ret
  exact ⟨rfl, (Below.refl _ _).alloc (Nat.le_refl _) _⟩
end Go.Proofs.YtkoijhecahebgaaDoor
