/- Counts; walks of the sums of both watches (printed by gen_a3.py). -/
import Derived.Test.YtpjfihdbbgencaaDoorAlErr
namespace Go.Proofs.YtpjfihdbbgencaaDoor
open Go.RowKit
set_option linter.unusedVariables false
set_option linter.unusedSimpArgs false
structure Ct where
  key : ByteArray
  at_ : Int
  n : Int
/-- The cells of a count. -/
def Ct.cs (c : Ct) : List Value := [.string c.key, .int .i64 c.at_, .int .i64 c.n]
def hitB (key : ByteArray) (a t : Int) (c : Ct) : Bool := decide (a < c.at_) && decide (c.at_ ≤ t) && (decide (key.size = 0) || beqS c.key key)
def sumC (key : ByteArray) (a t : Int) (l : List Ct) : Int := (l.map fun c => if hitB key a t c then c.n else 0).sum
theorem sumC_snoc (key : ByteArray) (a t : Int) (l : List Ct) (c : Ct) : sumC key a t (l ++ [c]) = sumC key a t l + (if hitB key a t c then c.n else 0) := by simp [sumC]
/-- Counts that are as they may be, and not too many. -/
def CtFit (l : List Ct) : Prop := l.length ≤ 1000 ∧ ∀ c ∈ l, 0 ≤ c.n ∧ c.n ≤ 1000000 ∧ c.key.size ≤ maxLen
theorem sumC_le (key : ByteArray) (a t : Int) : ∀ l : List Ct, (∀ c ∈ l, 0 ≤ c.n ∧ c.n ≤ 1000000 ∧ c.key.size ≤ maxLen) → 0 ≤ sumC key a t l ∧ sumC key a t l ≤ 1000000 * l.length
  | [], _ => by simp [sumC]
  | c :: l, h => by
    have ih := sumC_le key a t l (fun x hx => h x (by simp [hx]))
    have h0 := h c (by simp)
    have e : sumC key a t (c :: l) = (if hitB key a t c then c.n else 0) + sumC key a t l := by simp [sumC]
    rw [e, List.length_cons]
    split <;> constructor <;> omega
theorem str_ne {s t : ByteArray} (h : s ≠ t) : (s.toList == t.toList) = false ∧ ¬ s.toList = t.toList := by
  have h1 : ¬ s.toList = t.toList := by
    rw [ByteArray.toList_eq, ByteArray.toList_eq]
    intro e
    apply h
    obtain ⟨⟨l⟩⟩ := s
    obtain ⟨⟨m⟩⟩ := t
    simp at e
    rw [e]
  exact ⟨by simpa using h1, h1⟩
theorem beqS_ne {s t : ByteArray} (h : s ≠ t) : beqS s t = false := by rw [← beqS_toList]; exact (str_ne h).1
theorem beqS_self (s : ByteArray) : beqS s s = true := by simp [beqS]
theorem s_empty {s : ByteArray} (h : s.size = 0) : s = ⟨#[]⟩ := by
  obtain ⟨⟨l⟩⟩ := s
  have : l.length = 0 := h
  rw [List.length_eq_zero_iff.1 this]
theorem s_full {s : ByteArray} (h : s.size ≠ 0) : s.toList.isEmpty = false ∧ ¬ s.toList = [] ∧ (s.toList == []) = false := by
  have h1 : ¬ s.toList = [] := by
    rw [ByteArray.toList_eq]
    intro e
    have : s.data.toList.length = s.size := by simp
    rw [e] at this
    exact h (by simpa using this.symm)
  exact ⟨by simpa [List.isEmpty_iff] using h1, h1, by simpa using h1⟩
set_option maxRecDepth 100000 in
set_option maxHeartbeats 4000000 in
theorem nSum_any (pw : Nat) (key : ByteArray) (a t : Int) (A : Option Addr) (n cap : Nat) (l : List Ct) (w : World) (hc0 : w.cell? ⟨pw, 1, none⟩ = some (.slice A n cap)) (hl : Sl w w.heap.size Ct.cs 3 A n l) (hf : CtFit l) :
    Calls Tryd.prog 50 #[.pointer (some ⟨pw, 0, none⟩), .string key, .int .i64 a, .int .i64 t] w fun e w' => e = .returned (.int .i64 (sumC key a t l)) ∧ Below w.heap.size w w' := by
  obtain ⟨hf1, hf2⟩ := hf
  have HL := hide hl.len
  have HSL := hide hl
  have hn := hl.len
  have hpw := World.block_lt_of_cell? w _ hc0
  simp only at hpw
  clear hl
  rw [hn] at hf1
  have HN := hide hn
  clear hn
  go_enter Tryd.func50, Tryd.ntmps50
  go_wp2_with (fail)
  go_loopw [9, 17] (fun v i wr => ∃ j : Nat, j ≤ n ∧ i = .int .i64 j ∧ v = .int .i64 (sumC key a t (l.take j)) ∧ Below w.heap.size w wr) (fun _ i _ => n - (intOf i).toNat)
  case atStart => exact ⟨0, Nat.zero_le _, rfl, rfl, Below.refl _ _⟩
  case round =>
    obtain ⟨j, hj, rfl, rfl, hB⟩ := hrel
    have hz := hB.size
    by_cases hlt : j < n
    · obtain ⟨bb, oo, x, rfl, hbb, hx, hc⟩ := (HSL.out.below hB).at_ hlt
      obtain ⟨ck, cat, cn⟩ := x
      have c0 : wr.cell? ⟨bb, oo + j * 3, none⟩ = some (.string ck) := by simpa using hc 0 _ rfl
      have c1 : wr.cell? ⟨bb, oo + j * 3 + 1, none⟩ = some (.int .i64 cat) := hc 1 _ rfl
      have c2 : wr.cell? ⟨bb, oo + j * 3 + 2, none⟩ = some (.int .i64 cn) := hc 2 _ rfl
      have HX := hide hx
      have HF2 := hide hf2
      have hcn := hf2 _ (List.mem_of_getElem? hx)
      have hcn0 : 0 ≤ cn := hcn.1
      have hcn1 : cn ≤ 1000000 := hcn.2.1
      have HBA := hide (hB.alloc hz (.cells #[.string ck, .int .i64 cat, .int .i64 cn] 83))
      clear hc hx hcn
      by_cases h1 : a < cat
      · by_cases h2 : cat ≤ t
        · by_cases h3 : key.size = 0
          · obtain rfl := s_empty h3
            have HH := hide (show hitB ⟨#[]⟩ a t ⟨ck, cat, cn⟩ = true by rw [hitB, decide_eq_true h1, decide_eq_true h2]; rfl)
            have HS := hide (show sumC ⟨#[]⟩ a t (l.take (j + 1)) = sumC ⟨#[]⟩ a t (l.take j) + cn by rw [take_succ_get HX.out, sumC_snoc, HH.out]; rfl)
            have hsb : 0 ≤ sumC ⟨#[]⟩ a t (l.take j) ∧ sumC ⟨#[]⟩ a t (l.take j) ≤ 1000000 * (l.take j).length := sumC_le _ a t (l.take j) (fun c hc => hf2 c (List.mem_of_mem_take hc))
            have hlen : (l.take j).length ≤ 1000 := by rw [List.length_take]; omega
            obtain ⟨v, hv⟩ : ∃ v, sumC ⟨#[]⟩ a t (l.take j) = v := ⟨_, rfl⟩
            rw [hv] at HS hsb ⊢
            clear hv HX HH
            go_wp2_with (fail)
            go_roundw
            case rel => exact ⟨j + 1, by omega, by go_num, by rw [HS.out], HBA.out⟩
            case measure => simp [intOf]; omega
          · obtain ⟨e1, e2, e3⟩ := s_full h3
            by_cases h4 : ck = key
            · subst h4
              have HH := hide (show hitB ck a t ⟨ck, cat, cn⟩ = true by rw [hitB, decide_eq_true h1, decide_eq_true h2]; simp [beqS_self])
              clear h3
              have HS := hide (show sumC ck a t (l.take (j + 1)) = sumC ck a t (l.take j) + cn by rw [take_succ_get HX.out, sumC_snoc, HH.out]; rfl)
              have hsb : 0 ≤ sumC ck a t (l.take j) ∧ sumC ck a t (l.take j) ≤ 1000000 * (l.take j).length := sumC_le _ a t (l.take j) (fun c hc => hf2 c (List.mem_of_mem_take hc))
              have hlen : (l.take j).length ≤ 1000 := by rw [List.length_take]; omega
              obtain ⟨v, hv⟩ : ∃ v, sumC ck a t (l.take j) = v := ⟨_, rfl⟩
              rw [hv] at HS hsb ⊢
              clear hv HX HH
              go_wp2_with (fail)
              go_roundw
              case rel => exact ⟨j + 1, by omega, by go_num, by rw [HS.out], HBA.out⟩
              case measure => simp [intOf]; omega
            · obtain ⟨e4, e5⟩ := str_ne h4
              have HH := hide (show hitB key a t ⟨ck, cat, cn⟩ = false by rw [hitB, decide_eq_true h1, decide_eq_true h2, decide_eq_false h3, beqS_ne h4]; rfl)
              clear h3 h4
              have HS := hide (show sumC key a t (l.take (j + 1)) = sumC key a t (l.take j) by rw [take_succ_get HX.out, sumC_snoc, HH.out]; simp)
              clear HX HH
              go_wp2_with (fail)
              go_roundw
              case rel => exact ⟨j + 1, by omega, by go_num, by rw [HS.out], HBA.out⟩
              case measure => simp [intOf]; omega
        · have h2' : decide (cat ≤ t) = false := by simpa using h2
          have HH := hide (show hitB key a t ⟨ck, cat, cn⟩ = false by rw [hitB, decide_eq_false h2, Bool.and_false]; rfl)
          
          have HS := hide (show sumC key a t (l.take (j + 1)) = sumC key a t (l.take j) by rw [take_succ_get HX.out, sumC_snoc, HH.out]; simp)
          clear HX HH
          go_wp2_with (fail)
          go_roundw
          case rel => exact ⟨j + 1, by omega, by go_num, by rw [HS.out], HBA.out⟩
          case measure => simp [intOf]; omega
      · have h1' : decide (a < cat) = false := by simpa using h1
        have HH := hide (show hitB key a t ⟨ck, cat, cn⟩ = false by rw [hitB, decide_eq_false h1]; rfl)
        
        have HS := hide (show sumC key a t (l.take (j + 1)) = sumC key a t (l.take j) by rw [take_succ_get HX.out, sumC_snoc, HH.out]; simp)
        clear HX HH
        go_wp2_with (fail)
        go_roundw
        case rel => exact ⟨j + 1, by omega, by go_num, by rw [HS.out], HBA.out⟩
        case measure => simp [intOf]; omega
    · obtain rfl : j = n := by omega
      have E := hide (show l.take j = l from take_len l (by rw [HN.out]; exact Nat.le_refl _))
      go_wp2_with (fail)
      go_ret
      exact ⟨by rw [E.out]; rfl, hB⟩
end Go.Proofs.YtpjfihdbbgencaaDoor
