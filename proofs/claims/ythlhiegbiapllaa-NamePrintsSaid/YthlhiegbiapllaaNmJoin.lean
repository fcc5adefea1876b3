/- Walks of strings.Join at separators of one and of two bytes (printed by gen_nj.py). -/
import Derived.Test.YthlhiegbiapllaaNmText
import Derived.Test.YthlhiegbiapllaaStBld
import Derived.Test.YthlhiegbiapllaaSlDrop
namespace Go.Proofs.Ythlhiegbiapllaa
open Go.RowKit
set_option linter.unusedVariables false
/-- Strings joined by a byte. -/
def joinL (c : UInt8) : List ByteArray → List UInt8
  | [] => []
  | x :: r => x.data.toList ++ r.flatMap fun y => c :: y.data.toList
def sumL (xs : List ByteArray) : Nat := (xs.map ByteArray.size).sum
theorem sumL_snoc (xs : List ByteArray) (x : ByteArray) : sumL (xs ++ [x]) = sumL xs + x.size := by simp [sumL]
theorem sumL_take (xs : List ByteArray) (k : Nat) : sumL (xs.take k) ≤ sumL xs := by
  have h : sumL (xs.take k ++ xs.drop k) = sumL (xs.take k) + sumL (xs.drop k) := by simp only [sumL, List.map_append, List.sum_append]
  rw [List.take_append_drop] at h
  omega
theorem joinL_snoc (c : UInt8) (xs : List ByteArray) (x : ByteArray) (h : xs ≠ []) : joinL c (xs ++ [x]) = joinL c xs ++ (c :: x.data.toList) := by
  cases xs with
  | nil => exact absurd rfl h
  | cons y r => simp [joinL]
theorem joinL_len (c : UInt8) : ∀ xs : List ByteArray, (joinL c xs).length ≤ sumL xs + xs.length
  | [] => by simp [joinL, sumL]
  | x :: r => by
    have : (r.flatMap fun y => c :: y.data.toList).length = sumL r + r.length := by
      induction r with
      | nil => rfl
      | cons y r ih => simp [List.flatMap_cons, sumL] at ih ⊢; omega
    simp only [joinL, List.length_append, this]
    simp [sumL]; omega
theorem strCells_eq (s : ByteArray) : Lib.strCells s = Lib.byteCells s.data.toList := rfl
theorem bytes_app (a b : List UInt8) : Lib.byteCells a ++ Lib.byteCells b = Lib.byteCells (a ++ b) := by simp [Lib.byteCells]
theorem bytes_len (a : List UInt8) : (Lib.byteCells a).length = a.length := by simp [Lib.byteCells]
/-- Strings joined by two bytes. -/
def joinTwo (s1 s2 : UInt8) : List ByteArray → List UInt8
  | [] => []
  | x :: r => x.data.toList ++ r.flatMap fun y => s1 :: s2 :: y.data.toList
theorem joinTwo_snoc (s1 s2 : UInt8) (xs : List ByteArray) (x : ByteArray) (h : xs ≠ []) : joinTwo s1 s2 (xs ++ [x]) = joinTwo s1 s2 xs ++ (s1 :: s2 :: x.data.toList) := by
  cases xs with
  | nil => exact absurd rfl h
  | cons y r => simp [joinTwo]
theorem joinTwo_len (s1 s2 : UInt8) : ∀ xs : List ByteArray, (joinTwo s1 s2 xs).length ≤ sumL xs + 2 * xs.length
  | [] => by simp [joinTwo, sumL]
  | x :: r => by
    have : (r.flatMap fun y => s1 :: s2 :: y.data.toList).length = sumL r + 2 * r.length := by
      induction r with
      | nil => rfl
      | cons y r ih => simp [List.flatMap_cons, sumL] at ih ⊢; omega
    simp only [joinTwo, List.length_append, this]
    simp [sumL]; omega
set_option maxRecDepth 100000 in
set_option maxHeartbeats 8000000 in
theorem Join_any (A : Option Addr) (n c : Nat) (xs : List ByteArray) (sc : UInt8) (w : World) (hnc : n ≤ c) (hc63 : c ≤ maxLen) (hsum : sumL xs + n ≤ 1000000000) (hl : Sl w w.heap.size cs 1 A n xs) :
    Calls Try.prog 69 #[.slice A n c, .string ⟨#[sc]⟩] w fun e w' => e = .returned (.string ⟨(joinL sc xs).toArray⟩) ∧ Below w.heap.size w w' := by
  unfold maxLen at hc63
  have HL := hide hl.len
  have HSL := hide hl
  by_cases h0 : n = 0
  · subst h0
    have hxs : xs = [] := List.eq_nil_of_length_eq_zero hl.len
    have E := hide (show joinL sc xs = [] by rw [hxs]; rfl)
    clear hl hxs
    go_enter Try.func69, Try.ntmps69
    go_wp2_with (fail)
    go_ret
    exact ⟨by rw [E.out]; rfl, Below.refl _ _⟩
  · by_cases h1 : n = 1
    · subst h1
      obtain ⟨b, o, x, rfl, hb, hx, hcs⟩ := hl.at_ (k := 0) (by omega)
      have hc0 : w.cell? ⟨b, o, none⟩ = some (.string x) := by simpa [cs] using hcs 0 _ rfl
      have E := hide (show joinL sc xs = x.data.toList by
        match xs, HL.out, hx with
        | [y], _, hx => simp at hx; subst hx; simp [joinL])
      clear hl hcs hx
      go_enter Try.func69, Try.ntmps69
      go_wp2_with (fail)
      go_ret
      exact ⟨by rw [E.out]; rfl, Below.refl _ _⟩
    · obtain ⟨m, rfl⟩ : ∃ m, n = m + 2 := ⟨n - 2, by omega⟩
      obtain ⟨Q, hQ⟩ : ∃ Q : Int, (9223372036854775807 : Int).tdiv ((m : Int) + 1) = Q := ⟨_, rfl⟩
      have hQ1 : 1 < Q := by
        rw [← hQ, Int.tdiv_eq_ediv_of_nonneg (by omega)]
        have : (2 : Int) ≤ 9223372036854775807 / ((m : Int) + 1) := Int.le_ediv_of_mul_le (by omega) (by omega)
        omega
      have hq1 : (m : Int) + 2 - 1 = (m : Int) + 1 := by omega
      have hQe : (9223372036854775807 : Int) / ((m : Int) + 1) = Q := by rw [← hQ, Int.tdiv_eq_ediv_of_nonneg (by omega)]
      have hQd : decide (Q ≤ 1) = false := by simp; omega
      have hQu : Q ≤ 9223372036854775807 := by rw [← hQe]; exact Int.ediv_le_self _ (by omega)
      have hQw : wrap64 Q = Q := by unfold wrap64; omega
      have hx0 : ∃ b o, A = some ⟨b, o, none⟩ ∧ b < w.heap.size ∧ ∀ k y, xs[k]? = some y → w.cell? ⟨b, o + k, none⟩ = some (.string y) := by
        obtain ⟨b, o, e, hb, hc⟩ := hl.cells (by omega)
        exact ⟨b, o, e, hb, fun k y hy => by simpa [cs] using hc k y hy 0 _ rfl⟩
      obtain ⟨b, o, rfl, hb, hcs⟩ := hx0
      have HCS := hide hcs
      have hgt : ∀ k, k < m + 2 → ∃ y, xs[k]? = some y := fun k hk => ⟨xs[k]'(by rw [HL.out]; exact hk), List.getElem?_eq_getElem _⟩
      have HGT := hide hgt
      have HQ := hide hQ1
      clear hl hcs hgt h0 h1
      go_enter Try.func69, Try.ntmps69
      go_wp2_with (fail)
      go_loopw [41, 5] (fun a b wr => ∃ k S : Nat, k ≤ m + 2 ∧ a = .int .i64 k ∧ b = .int .i64 S ∧ S = (m + 1) + sumL (xs.take k) ∧ Below w.heap.size w wr) (fun a _ _ => m + 2 - (intOf a).toNat)
      case atStart => exact ⟨0, m + 1, Nat.zero_le _, rfl, by go_num, by simp [sumL], Below.refl _ _⟩
      case round =>
        obtain ⟨k, S, hk, rfl, rfl, hS, hB⟩ := hrel
        have hst := sumL_take xs k
        have hSb : S ≤ 1000000000 := by omega
        have HS := hide hS
        clear hS hst
        have hz := hB.size
        by_cases hlt : k < m + 2
        · obtain ⟨y, hy⟩ := HGT.out k hlt
          have hc0 : wr.cell? ⟨b, o + k, none⟩ = some (.string y) := (hB.cell (p := ⟨b, o + k, none⟩) hb).trans (HCS.out k y hy)
          have HN := hide (show S + y.size = (m + 1) + sumL (xs.take (k + 1)) by rw [take_succ_get hy, sumL_snoc, HS.out]; omega)
          have hyb : S + y.size ≤ 1000000000 := by have := HN.out; have := sumL_take xs (k + 1); omega
          clear hy
          go_wp2_with (fail)
          go_roundw
          case rel => exact ⟨k + 1, S + y.size, by omega, by go_num, by go_num, HN.out, hB⟩
          case measure => simp [intOf]; omega
        · obtain ⟨y, hy⟩ := HGT.out 0 (by omega)
          have hbw : b < wr.heap.size := by omega
          have HA := hide (fun ob : Obj => hB.alloc hz ob)
          have HGR := hide (Try.Builder_Grow_fresh w.heap.size wr.heap.size S (wr.alloc (.cells #[.pointer none, .slice none 0 0] 71)) hz (heap_alloc_new wr _) (HA.out _).size (by omega))
          have E0 := hide (show y.data.toList = joinL sc (xs.take 1) by
            match xs, hy with
            | z :: r, hy => simp at hy; subst hy; simp [joinL])
          have hy0 := HCS.out 0 y hy
          have hyb : y.size ≤ 1000000000 := by
            have h1 := sumL_take xs 1
            rw [show xs.take 1 = [y] by (match xs, hy with
              | z :: r, hy => simp at hy; subst hy; simp)] at h1
            simp [sumL] at h1
            simp [sumL] at hsum
            omega
          clear hy hbw
          go_wp2_with (fail)
          refine HGR.out.mono ?_
          rintro e w1 ⟨rfl, hb1, hw1⟩
          have hB1 : Below w.heap.size w w1 := (HA.out _).trans hw1
          have HW1 := hide (WriteString_any w.heap.size wr.heap.size [] y w1 (.inr hb1) (by simp; omega) hB1.size)
          have c1 : w1.cell? ⟨b, o, none⟩ = some (.string y) := by have := (hB1.cell (p := ⟨b, o + 0, none⟩) hb).trans hy0; simpa using this
          clear hw1 hb1
          go_wp2_with (fail)
          refine HW1.out.mono ?_
          rintro e w2 ⟨rfl, hb2, hw2, _⟩
          have hB2 : Below w.heap.size w w2 := hB1.trans hw2
          rw [List.nil_append, strCells_eq, E0.out] at hb2
          have HB2 := hide hb2
          clear hb2 hw2
          have mc : 1 ≤ c := by omega
          go_wp2_with (fail)
          obtain ⟨wo, rfl⟩ : ∃ wo : World, wo = wr := ⟨_, rfl⟩
          go_loopw [65] (fun a wr => ∃ j : Nat, j ≤ m + 1 ∧ a = .int .i64 j ∧ Bld w.heap.size wo.heap.size (Lib.byteCells (joinL sc (xs.take (j + 1)))) wr ∧ Below w.heap.size w wr) (fun a _ => m + 1 - (intOf a).toNat)
          case atStart => exact ⟨0, Nat.zero_le _, rfl, HB2.out, hB2⟩
          case round =>
            obtain ⟨j, hj, rfl, hbj, hBj⟩ := hrel
            have HBJ := hide hbj
            clear hbj
            have hzj := hBj.size
            have hln : (joinL sc (xs.take (j + 1))).length ≤ 1000000000 := by
              have h1 := joinL_len sc (xs.take (j + 1))
              have h2 := sumL_take xs (j + 1)
              rw [List.length_take, HL.out] at h1
              omega
            by_cases hlt2 : j < m + 1
            · obtain ⟨z, hz2⟩ := HGT.out (j + 1) (by omega)
              have hcz : wr.cell? ⟨b, o + 1 + j, none⟩ = some (.string z) := by
                have h1 := (hBj.cell (p := ⟨b, o + (j + 1), none⟩) hb).trans (HCS.out (j + 1) z hz2)
                rw [show o + 1 + j = o + (j + 1) by omega]; exact h1
              have hzb : z.size ≤ 1000000000 := by
                have h1 := sumL_take xs (j + 1 + 1)
                rw [take_succ_get hz2, sumL_snoc] at h1
                omega
              have EN := hide (show joinL sc (xs.take (j + 1)) ++ [sc] ++ z.data.toList = joinL sc (xs.take (j + 1 + 1)) by
                rw [take_succ_get hz2, joinL_snoc _ _ _ (by intro e; have := congrArg List.length e; rw [List.length_take, HL.out] at this; simp at this)]
                simp)
              have HWS := hide (fun W (h : Bld w.heap.size wo.heap.size (Lib.byteCells (joinL sc (xs.take (j + 1)))) W) (hs : w.heap.size ≤ W.heap.size) => WriteString_any w.heap.size wo.heap.size (Lib.byteCells (joinL sc (xs.take (j + 1)))) ⟨#[sc]⟩ W h (by rw [bytes_len]; show _ + 1 ≤ _; omega) hs)
              have HWZ := hide (fun W (h : Bld w.heap.size wo.heap.size (Lib.byteCells (joinL sc (xs.take (j + 1)) ++ [sc])) W) (hs : w.heap.size ≤ W.heap.size) => WriteString_any w.heap.size wo.heap.size (Lib.byteCells (joinL sc (xs.take (j + 1)) ++ [sc])) z W h (by rw [bytes_len, List.length_append, List.length_singleton]; omega) hs)
              clear hz2 hln
              go_wp2_with (fail)
              refine (HWS.out _ HBJ.out hzj).mono ?_
              rintro e w3 ⟨rfl, hb3, hw3, _⟩
              have hB3 := hBj.trans hw3
              rw [strCells_eq, bytes_app] at hb3
              have HB3 := hide (show Bld w.heap.size wo.heap.size (Lib.byteCells (joinL sc (xs.take (j + 1)) ++ [sc])) w3 from hb3)
              clear hb3 hw3
              go_wp2_with (fail)
              refine (HWZ.out _ HB3.out hB3.size).mono ?_
              rintro e w4 ⟨rfl, hb4, hw4, _⟩
              have hB4 := hB3.trans hw4
              rw [strCells_eq, bytes_app, EN.out] at hb4
              have HB4 := hide hb4
              clear hb4 hw4
              go_wp2_with (fail)
              go_roundw
              case rel => exact ⟨j + 1, by omega, by go_num, HB4.out, hB4⟩
              case measure => simp [intOf]; omega
            · obtain rfl : j = m + 1 := by omega
              have hall : xs.take (m + 1 + 1) = xs := List.take_of_length_le (by rw [HL.out]; omega)
              rw [hall] at HBJ
              have HST := hide (Try.Builder_String_any w.heap.size wo.heap.size (joinL sc xs) wr HBJ.out hzj)
              clear hall hln
              go_wp2_with (fail)
              refine HST.out.mono ?_
              rintro e w5 ⟨rfl, hw5⟩
              have hB5 := hBj.trans hw5
              go_wp2_with (fail)
              go_ret
              exact ⟨rfl, hB5⟩
set_option maxRecDepth 100000 in
set_option maxHeartbeats 8000000 in
theorem Join_two (A : Option Addr) (n c : Nat) (xs : List ByteArray) (s1 s2 : UInt8) (w : World) (hnc : n ≤ c) (hc63 : c ≤ maxLen) (hsum : sumL xs + n ≤ 1000000000) (hl : Sl w w.heap.size cs 1 A n xs) :
    Calls Try.prog 69 #[.slice A n c, .string ⟨#[s1, s2]⟩] w fun e w' => e = .returned (.string ⟨(joinTwo s1 s2 xs).toArray⟩) ∧ Below w.heap.size w w' := by
  unfold maxLen at hc63
  have HL := hide hl.len
  have HSL := hide hl
  by_cases h0 : n = 0
  · subst h0
    have hxs : xs = [] := List.eq_nil_of_length_eq_zero hl.len
    have E := hide (show joinTwo s1 s2 xs = [] by rw [hxs]; rfl)
    clear hl hxs
    go_enter Try.func69, Try.ntmps69
    go_wp2_with (fail)
    go_ret
    exact ⟨by rw [E.out]; rfl, Below.refl _ _⟩
  · by_cases h1 : n = 1
    · subst h1
      obtain ⟨b, o, x, rfl, hb, hx, hcs⟩ := hl.at_ (k := 0) (by omega)
      have hc0 : w.cell? ⟨b, o, none⟩ = some (.string x) := by simpa [cs] using hcs 0 _ rfl
      have E := hide (show joinTwo s1 s2 xs = x.data.toList by
        match xs, HL.out, hx with
        | [y], _, hx => simp at hx; subst hx; simp [joinTwo])
      clear hl hcs hx
      go_enter Try.func69, Try.ntmps69
      go_wp2_with (fail)
      go_ret
      exact ⟨by rw [E.out]; rfl, Below.refl _ _⟩
    · obtain ⟨m, rfl⟩ : ∃ m, n = m + 2 := ⟨n - 2, by omega⟩
      obtain ⟨Q, hQ⟩ : ∃ Q : Int, (9223372036854775807 : Int).tdiv ((m : Int) + 1) = Q := ⟨_, rfl⟩
      have hQ1 : 2 < Q := by
        rw [← hQ, Int.tdiv_eq_ediv_of_nonneg (by omega)]
        have : (3 : Int) ≤ 9223372036854775807 / ((m : Int) + 1) := Int.le_ediv_of_mul_le (by omega) (by omega)
        omega
      have hq1 : (m : Int) + 2 - 1 = (m : Int) + 1 := by omega
      have hQe : (9223372036854775807 : Int) / ((m : Int) + 1) = Q := by rw [← hQ, Int.tdiv_eq_ediv_of_nonneg (by omega)]
      have hQd : decide (Q ≤ 2) = false := by simp; omega
      have hQu : Q ≤ 9223372036854775807 := by rw [← hQe]; exact Int.ediv_le_self _ (by omega)
      have hQw : wrap64 Q = Q := by unfold wrap64; omega
      have hx0 : ∃ b o, A = some ⟨b, o, none⟩ ∧ b < w.heap.size ∧ ∀ k y, xs[k]? = some y → w.cell? ⟨b, o + k, none⟩ = some (.string y) := by
        obtain ⟨b, o, e, hb, hc⟩ := hl.cells (by omega)
        exact ⟨b, o, e, hb, fun k y hy => by simpa [cs] using hc k y hy 0 _ rfl⟩
      obtain ⟨b, o, rfl, hb, hcs⟩ := hx0
      have HCS := hide hcs
      have hgt : ∀ k, k < m + 2 → ∃ y, xs[k]? = some y := fun k hk => ⟨xs[k]'(by rw [HL.out]; exact hk), List.getElem?_eq_getElem _⟩
      have HGT := hide hgt
      have HQ := hide hQ1
      clear hl hcs hgt h0 h1
      go_enter Try.func69, Try.ntmps69
      go_wp2_with (fail)
      go_loopw [41, 5] (fun a b wr => ∃ k S : Nat, k ≤ m + 2 ∧ a = .int .i64 k ∧ b = .int .i64 S ∧ S = 2 * (m + 1) + sumL (xs.take k) ∧ Below w.heap.size w wr) (fun a _ _ => m + 2 - (intOf a).toNat)
      case atStart => exact ⟨0, 2 * (m + 1), Nat.zero_le _, rfl, by go_num, by simp [sumL], Below.refl _ _⟩
      case round =>
        obtain ⟨k, S, hk, rfl, rfl, hS, hB⟩ := hrel
        have hst := sumL_take xs k
        have hSb : S ≤ 3000000000 := by omega
        have HS := hide hS
        clear hS hst
        have hz := hB.size
        by_cases hlt : k < m + 2
        · obtain ⟨y, hy⟩ := HGT.out k hlt
          have hc0 : wr.cell? ⟨b, o + k, none⟩ = some (.string y) := (hB.cell (p := ⟨b, o + k, none⟩) hb).trans (HCS.out k y hy)
          have HN := hide (show S + y.size = 2 * (m + 1) + sumL (xs.take (k + 1)) by rw [take_succ_get hy, sumL_snoc, HS.out]; omega)
          have hyb : S + y.size ≤ 3000000000 := by have := HN.out; have := sumL_take xs (k + 1); omega
          clear hy
          go_wp2_with (fail)
          go_roundw
          case rel => exact ⟨k + 1, S + y.size, by omega, by go_num, by go_num, HN.out, hB⟩
          case measure => simp [intOf]; omega
        · obtain ⟨y, hy⟩ := HGT.out 0 (by omega)
          have hbw : b < wr.heap.size := by omega
          have HA := hide (fun ob : Obj => hB.alloc hz ob)
          have HGR := hide (Try.Builder_Grow_fresh w.heap.size wr.heap.size S (wr.alloc (.cells #[.pointer none, .slice none 0 0] 71)) hz (heap_alloc_new wr _) (HA.out _).size (by omega))
          have E0 := hide (show y.data.toList = joinTwo s1 s2 (xs.take 1) by
            match xs, hy with
            | z :: r, hy => simp at hy; subst hy; simp [joinTwo])
          have hy0 := HCS.out 0 y hy
          have hyb : y.size ≤ 1000000000 := by
            have h1 := sumL_take xs 1
            rw [show xs.take 1 = [y] by (match xs, hy with
              | z :: r, hy => simp at hy; subst hy; simp)] at h1
            simp [sumL] at h1
            simp [sumL] at hsum
            omega
          clear hy hbw
          go_wp2_with (fail)
          refine HGR.out.mono ?_
          rintro e w1 ⟨rfl, hb1, hw1⟩
          have hB1 : Below w.heap.size w w1 := (HA.out _).trans hw1
          have HW1 := hide (WriteString_any w.heap.size wr.heap.size [] y w1 (.inr hb1) (by simp; omega) hB1.size)
          have c1 : w1.cell? ⟨b, o, none⟩ = some (.string y) := by have := (hB1.cell (p := ⟨b, o + 0, none⟩) hb).trans hy0; simpa using this
          clear hw1 hb1
          go_wp2_with (fail)
          refine HW1.out.mono ?_
          rintro e w2 ⟨rfl, hb2, hw2, _⟩
          have hB2 : Below w.heap.size w w2 := hB1.trans hw2
          rw [List.nil_append, strCells_eq, E0.out] at hb2
          have HB2 := hide hb2
          clear hb2 hw2
          have mc : 1 ≤ c := by omega
          go_wp2_with (fail)
          obtain ⟨wo, rfl⟩ : ∃ wo : World, wo = wr := ⟨_, rfl⟩
          go_loopw [65] (fun a wr => ∃ j : Nat, j ≤ m + 1 ∧ a = .int .i64 j ∧ Bld w.heap.size wo.heap.size (Lib.byteCells (joinTwo s1 s2 (xs.take (j + 1)))) wr ∧ Below w.heap.size w wr) (fun a _ => m + 1 - (intOf a).toNat)
          case atStart => exact ⟨0, Nat.zero_le _, rfl, HB2.out, hB2⟩
          case round =>
            obtain ⟨j, hj, rfl, hbj, hBj⟩ := hrel
            have HBJ := hide hbj
            clear hbj
            have hzj := hBj.size
            have hln : (joinTwo s1 s2 (xs.take (j + 1))).length ≤ 3000000000 := by
              have h1 := joinTwo_len s1 s2 (xs.take (j + 1))
              have h2 := sumL_take xs (j + 1)
              rw [List.length_take, HL.out] at h1
              omega
            by_cases hlt2 : j < m + 1
            · obtain ⟨z, hz2⟩ := HGT.out (j + 1) (by omega)
              have hcz : wr.cell? ⟨b, o + 1 + j, none⟩ = some (.string z) := by
                have h1 := (hBj.cell (p := ⟨b, o + (j + 1), none⟩) hb).trans (HCS.out (j + 1) z hz2)
                rw [show o + 1 + j = o + (j + 1) by omega]; exact h1
              have hzb : z.size ≤ 1000000000 := by
                have h1 := sumL_take xs (j + 1 + 1)
                rw [take_succ_get hz2, sumL_snoc] at h1
                omega
              have EN := hide (show joinTwo s1 s2 (xs.take (j + 1)) ++ [s1, s2] ++ z.data.toList = joinTwo s1 s2 (xs.take (j + 1 + 1)) by
                rw [take_succ_get hz2, joinTwo_snoc _ _ _ _ (by intro e; have := congrArg List.length e; rw [List.length_take, HL.out] at this; simp at this)]
                simp)
              have HWS := hide (fun W (h : Bld w.heap.size wo.heap.size (Lib.byteCells (joinTwo s1 s2 (xs.take (j + 1)))) W) (hs : w.heap.size ≤ W.heap.size) => WriteString_any w.heap.size wo.heap.size (Lib.byteCells (joinTwo s1 s2 (xs.take (j + 1)))) ⟨#[s1, s2]⟩ W h (by rw [bytes_len]; show _ + 2 ≤ _; omega) hs)
              have HWZ := hide (fun W (h : Bld w.heap.size wo.heap.size (Lib.byteCells (joinTwo s1 s2 (xs.take (j + 1)) ++ [s1, s2])) W) (hs : w.heap.size ≤ W.heap.size) => WriteString_any w.heap.size wo.heap.size (Lib.byteCells (joinTwo s1 s2 (xs.take (j + 1)) ++ [s1, s2])) z W h (by rw [bytes_len, List.length_append, List.length_cons, List.length_singleton]; omega) hs)
              clear hz2 hln
              go_wp2_with (fail)
              refine (HWS.out _ HBJ.out hzj).mono ?_
              rintro e w3 ⟨rfl, hb3, hw3, _⟩
              have hB3 := hBj.trans hw3
              rw [strCells_eq, bytes_app] at hb3
              have HB3 := hide (show Bld w.heap.size wo.heap.size (Lib.byteCells (joinTwo s1 s2 (xs.take (j + 1)) ++ [s1, s2])) w3 from hb3)
              clear hb3 hw3
              go_wp2_with (fail)
              refine (HWZ.out _ HB3.out hB3.size).mono ?_
              rintro e w4 ⟨rfl, hb4, hw4, _⟩
              have hB4 := hB3.trans hw4
              rw [strCells_eq, bytes_app, EN.out] at hb4
              have HB4 := hide hb4
              clear hb4 hw4
              go_wp2_with (fail)
              go_roundw
              case rel => exact ⟨j + 1, by omega, by go_num, HB4.out, hB4⟩
              case measure => simp [intOf]; omega
            · obtain rfl : j = m + 1 := by omega
              have hall : xs.take (m + 1 + 1) = xs := List.take_of_length_le (by rw [HL.out]; omega)
              rw [hall] at HBJ
              have HST := hide (Try.Builder_String_any w.heap.size wo.heap.size (joinTwo s1 s2 xs) wr HBJ.out hzj)
              clear hall hln
              go_wp2_with (fail)
              refine HST.out.mono ?_
              rintro e w5 ⟨rfl, hw5⟩
              have hB5 := hBj.trans hw5
              go_wp2_with (fail)
              go_ret
              exact ⟨rfl, hB5⟩
end Go.Proofs.Ythlhiegbiapllaa
