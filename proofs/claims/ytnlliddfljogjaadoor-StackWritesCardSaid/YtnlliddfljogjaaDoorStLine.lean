/- Walk of the reference's lineOf. -/
import Derived.Test.YtnlliddfljogjaaDoorStRest
namespace Go.Proofs.YtnlliddfljogjaaDoor
open Go.RowKit
set_option linter.unusedVariables false
theorem place_rest (x : Frame) : (restL x = [] ∧ placeL x = []) ∨ (restL x ≠ [] ∧ placeL x = 32 :: restL x) := by
  unfold restL placeL partA partB partC
  by_cases h1 : emptyB x.file = true
  · rw [if_pos h1]
    by_cases h2 : x.addr = -1
    · rw [if_pos h2]
      by_cases h3 : x.own = true
      · rw [if_pos h3]; exact .inr ⟨by simp, by simp⟩
      · rw [if_neg h3]; exact .inl ⟨by simp, by simp⟩
    · rw [if_neg h2]; exact .inr ⟨by simp, by simp⟩
  · rw [if_neg h1]; exact .inr ⟨by simp, by simp⟩
theorem rest_len (x : Frame) (hx : x.good) : (restL x).length ≤ 1000 := by
  have h1 : (placeL x).length ≤ 1000 := by
    have ht := told_len hx.n0 hx.n1
    have hh := hex_len hx.a1
    have hl := hx.l
    have hs := size_of (x := x.file) rfl
    unfold placeL
    rw [List.length_append, List.length_append]
    have a1 : (partA x).length ≤ 300 := by
      unfold partA
      split
      · simp
      · split <;> simp only [List.length_append, List.length_cons, List.length_nil] <;> omega
    have a2 : (partB x).length ≤ 20 := by
      unfold partB
      split
      · simp
      · simp only [List.length_append, List.length_cons, List.length_nil]; omega
    have a3 : (partC x).length ≤ 2 := by
      unfold partC
      split <;> simp
    omega
  unfold restL
  rw [List.length_drop]
  omega
theorem call_len (x : Frame) (hx : x.good) : (callB x).size ≤ 401 := by
  have h1 := hx.m
  have h2 := hx.f
  unfold callB
  split
  · omega
  · rw [ByteArray.size_append, ByteArray.size_append]
    have : (⟨#[33]⟩ : ByteArray).size = 1 := rfl
    omega
set_option maxRecDepth 100000 in
set_option maxHeartbeats 4000000 in
theorem lineOf_any (x : Frame) (w : World) (hx : x.good) :
    Calls Tryd.prog 18 #[.agg #[.string x.mod, .string x.fn, .string x.file, .int .i64 x.line, .int .i64 x.addr, .bool x.own]] w fun e w' => e = .returned (.string ⟨(lineL x).toArray⟩) ∧ Below w.heap.size w w' := by
  obtain ⟨rb, hrb⟩ : ∃ rb : ByteArray, ⟨(restL x).toArray⟩ = rb := ⟨_, rfl⟩
  have hrl : rb.data.toList = restL x := by rw [← hrb]
  have hrs : rb.size ≤ 1000 := by rw [size_of hrl]; exact rest_len x hx
  have hcs := call_len x hx
  have HR := hide (fun W => restOf_any x W hx)
  rw [hrb] at HR
  have HN := hide (fun W => nameOf_any x W hx.m hx.f)
  have hpr := place_rest x
  rw [← hrl] at hpr
  have HPR := hide hpr
  clear hpr hrb hrl
  have HB0 := hide ((Below.refl w.heap.size w).alloc (Nat.le_refl _) (.cells #[.string x.mod, .string x.fn, .string x.file, .int .i64 x.line, .int .i64 x.addr, .bool x.own] 35))
  have HX0 := hide (heap_alloc_new w (.cells #[.string x.mod, .string x.fn, .string x.file, .int .i64 x.line, .int .i64 x.addr, .bool x.own] 35))
  go_enter Tryd.func18, Tryd.ntmps18
  go_wp2_with (fail)
  refine (HR.out _).mono ?_
  rintro e w1 ⟨rfl, hw1⟩
  have hB1 := HB0.out.trans (hw1.mono HB0.out.size)
  have hX1 := block_below HX0.out hw1
  have q0 : w1.cell? ⟨w.heap.size, 0, none⟩ = some (.string x.mod) := (block_cell hX1 0).trans rfl
  have q1 : w1.cell? ⟨w.heap.size, 1, none⟩ = some (.string x.fn) := (block_cell hX1 1).trans rfl
  have q2 : w1.cell? ⟨w.heap.size, 2, none⟩ = some (.string x.file) := (block_cell hX1 2).trans rfl
  have q3 : w1.cell? ⟨w.heap.size, 3, none⟩ = some (.int .i64 x.line) := (block_cell hX1 3).trans rfl
  have q4 : w1.cell? ⟨w.heap.size, 4, none⟩ = some (.int .i64 x.addr) := (block_cell hX1 4).trans rfl
  have q5 : w1.cell? ⟨w.heap.size, 5, none⟩ = some (.bool x.own) := (block_cell hX1 5).trans rfl
  clear hw1 hX1
  rcases HPR.out with ⟨h1, h2⟩ | ⟨h1, h2⟩
  · have f1 : rb.toList = [] := by rw [ByteArray.toList_eq]; exact h1
    have f2 : rb.toList.isEmpty = true := by rw [f1]; rfl
    have E := hide (show (callB x).data.toList = lineL x by unfold lineL; rw [h2, List.append_nil])
    clear h1 h2
    go_wp2_with (fail)
    refine (HN.out _).mono ?_
    rintro e w2 ⟨rfl, hw2⟩
    have hB2 := hB1.trans (hw2.mono hB1.size)
    go_wp2_with (fail)
    go_ret
    exact ⟨congrArg (fun z => Ending.returned (Value.string z)) (bytes_of E.out), hB2⟩
  · have f1 : ¬ rb.toList = [] := by rw [ByteArray.toList_eq]; exact h1
    have f2 : rb.toList.isEmpty = false := by simpa using f1
    have E := hide (show (callB x).data.toList ++ ([32] ++ rb.data.toList) = lineL x by unfold lineL; rw [h2]; rfl)
    clear h1 h2
    go_wp2_with (fail)
    refine (HN.out _).mono ?_
    rintro e w2 ⟨rfl, hw2⟩
    have hB2 := hB1.trans (hw2.mono hB1.size)
    go_wp2_with (fail)
    go_ret
    exact ⟨congrArg (fun z => Ending.returned (Value.string z)) (bytes_of (by rw [← E.out]; simp [ByteArray.data_append])), hB2⟩
end Go.Proofs.YtnlliddfljogjaaDoor
