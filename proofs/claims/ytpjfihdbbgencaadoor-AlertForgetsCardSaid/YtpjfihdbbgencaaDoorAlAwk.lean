/- Walk of awakeAlert. -/
import Derived.Test.YtpjfihdbbgencaaDoorAlLns
namespace Go.Proofs.YtpjfihdbbgencaaDoor
open Go.RowKit
set_option linter.unusedVariables false
set_option linter.unusedSimpArgs false
set_option maxRecDepth 100000 in
set_option maxHeartbeats 4000000 in
theorem awakeAlert_any (w : World) (htab : Lib.TabIs Tryd.prog w "internal/strconv.uint64pow10" .u64 Lib.pow10Tab) :
    Calls Tryd.prog 15 #[] w fun e w' => e = .returned (.bool true) ∧ Below w.heap.size w w' := by
  have hA : Below w.heap.size w (w.alloc (.cells #[.int .i64 0, .string ⟨#[97]⟩, .int .i64 1, .int .i64 0] 47)) := (Below.refl _ _).alloc (Nat.le_refl _) _
  have hsl : Sl (w.alloc (.cells #[.int .i64 0, .string ⟨#[97]⟩, .int .i64 1, .int .i64 0] 47)) (w.alloc (.cells #[.int .i64 0, .string ⟨#[97]⟩, .int .i64 1, .int .i64 0] 47)).heap.size Nt.cs 4 (some ⟨w.heap.size, 0, none⟩) 1 [⟨0, ⟨#[97]⟩, 1, 0⟩] := by
    refine ⟨rfl, fun _ => ⟨w.heap.size, 0, rfl, by simp, fun i x hx j u hu => ?_⟩⟩
    match i, hx with
    | 0, hx =>
      simp only [List.getElem?_cons_zero, Option.some.injEq] at hx
      subst hx
      simp only [Nat.zero_mul, Nat.zero_add]
      rw [block_cell (heap_alloc_new w _) j]
      simpa [Nt.cs] using hu
  have HL := hide (Lines_any 0 0 0 (some ⟨w.heap.size, 0, none⟩) 1 1 [⟨0, ⟨#[97]⟩, 1, 0⟩] (w.alloc (.cells #[.int .i64 0, .string ⟨#[97]⟩, .int .i64 1, .int .i64 0] 47)) (by decide) hsl (fun x hx => by
    simp only [List.mem_singleton] at hx; subst hx; exact ⟨by decide, by decide, by decide⟩) (tab_below htab hA))
  have HA := hide hA
  have HE := hide (show (smL [(⟨0, ⟨#[97]⟩, 1, 0⟩ : Nt)]).length = 1 ∧ ((smL [(⟨0, ⟨#[97]⟩, 1, 0⟩ : Nt)]).flatMap fun s => [Value.string (lineB s)]) = [.string ⟨#[97, 32, 98, 101, 103, 97, 110, 32, 40, 48, 41]⟩] from ⟨by decide +kernel, by kernel_rfl⟩)
  rw [HE.out.1, HE.out.2] at HL
  clear hA hsl htab HE
  go_enter Tryd.func15, Tryd.ntmps15
  go_wp2_with (fail)
  refine HL.out.mono ?_
  rintro e w1 ⟨v, rfl, hrow, hw1⟩
  obtain ⟨g, c, cur, rfl, hb, hblk, _⟩ := own_blk hrow (by decide)
  have c0 : w1.cell? ⟨g, 0, none⟩ = some (.string ⟨#[97, 32, 98, 101, 103, 97, 110, 32, 40, 48, 41]⟩) := own_cell hrow 0 _ rfl
  have HB := hide (HA.out.trans (hw1.mono HA.out.size))
  clear hrow hw1 hblk
  go_wp2_with (fail)
  go_ret
  exact ⟨rfl, HB.out⟩
end Go.Proofs.YtpjfihdbbgencaaDoor
