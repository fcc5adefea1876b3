/- awakeName: the package is there (no plain law of bare symbols). -/
import Derived.Test.YtocpmbpckbjepaaDoorNmMgP
import Derived.Test.YtocpmbpckbjepaaDoorNmGC
namespace Go.Proofs.YtocpmbpckbjepaaDoor
open Go.RowKit
set_option linter.unusedVariables false
set_option linter.unusedSimpArgs false
def awS : Sym := ⟨[(⟨#[97]⟩, [])], []⟩
theorem awS_ok : symE awS = (0, 0) := by decide
theorem awS_mg : mgSym awS = [81, 78, 49, 97, 69, 90] := by
  have e : lenL (⟨#[97]⟩ : ByteArray) = [49] := by
    show digs 10 1 = [49]
    rw [digs_small (by decide)]; rfl
  unfold mgSym awS mgName
  simp only [mgFold, mgPart, e]
  rfl
theorem awS_in (w : World) : SymIn (w.alloc (.cells #[.string ⟨#[97]⟩, .slice none 0 0] 47)) 1 awS [.slice (some ⟨w.heap.size, 0, none⟩) 1 1, .slice none 0 0] := by
  have hX := heap_alloc_new w (.cells #[.string ⟨#[97]⟩, .slice none 0 0] 47)
  refine ⟨_, 1, 1, none, 0, 0, rfl, Nat.le_refl _, by decide, Nat.le_refl _, Nat.zero_le _, ⟨rfl, fun _ => ⟨w.heap.size, 0, rfl, by simp, fun i x hx => ?_⟩⟩, SlP.nil _ _ _ _ _⟩
  have hi := (List.getElem?_eq_some_iff.1 hx).1
  obtain rfl : i = 0 := by have : awS.name.length = 1 := rfl; omega
  obtain rfl : (⟨#[97]⟩, []) = x := by simpa [awS] using hx
  refine ⟨[.string ⟨#[97]⟩, .slice none 0 0], ⟨none, 0, 0, rfl, by decide, Nat.le_refl _, Nat.zero_le _, SlP.nil _ _ _ _ _⟩, fun j v hv => ?_⟩
  refine (block_cell hX _).trans ?_
  have hj := (List.getElem?_eq_some_iff.1 hv).1
  simp only [List.length_cons, List.length_nil] at hj
  rcases (show j = 0 ∨ j = 1 by omega) with rfl | rfl <;> simpa using hv
theorem awakeName_any (w : World) (htb : Tab10 w.heap.size w) :
    Calls Tryd.prog 5 #[] w fun e w' => e = .returned (.bool true) ∧ Below w.heap.size w w' := by
  have hB : Below w.heap.size w (w.alloc (.cells #[.string ⟨#[97]⟩, .slice none 0 0] 47)) := (Below.refl _ _).alloc (Nat.le_refl _) _
  have h0 := Mangle_ok 1 awS _ _ (awS_in w) (by rw [awS_ok]) (by rw [awS_ok]; decide) ⟨(htb.below hB).1, fun g hg => Nat.lt_of_lt_of_le (htb.2 g hg) hB.size⟩
  unfold mgRes at h0
  rw [awS_mg, if_neg (by decide)] at h0
  have HC := hide h0
  have HB := hide hB
  clear h0 hB htb
  go_enter Tryd.func5, Tryd.ntmps5
  go_wp2_with (go_at_call 6; refine HC.out.mono ?_; rintro e w1 ⟨rfl, hw1⟩; have HB1 := hide (HB.out.trans (hw1.mono HB.out.size)); clear hw1)
  go_ret
  exact ⟨by simp, HB1.out⟩
end Go.Proofs.YtocpmbpckbjepaaDoor
