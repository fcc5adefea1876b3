/- Walks of slices.Equal on equal notices and statuses, of both Kept's, and of Clone (printed by gen_a7.py). -/
import Derived.Test.YtkkhjlomicokgaaGreatDoorAlSil
import Derived.Lib.SliceRun
namespace Go.Proofs.YtkkhjlomicokgaaGreatDoor.al
open Go.RowKit
set_option linter.unusedVariables false
set_option linter.unusedSimpArgs false
structure Nt where
  at_ : Int
  rule : ByteArray
  kind : Int
  value : Int
def Nt.cs (x : Nt) : List Value := [.int .i64 x.at_, .string x.rule, .int .i64 x.kind, .int .i64 x.value]
structure Stt where
  rule : ByteArray
  state : Int
  since : Int
  value : Int
def Stt.cs (x : Stt) : List Value := [.string x.rule, .int .i64 x.state, .int .i64 x.since, .int .i64 x.value]
def cb (b : Bool) : List Value := [.bool b]
def keptN (l : List Bool) : Nat := (l.filter id).length
theorem keptN_snoc (l : List Bool) (b : Bool) : keptN (l ++ [b]) = keptN l + (if b then 1 else 0) := by cases b <;> simp [keptN]
theorem keptN_le (l : List Bool) : keptN l ≤ l.length := List.length_filter_le _ _
theorem info_sil : (Tryz.prog.info? 171).map (fun i => (i.zero, i.size, i.bytes)) = some (some (.agg #[.string ByteArray.empty, .int .i64 0, .int .i64 0]), 3, 32) := by kernel_rfl
theorem sil_news {w : World} {B n : Nat} {ad : Addr} {l : List Sil} (h : Sl w B Sil.cs 3 (some ad) n l) : ∀ j u, (l.flatMap Sil.cs)[j]? = some u → w.cell? (ad.add j) = some u := by
  rcases Nat.eq_zero_or_pos n with h0 | h0
  · have : l = [] := List.eq_nil_of_length_eq_zero (by rw [h.len]; exact h0)
    subst this
    intro j u hu
    simp at hu
  · obtain ⟨b, o, e, _⟩ := h.cells h0
    obtain rfl := Option.some.inj e
    exact Sl.news (fun _ => rfl) h
theorem sil_one (l : List Sil) : ∀ u ∈ l.flatMap Sil.cs, u.oneCell' = true := by
  intro u hu
  obtain ⟨x, _, hx⟩ := List.mem_flatMap.1 hu
  simp [Sil.cs] at hx
  rcases hx with rfl | rfl | rfl <;> rfl
end Go.Proofs.YtkkhjlomicokgaaGreatDoor.al