/- An owned row, as the sort's contracts have it (HoldsK, putRowK). No program of its own. -/
import Derived.Shelf.SlSortCmp.WholeK
import Derived.Test.YtnkccilgbhogbaaDoorRowSet
namespace Go.Proofs.YtnkccilgbhogbaaDoor
open Go.RowKit Go.Shelf Go.Lib Go.Sort
set_option linter.unusedVariables false
set_option linter.unusedSimpArgs false
section
variable {α : Type} [Inhabited α] {f : α → List Value} {sz : Nat}
theorem flatK_list (hf : ∀ a, (f a).length = sz) (hsz : 0 < sz) (d : Array α) (z : α) : (flatK f sz d).toList = d.toList.flatMap f := by
  apply List.ext_getElem?
  intro t
  obtain ⟨i, r, hr, rfl⟩ : ∃ i r, r < sz ∧ t = i * sz + r := ⟨t / sz, t % sz, Nat.mod_lt _ hsz, by rw [Nat.mul_comm]; exact (Nat.div_add_mod t sz).symm⟩
  rw [fm_get hf _ i r hr]
  by_cases hi : i < d.size
  · have h1 : i * sz + r < d.size * sz := by
      calc i * sz + r < i * sz + sz := by omega
        _ = (i + 1) * sz := by rw [Nat.succ_mul]
        _ ≤ d.size * sz := Nat.mul_le_mul_right _ hi
    have h2 : (flatK f sz d)[i * sz + r]! = (f d[(i * sz + r) / sz]!)[(i * sz + r) % sz]! := get_flatK f sz d _ h1
    have e1 : (i * sz + r) / sz = i := by rw [Nat.mul_comm, Nat.mul_add_div hsz, Nat.div_eq_of_lt hr]; rfl
    have e2 : (i * sz + r) % sz = r := by rw [Nat.mul_comm, Nat.mul_add_mod, Nat.mod_eq_of_lt hr]
    rw [e1, e2] at h2
    have h3 : i * sz + r < (flatK f sz d).size := by rw [size_flatK]; exact h1
    rw [getElem!_pos (flatK f sz d) (i * sz + r) h3] at h2
    rw [Array.getElem?_toList, Array.getElem?_eq_getElem h3, h2, Array.getElem?_toList, Array.getElem?_eq_getElem hi, getElem!_pos d i hi]
    have h4 : r < (f d[i]).length := by rw [hf]; exact hr
    rw [getElem!_pos _ r h4]
    simp [List.getElem?_eq_getElem h4]
  · have h1 : d.size * sz ≤ i * sz + r := Nat.le_trans (Nat.mul_le_mul_right _ (Nat.le_of_not_lt hi)) (Nat.le_add_right _ _)
    rw [Array.getElem?_toList, Array.getElem?_eq_none (by rw [size_flatK]; exact h1), Array.getElem?_toList, Array.getElem?_eq_none (by omega)]
    rfl
variable {w : World} {B n g cap : Nat} {e : TypeId} {l : List α}
theorem own_holds (hf : ∀ a, (f a).length = sz) (hsz : 0 < sz) (hn : l.length = n) (h : w.ownsRow B e sz (.slice (some ⟨g, 0, none⟩) n cap) n (l.flatMap f)) : HoldsK f sz w g 0 l.toArray := by
  intro j hj
  rw [size_flatK] at hj
  have hj' : j < (flatK f sz l.toArray).size := by rw [size_flatK]; exact hj
  cases l with
  | nil => simp at hj
  | cons z l' =>
    have e1 := flatK_list hf hsz (z :: l').toArray z
    simp only [List.toList_toArray] at e1
    have e2 : ((z :: l').flatMap f)[j]? = some (flatK f sz (z :: l').toArray)[j]! := by
      rw [← e1, Array.getElem?_toList, Array.getElem?_eq_getElem hj', getElem!_pos _ j hj']
    rw [Nat.zero_add]
    exact ⟨own_cell h j _ e2, own_free h j⟩
theorem own_putK (hf : ∀ a, (f a).length = sz) (hsz : 0 < sz) (hn : l.length = n) (z : α) {l' : List α} (hn' : l'.length = n) (m : Nat) (h : w.ownsRow B e sz (.slice (some ⟨g, 0, none⟩) n cap) n (l.flatMap f)) :
    (putRowK f sz (Go.Sort.ahead w m) g 0 l'.toArray).ownsRow B e sz (.slice (some ⟨g, 0, none⟩) n cap) n (l'.flatMap f) ∧ w.grownBy (putRowK f sz (Go.Sort.ahead w m) g 0 l'.toArray) (some g) := by
  have hF := flatK_list hf hsz l'.toArray z
  simp only [List.toList_toArray] at hF
  have hFs : (flatK f sz l'.toArray).size = n * sz := by rw [size_flatK]; simp [hn']
  obtain ⟨F, hFF⟩ : ∃ F, flatK f sz l'.toArray = F := ⟨_, rfl⟩
  unfold putRowK
  rw [hFF] at hF hFs ⊢
  refine ⟨⟨by rw [flatMap_len hf, hn'], ?_⟩, ?_⟩
  · rcases h.2 with ⟨h1, _⟩ | ⟨g', cap', cur, h1, h2, h3, h4, h5, h6, h7⟩
    · cases h1
    · simp only [Value.slice.injEq, Option.some.injEq, Addr.mk.injEq, true_and, and_true] at h1
      obtain ⟨rfl, rfl⟩ := h1
      refine .inr ⟨g, cap, Go.Sort.putCells id 0 F cur, rfl, h2, ?_, h4, h5, ?_, ?_⟩
      · show ((w.heap.modify g _)[g]?) = _
        rw [Array.getElem?_modify, if_pos rfl, h3]
        rfl
      · simp [Go.Sort.putCells, h6]
      · rw [← hF]
        apply List.ext_getElem?
        intro t
        have hns : n * sz ≤ cur.size := by rw [h6]; exact Nat.mul_le_mul_right _ h4
        rw [List.getElem?_take]
        by_cases ht : t < n * sz
        · rw [if_pos ht, Array.getElem?_toList, Array.getElem?_toList, Go.Sort.putCells, Array.getElem?_mapIdx, Array.getElem?_eq_getElem (show t < cur.size by omega), Array.getElem?_eq_getElem (show t < F.size by omega)]
          simp only [Option.map_some]
          rw [if_pos ⟨Nat.zero_le _, by omega⟩]
          rw [Nat.sub_zero, getElem!_pos F t (by omega)]
          rfl
        · rw [if_neg ht, Array.getElem?_toList, Array.getElem?_eq_none (by omega)]
  · refine ⟨rfl, rfl, rfl, ?_, fun k hk hne => ?_⟩
    · show w.heap.size ≤ (w.heap.modify g _).size
      simp
    · show (w.heap.modify g _)[k]? = _
      rw [Array.getElem?_modify, if_neg (fun e => hne (by rw [e]))]
end
end Go.Proofs.YtnkccilgbhogbaaDoor
