/- slices.SortFunc of tallies: the sorted row. -/
import Derived.Test.YtkoijhecahebgaaDoorOwnK
import Derived.Test.YtkoijhecahebgaaDoorGtTal2
import Derived.Test.YtkoijhecahebgaaDoorSortT
namespace Go.Proofs.YtkoijhecahebgaaDoor
open Go.RowKit Go.Sort Go.Shelf
set_option linter.unusedVariables false
set_option linter.unusedSimpArgs false
theorem swoT : SWO (ltOf cmpT) := cmpT_ord.swo
theorem SortT_any {B : Nat} {v : Value} {l : List Tl} {w : World} (h : w.ownsRow B 50 4 v l.length (l.flatMap Tl.cs)) (hn : l.length ≤ 1000) (hd : (l.map Tl.tag).Nodup) :
    Calls Tryd.prog 43 #[v, .func (.func 44) #[] #[]] w fun e w' => e = .returned (.tuple #[]) ∧ w'.ownsRow B 50 4 v l.length ((srtT l).flatMap Tl.cs) ∧ w.grownBy w' v.ownBlock := by
  rcases h.2 with ⟨rfl, h0⟩ | ⟨g, cap, cur, rfl, hg⟩
  · have hl : l = [] := List.eq_nil_of_length_eq_zero h0
    subst hl
    refine (AnyF.slices_SortFunc_none Tryd.SortT none 0 _ w).mono ?_
    rintro e w' ⟨rfl, rfl⟩
    exact ⟨rfl, by simpa [srtT] using h, rfl, rfl, rfl, Nat.le_refl _, fun _ _ _ => rfl⟩
  · have hH : HoldsK Tl.cs 4 w g 0 l.toArray := own_holds (fun _ => rfl) (by decide) rfl h
    have hlt : g < w.heap.size := (h.lt g rfl).2
    have hcon := AnyQ.slices_SortFunc Tryd.SortT 4 Tryd.isAgg50 Tryd.sizeOf50 Tl.cs (fun _ => rfl) (fun x u hu => by simp [Tl.cs] at hu; rcases hu with rfl | rfl | rfl | rfl <;> rfl) cmpT swoT 44 #[] g 0 cap l.toArray w (enters_of Tryd.func44 (by kernel_rfl) rfl) (cmpLaysT g 0 _ w) hH hlt (by simp; omega)
    have hcon' : Calls Tryd.prog 43 #[.slice (some ⟨g, 0, none⟩) l.length cap, .func (.func 44) #[] #[]] w _ := hcon
    refine hcon'.mono ?_
    rintro e w' ⟨rfl, d', n, os, hp, hs, rfl⟩
    obtain ⟨hsz, _, hpm⟩ := hp
    have hsz' : d'.size = l.length := by simpa using hsz
    have hp1 : d'.toList.Perm l := by
      have e1 : d'.extract 0 l.length = d' := by rw [← hsz']; exact Array.extract_size
      rw [List.size_toArray, e1] at hpm
      rw [← List.size_toArray, Array.extract_size] at hpm
      simpa using hpm
    have hs1 : d'.toList.Pairwise fun x y => ¬ cmpT y x < 0 := by
      rw [List.pairwise_iff_getElem]
      intro i j hi hj hij
      have hi' : i < d'.size := by simpa using hi
      have hj' : j < d'.size := by simpa using hj
      have := hs i j (Nat.zero_le _) hij (by omega)
      rw [getElem!_pos d' i hi', getElem!_pos d' j hj'] at this
      simpa [ltOf] using this
    have hd' : d'.toList = srtT l := srtT_of hp1 hd hs1
    have hd2 : d' = (srtT l).toArray := by rw [← hd']
    subst hd2
    have hlen : (srtT l).length = l.length := (srtT_perm l).length_eq
    have hput := own_putK (f := Tl.cs) (sz := 4) (fun _ => rfl) (by decide) rfl (default : Tl) hlen n h
    have hgr : ∀ (u : World) (os : Array Obj), u.grownBy (grow u os) none := fun u os => ⟨rfl, rfl, rfl, by simp, fun k hk _ => heap_grow_old _ _ hk⟩
    refine ⟨rfl, ?_, ?_⟩
    · exact hput.1.kept (hgr _ os) (.inr (fun e => by cases e))
    · exact World.grownBy.trans hput.2 ((hgr _ os).but _)
end Go.Proofs.YtkoijhecahebgaaDoor
