/- The reference's records, sorted by the library. -/
import Derived.Test.YtapfcnfmonknjaaGreatDoorRbV
import Derived.Test.YtapfcnfmonknjaaGreatDoorBkSr
import Derived.Test.YtapfcnfmonknjaaGreatDoorSortR
namespace Go.Proofs.YtapfcnfmonknjaaGreatDoor.Bk
open Go.RowKit Go.Sort Go.Shelf
set_option linter.unusedVariables false
set_option linter.unusedSimpArgs false
theorem cmpB_lt : ∀ x y : List UInt8, Lib.compareBytes x y < 0 ↔ x < y
  | [], [] => by simp [Lib.compareBytes]
  | [], _ :: _ => by simp [Lib.compareBytes]
  | _ :: _, [] => by simp [Lib.compareBytes]
  | a :: xs, b :: ys => by
    rw [Lib.compareBytes, List.cons_lt_cons_iff]
    by_cases h : a < b
    · simp [h]
    · by_cases h2 : b < a
      · have h3 : a ≠ b := fun e => by rw [e] at h2; exact h (e ▸ h2)
        simp [h, h2, h3]
      · have h3 : a = b := UInt8.le_antisymm (UInt8.not_lt.1 h2) (UInt8.not_lt.1 h)
        rw [if_neg h, if_neg h2, cmpB_lt xs ys]
        simp [h, h3]
def cmpR (x y : Pr) : Int := Lib.compareBytes x.p y.p
theorem swoR : SWO (ltOf cmpR) where
  irrefl x := by
    have h := cmpB_lt x.p x.p
    unfold ltOf cmpR
    exact decide_eq_false (fun e => List.lt_irrefl _ (h.1 e))
  trans x y z h1 h2 := by
    have h1 := (cmpB_lt x.p y.p).1 (of_decide_eq_true h1)
    have h2 := (cmpB_lt y.p z.p).1 (of_decide_eq_true h2)
    exact decide_eq_true ((cmpB_lt x.p z.p).2 (List.lt_trans h1 h2))
  ntrans x y z h1 h2 := by
    have h1 := mt (cmpB_lt x.p y.p).2 (of_decide_eq_false h1)
    have h2 := mt (cmpB_lt y.p z.p).2 (of_decide_eq_false h2)
    exact decide_eq_false (mt (cmpB_lt x.p z.p).1 (List.not_lt.2 (List.le_trans (List.not_lt.1 h2) (List.not_lt.1 h1))))
set_option maxRecDepth 100000 in
set_option maxHeartbeats 4000000 in
theorem closureR (x y : Pr) (W : World) : Calls Tryz.prog 29 #[.agg (Rr x).toArray, .agg (Rr y).toArray] W fun e w' => e = .returned (.int .i64 (cmpR x y)) ∧ ∃ q os', w' = Go.Sort.grow (W.drewN q) os' := by
  obtain ⟨r, hr⟩ : ∃ r, cmpR x y = r := ⟨_, rfl⟩
  have C1 := hide (fun W' => show Calls Tryz.prog 30 #[.string ⟨x.p.toArray⟩, .string ⟨y.p.toArray⟩] W' fun e w' => e = .returned (.int .i64 r) ∧ w' = W' from (Tryz.strings_Compare ⟨x.p.toArray⟩ ⟨y.p.toArray⟩ W').mono fun e w' ⟨a, b⟩ => ⟨by rw [a, ← hr]; rfl, b⟩)
  rw [hr]
  clear hr
  obtain ⟨p, g, ev, wt, fi, la⟩ := x
  obtain ⟨p', g', ev', wt', fi', la'⟩ := y
  simp only [Rr] at C1 ⊢
  go_enter Tryz.func29, Tryz.ntmps29
  go_wp2_with (go_at_call 30; refine (C1.out _).mono ?_; rintro e w4 ⟨rfl, rfl⟩)
  go_ret
  refine ⟨rfl, 0, #[.cells #[.string ⟨p.toArray⟩, .int .i64 ev, .int .i64 wt, .int .i64 fi, .int .i64 la, .int .i64 g] 64, .cells #[.string ⟨p'.toArray⟩, .int .i64 ev', .int .i64 wt', .int .i64 fi', .int .i64 la', .int .i64 g'] 64], ?_⟩
  rw [Go.Sort.alloc_eq_grow, Go.Sort.alloc_eq_grow, Go.Sort.grow_grow]
  rfl
theorem cmpLaysR (blk off size : Nat) (w : World) : CmpLays Tryz.prog 29 #[] Rr 6 cmpR blk off size w :=
  fun _ _ _ _ x y => closureR x y _
theorem SortR_any {B : Nat} {v : Value} {l : List Pr} {w : World} (h : w.ownsRow B 64 6 v l.length (l.flatMap Rr)) (hn : l.length ≤ 100000) (hd : (l.map Pr.p).Nodup) :
    Calls Tryz.prog 28 #[v, .func (.func 29) #[] #[]] w fun e w' => e = .returned (.tuple #[]) ∧ (∃ l' : List Pr, l'.Perm l ∧ Up l' ∧ w'.ownsRow B 64 6 v l.length (l'.flatMap Rr)) ∧ w.grownBy w' v.ownBlock := by
  rcases h.2 with ⟨rfl, h0⟩ | ⟨g, cap, cur, rfl, hg⟩
  · have hl : l = [] := List.eq_nil_of_length_eq_zero h0
    subst hl
    refine (AnyF.slices_SortFunc_none Tryz.SortR none 0 _ w).mono ?_
    rintro e w' ⟨rfl, rfl⟩
    exact ⟨rfl, ⟨[], List.Perm.refl _, List.Pairwise.nil, h⟩, rfl, rfl, rfl, Nat.le_refl _, fun _ _ _ => rfl⟩
  · have hH : HoldsK Rr 6 w g 0 l.toArray := own_holds (fun _ => rfl) (by decide) rfl h
    have hlt : g < w.heap.size := (h.lt g rfl).2
    have hcon := AnyQ.slices_SortFunc Tryz.SortR 6 Tryz.isAgg64 Tryz.sizeOf64 Rr (fun _ => rfl) (fun x u hu => by simp [Rr] at hu; rcases hu with rfl | rfl | rfl | rfl | rfl | rfl <;> rfl) cmpR swoR 29 #[] g 0 cap l.toArray w (enters_of Tryz.func29 (by kernel_rfl) rfl) (cmpLaysR g 0 _ w) hH hlt (by simp; omega)
    have hcon' : Calls Tryz.prog 28 #[.slice (some ⟨g, 0, none⟩) l.length cap, .func (.func 29) #[] #[]] w _ := hcon
    refine hcon'.mono ?_
    rintro e w' ⟨rfl, d', n, os, hp, hs, rfl⟩
    obtain ⟨hsz, _, hpm⟩ := hp
    have hsz' : d'.size = l.length := by simpa using hsz
    have hp1 : d'.toList.Perm l := by
      have e1 : d'.extract 0 l.length = d' := by rw [← hsz']; exact Array.extract_size
      rw [List.size_toArray, e1] at hpm
      rw [← List.size_toArray, Array.extract_size] at hpm
      simpa using hpm
    have hd1 : (d'.toList.map Pr.p).Nodup := (hp1.map Pr.p).nodup_iff.2 hd
    have hs1 : Up d'.toList := by
      unfold Up
      rw [List.pairwise_iff_getElem]
      intro i j hi hj hij
      have hi' : i < d'.size := by simpa using hi
      have hj' : j < d'.size := by simpa using hj
      have h9 := hs i j (Nat.zero_le _) hij (by omega)
      rw [getElem!_pos d' i hi', getElem!_pos d' j hj'] at h9
      have h8 : ¬ d'[j].p < d'[i].p := fun h7 => by
        have h6 := (cmpB_lt _ _).2 h7
        exact of_decide_eq_false h9 h6
      have hne : d'[i].p ≠ d'[j].p := fun e => by
        have h5 := List.pairwise_iff_getElem.1 hd1 i j (by simpa using hi') (by simpa using hj') hij
        simp at h5
        exact h5 e
      simp only [Array.getElem_toList]
      exact Decidable.byContradiction fun h => hne (List.le_antisymm (List.not_lt.1 h8) (List.not_lt.1 h))
    have hlen : d'.toList.length = l.length := hp1.length_eq
    have hput := own_putK (f := Rr) (sz := 6) (fun _ => rfl) (by decide) rfl (default : Pr) hlen n h
    have hgr : ∀ (u : World) (os : Array Obj), u.grownBy (grow u os) none := fun u os => ⟨rfl, rfl, rfl, by simp, fun k hk _ => heap_grow_old _ _ hk⟩
    refine ⟨rfl, ⟨d'.toList, hp1, hs1, ?_⟩, ?_⟩
    · exact hput.1.kept (hgr _ os) (.inr (fun e => by cases e))
    · exact World.grownBy.trans hput.2 ((hgr _ os).but _)
end Go.Proofs.YtapfcnfmonknjaaGreatDoor.Bk
