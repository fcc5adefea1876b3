/- Rows of posts, sorted by their numbers. -/
import Derived.Test.YtnkccilgbhogbaaDoorBxC
import Derived.Test.YtnkccilgbhogbaaDoorOwnK
import Derived.Test.YtnkccilgbhogbaaDoorSortT
import Derived.Test.YtnkccilgbhogbaaDoorShelf
import Derived.Sort.OwnSorted
namespace Go.Proofs.YtnkccilgbhogbaaDoor
open Go.RowKit Go.Sort Go.Shelf
set_option linter.unusedVariables false
set_option linter.unusedSimpArgs false
structure Po where
  no : Int
  A : Option Addr
  n : Nat
  c : Nat
  tr : Int
  nx : Int
  nts : List Nt
  deriving Inhabited
def Po.sl (x : Po) : Value := .slice x.A x.n x.c
def Po.cs (x : Po) : List Value := [.int .i64 x.no, .slice x.A x.n x.c, .int .i64 x.tr, .int .i64 x.nx]
def cmpP (x y : Po) : Int := Lib.compareInt x.no y.no
theorem cmpP_lt (x y : Po) : cmpP x y < 0 ↔ x.no < y.no := by
  unfold cmpP Lib.compareInt
  split
  · omega
  · split <;> omega
theorem swoP : SWO (ltOf cmpP) where
  irrefl x := by have := cmpP_lt x x; unfold ltOf; exact decide_eq_false (by omega)
  trans x y z h1 h2 := by
    have h1 := (cmpP_lt x y).1 (of_decide_eq_true h1)
    have h2 := (cmpP_lt y z).1 (of_decide_eq_true h2)
    exact decide_eq_true ((cmpP_lt x z).2 (by omega))
  ntrans x y z h1 h2 := by
    have h1 := mt (cmpP_lt x y).2 (of_decide_eq_false h1)
    have h2 := mt (cmpP_lt y z).2 (of_decide_eq_false h2)
    exact decide_eq_false (mt (cmpP_lt x z).1 (by omega))
set_option maxRecDepth 100000 in
set_option maxHeartbeats 4000000 in
theorem closureP (x y : Po) (W : World) : Calls Tryd.prog 48 #[.agg x.cs.toArray, .agg y.cs.toArray] W fun e w' => e = .returned (.int .i64 (cmpP x y)) ∧ ∃ q os', w' = Go.Sort.grow (W.drewN q) os' := by
  obtain ⟨r, hr⟩ : ∃ r, cmpP x y = r := ⟨_, rfl⟩
  have C1 := hide (fun W' => show Calls Tryd.prog 49 #[.int .i64 x.no, .int .i64 y.no] W' fun e w' => e = .returned (.int .i64 r) ∧ w' = W' from (Tryd.cmp_Compare_int x.no y.no W').mono fun e w' ⟨a, b⟩ => ⟨by rw [a, ← hr]; rfl, b⟩)
  rw [hr]
  clear hr
  obtain ⟨i, A, n, c, tr, nx, _⟩ := x
  obtain ⟨i', A', n', c', tr', nx', _⟩ := y
  simp only [Po.cs] at C1 ⊢
  go_enter Tryd.func48, Tryd.ntmps48
  go_wp2_with (go_at_call 49; refine (C1.out _).mono ?_; rintro e w4 ⟨rfl, rfl⟩)
  go_ret
  refine ⟨rfl, 0, #[.cells #[.int .i64 i, .slice A n c, .int .i64 tr, .int .i64 nx] 41, .cells #[.int .i64 i', .slice A' n' c', .int .i64 tr', .int .i64 nx'] 41], ?_⟩
  rw [Go.Sort.alloc_eq_grow, Go.Sort.alloc_eq_grow, Go.Sort.grow_grow]
  rfl
theorem cmpLaysP (blk off size : Nat) (w : World) : CmpLays Tryd.prog 48 #[] Po.cs 4 cmpP blk off size w :=
  fun _ _ _ _ x y => closureP x y _
theorem SortP_any {B : Nat} {v : Value} {l : List Po} {w : World} (h : w.ownsRow B 41 4 v l.length (l.flatMap Po.cs)) (hn : l.length ≤ 1000) (hd : (l.map Po.no).Nodup) :
    Calls Tryd.prog 47 #[v, .func (.func 48) #[] #[]] w fun e w' => e = .returned (.tuple #[]) ∧ (∃ l' : List Po, l'.Perm l ∧ l'.Pairwise (fun x y => x.no < y.no) ∧ w'.ownsRow B 41 4 v l.length (l'.flatMap Po.cs)) ∧ w.grownBy w' v.ownBlock := by
  rcases h.2 with ⟨rfl, h0⟩ | ⟨g, cap, cur, rfl, hg⟩
  · have hl : l = [] := List.eq_nil_of_length_eq_zero h0
    subst hl
    refine (AnyF.slices_SortFunc_none Tryd.SortT none 0 _ w).mono ?_
    rintro e w' ⟨rfl, rfl⟩
    exact ⟨rfl, ⟨[], List.Perm.refl _, List.Pairwise.nil, h⟩, rfl, rfl, rfl, Nat.le_refl _, fun _ _ _ => rfl⟩
  · have hH : HoldsK Po.cs 4 w g 0 l.toArray := own_holds (fun _ => rfl) (by decide) rfl h
    have hlt : g < w.heap.size := (h.lt g rfl).2
    have hcon := AnyQ.slices_SortFunc Tryd.SortT 4 Tryd.isAgg41 Tryd.sizeOf41 Po.cs (fun _ => rfl) (fun x u hu => by simp [Po.cs] at hu; rcases hu with rfl | rfl | rfl | rfl <;> rfl) cmpP swoP 48 #[] g 0 cap l.toArray w (enters_of Tryd.func48 (by kernel_rfl) rfl) (cmpLaysP g 0 _ w) hH hlt (by simp; omega)
    have hcon' : Calls Tryd.prog 47 #[.slice (some ⟨g, 0, none⟩) l.length cap, .func (.func 48) #[] #[]] w _ := hcon
    refine hcon'.mono ?_
    rintro e w' ⟨rfl, d', n, os, hp, hs, rfl⟩
    obtain ⟨hsz, _, hpm⟩ := hp
    have hsz' : d'.size = l.length := by simpa using hsz
    have hp1 : d'.toList.Perm l := by
      have e1 : d'.extract 0 l.length = d' := by rw [← hsz']; exact Array.extract_size
      rw [List.size_toArray, e1] at hpm
      rw [← List.size_toArray, Array.extract_size] at hpm
      simpa using hpm
    have hd1 : (d'.toList.map Po.no).Nodup := (hp1.map Po.no).nodup_iff.2 hd
    have hs1 : d'.toList.Pairwise fun x y => x.no < y.no := by
      rw [List.pairwise_iff_getElem]
      intro i j hi hj hij
      have hi' : i < d'.size := by simpa using hi
      have hj' : j < d'.size := by simpa using hj
      have h9 := hs i j (Nat.zero_le _) hij (by omega)
      rw [getElem!_pos d' i hi', getElem!_pos d' j hj'] at h9
      have h8 : ¬ d'[j].no < d'[i].no := fun h7 => by
        have h6 := (cmpP_lt _ _).2 h7
        simp [ltOf] at h9
        omega
      have hne : d'[i].no ≠ d'[j].no := fun e => by
        have h5 := List.pairwise_iff_getElem.1 hd1 i j (by simpa using hi') (by simpa using hj') hij
        simp at h5
        exact h5 e
      simp only [Array.getElem_toList]
      omega
    have hlen : d'.toList.length = l.length := hp1.length_eq
    have hput := own_putK (f := Po.cs) (sz := 4) (fun _ => rfl) (by decide) rfl (default : Po) hlen n h
    have hgr : ∀ (u : World) (os : Array Obj), u.grownBy (grow u os) none := fun u os => ⟨rfl, rfl, rfl, by simp, fun k hk _ => heap_grow_old _ _ hk⟩
    refine ⟨rfl, ⟨d'.toList, hp1, hs1, ?_⟩, ?_⟩
    · exact hput.1.kept (hgr _ os) (.inr (fun e => by cases e))
    · exact World.grownBy.trans hput.2 ((hgr _ os).but _)
end Go.Proofs.YtnkccilgbhogbaaDoor
