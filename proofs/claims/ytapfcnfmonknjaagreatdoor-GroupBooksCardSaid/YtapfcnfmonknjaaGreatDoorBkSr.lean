/- Rows of prints and of groups, sorted by the library. -/
import Derived.Test.YtapfcnfmonknjaaGreatDoorBkTk
import Derived.Test.YtapfcnfmonknjaaGreatDoorOwnK
import Derived.Test.YtapfcnfmonknjaaGreatDoorSortG
import Derived.Sort.OwnSorted
namespace Go.Proofs.YtapfcnfmonknjaaGreatDoor.Bk
open Go.RowKit Go.Sort Go.Shelf
set_option linter.unusedVariables false
set_option linter.unusedSimpArgs false
theorem SortP_any {B : Nat} {v : Value} {l : List (List UInt8)} {w : World} (h : w.ownsRow B 9 1 v l.length (l.map encStr)) (hn : l.length ≤ 100000) :
    Calls Tryz.prog 39 #[v] w fun e w' => e = .returned (.tuple #[]) ∧ w'.ownsRow B 9 1 v l.length ((srtP l).map encStr) ∧ w.grownBy w' v.ownBlock := by
  rcases h.2 with ⟨rfl, h0⟩ | ⟨g, cap, cur, rfl, hbase, hb, h1, h2, h3, h4⟩
  · have hl : l = [] := List.eq_nil_of_length_eq_zero h0
    subst hl
    refine (Tryz.slices_Sort_string_none none 0 w).mono ?_
    rintro e w' ⟨rfl, rfl⟩
    exact ⟨rfl, by simpa [srtP] using h, rfl, rfl, rfl, Nat.le_refl _, fun _ _ _ => rfl⟩
  · refine (Tryz.slices_Sort_string g 0 cap l w (holds_of_block hb (by simpa using h4)) (Array.getElem?_eq_some_iff.1 hb).1 (by omega)).mono ?_
    rintro e w' ⟨rfl, n, os, rfl⟩
    exact ⟨rfl, ownsRow_sorted (ts := srtP l) (srtP_len l) hbase hb h1 h2 h3, grownBy_sorted _⟩
/-- A group as its cells have it. -/
structure Ge where
  id : Int
  A : Option Addr
  n : Nat
  c : Nat
  ev : Int
  wt : Int
  fi : Int
  la : Int
  deriving Inhabited
def Ge.sl (x : Ge) : Value := .slice x.A x.n x.c
def Ge.cs (x : Ge) : List Value := [.int .i64 x.id, .slice x.A x.n x.c, .int .i64 x.ev, .int .i64 x.wt, .int .i64 x.fi, .int .i64 x.la]
def cmpG (x y : Ge) : Int := Lib.compareInt x.id y.id
theorem cmpG_lt (x y : Ge) : cmpG x y < 0 ↔ x.id < y.id := by
  unfold cmpG Lib.compareInt
  split
  · omega
  · split <;> omega
theorem swoG : SWO (ltOf cmpG) where
  irrefl x := by have := cmpG_lt x x; unfold ltOf; exact decide_eq_false (by omega)
  trans x y z h1 h2 := by
    have h1 := (cmpG_lt x y).1 (of_decide_eq_true h1)
    have h2 := (cmpG_lt y z).1 (of_decide_eq_true h2)
    exact decide_eq_true ((cmpG_lt x z).2 (by omega))
  ntrans x y z h1 h2 := by
    have h1 := mt (cmpG_lt x y).2 (of_decide_eq_false h1)
    have h2 := mt (cmpG_lt y z).2 (of_decide_eq_false h2)
    exact decide_eq_false (mt (cmpG_lt x z).1 (by omega))
set_option maxRecDepth 100000 in
set_option maxHeartbeats 4000000 in
theorem closureG (x y : Ge) (W : World) : Calls Tryz.prog 41 #[.agg x.cs.toArray, .agg y.cs.toArray] W fun e w' => e = .returned (.int .i64 (cmpG x y)) ∧ ∃ q os', w' = Go.Sort.grow (W.drewN q) os' := by
  obtain ⟨r, hr⟩ : ∃ r, cmpG x y = r := ⟨_, rfl⟩
  have C1 := hide (fun W' => show Calls Tryz.prog 42 #[.int .i64 x.id, .int .i64 y.id] W' fun e w' => e = .returned (.int .i64 r) ∧ w' = W' from (Tryz.cmp_Compare_int x.id y.id W').mono fun e w' ⟨a, b⟩ => ⟨by rw [a, ← hr]; rfl, b⟩)
  rw [hr]
  clear hr
  obtain ⟨i, A, n, c, ev, wt, fi, la⟩ := x
  obtain ⟨i', A', n', c', ev', wt', fi', la'⟩ := y
  simp only [Ge.cs] at C1 ⊢
  go_enter Tryz.func41, Tryz.ntmps41
  go_wp2_with (go_at_call 42; refine (C1.out _).mono ?_; rintro e w4 ⟨rfl, rfl⟩)
  go_ret
  refine ⟨rfl, 0, #[.cells #[.int .i64 i, .slice A n c, .int .i64 ev, .int .i64 wt, .int .i64 fi, .int .i64 la] 44, .cells #[.int .i64 i', .slice A' n' c', .int .i64 ev', .int .i64 wt', .int .i64 fi', .int .i64 la'] 44], ?_⟩
  rw [Go.Sort.alloc_eq_grow, Go.Sort.alloc_eq_grow, Go.Sort.grow_grow]
  rfl
theorem cmpLaysG (blk off size : Nat) (w : World) : CmpLays Tryz.prog 41 #[] Ge.cs 6 cmpG blk off size w :=
  fun _ _ _ _ x y => closureG x y _
theorem SortG_any {B : Nat} {v : Value} {l : List Ge} {w : World} (h : w.ownsRow B 44 6 v l.length (l.flatMap Ge.cs)) (hn : l.length ≤ 1000) (hd : (l.map Ge.id).Nodup) :
    Calls Tryz.prog 40 #[v, .func (.func 41) #[] #[]] w fun e w' => e = .returned (.tuple #[]) ∧ (∃ l' : List Ge, l'.Perm l ∧ l'.Pairwise (fun x y => x.id < y.id) ∧ w'.ownsRow B 44 6 v l.length (l'.flatMap Ge.cs)) ∧ w.grownBy w' v.ownBlock := by
  rcases h.2 with ⟨rfl, h0⟩ | ⟨g, cap, cur, rfl, hg⟩
  · have hl : l = [] := List.eq_nil_of_length_eq_zero h0
    subst hl
    refine (AnyF.slices_SortFunc_none Tryz.SortG none 0 _ w).mono ?_
    rintro e w' ⟨rfl, rfl⟩
    exact ⟨rfl, ⟨[], List.Perm.refl _, List.Pairwise.nil, h⟩, rfl, rfl, rfl, Nat.le_refl _, fun _ _ _ => rfl⟩
  · have hH : HoldsK Ge.cs 6 w g 0 l.toArray := own_holds (fun _ => rfl) (by decide) rfl h
    have hlt : g < w.heap.size := (h.lt g rfl).2
    have hcon := AnyQ.slices_SortFunc Tryz.SortG 6 Tryz.isAgg44 Tryz.sizeOf44 Ge.cs (fun _ => rfl) (fun x u hu => by simp [Ge.cs] at hu; rcases hu with rfl | rfl | rfl | rfl | rfl | rfl <;> rfl) cmpG swoG 41 #[] g 0 cap l.toArray w (enters_of Tryz.func41 (by kernel_rfl) rfl) (cmpLaysG g 0 _ w) hH hlt (by simp; omega)
    have hcon' : Calls Tryz.prog 40 #[.slice (some ⟨g, 0, none⟩) l.length cap, .func (.func 41) #[] #[]] w _ := hcon
    refine hcon'.mono ?_
    rintro e w' ⟨rfl, d', n, os, hp, hs, rfl⟩
    obtain ⟨hsz, _, hpm⟩ := hp
    have hsz' : d'.size = l.length := by simpa using hsz
    have hp1 : d'.toList.Perm l := by
      have e1 : d'.extract 0 l.length = d' := by rw [← hsz']; exact Array.extract_size
      rw [List.size_toArray, e1] at hpm
      rw [← List.size_toArray, Array.extract_size] at hpm
      simpa using hpm
    have hd1 : (d'.toList.map Ge.id).Nodup := (hp1.map Ge.id).nodup_iff.2 hd
    have hs1 : d'.toList.Pairwise fun x y => x.id < y.id := by
      rw [List.pairwise_iff_getElem]
      intro i j hi hj hij
      have hi' : i < d'.size := by simpa using hi
      have hj' : j < d'.size := by simpa using hj
      have h9 := hs i j (Nat.zero_le _) hij (by omega)
      rw [getElem!_pos d' i hi', getElem!_pos d' j hj'] at h9
      have h8 : ¬ d'[j].id < d'[i].id := fun h7 => by
        have h6 := (cmpG_lt _ _).2 h7
        simp [ltOf] at h9
        omega
      have hne : d'[i].id ≠ d'[j].id := fun e => by
        have h5 := List.pairwise_iff_getElem.1 hd1 i j (by simpa using hi') (by simpa using hj') hij
        simp at h5
        exact h5 e
      simp only [Array.getElem_toList]
      omega
    have hlen : d'.toList.length = l.length := hp1.length_eq
    have hput := own_putK (f := Ge.cs) (sz := 6) (fun _ => rfl) (by decide) rfl (default : Ge) hlen n h
    have hgr : ∀ (u : World) (os : Array Obj), u.grownBy (grow u os) none := fun u os => ⟨rfl, rfl, rfl, by simp, fun k hk _ => heap_grow_old _ _ hk⟩
    have hd2 : d' = d'.toList.toArray := rfl
    refine ⟨rfl, ⟨d'.toList, hp1, hs1, ?_⟩, ?_⟩
    · exact hput.1.kept (hgr _ os) (.inr (fun e => by cases e))
    · exact World.grownBy.trans hput.2 ((hgr _ os).but _)
end Go.Proofs.YtapfcnfmonknjaaGreatDoor.Bk
