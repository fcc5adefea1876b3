/- BkSr, BkIs, BkG, BkG2: texts of one's own, in one file. -/
import Derived.Test.YtkkhjlomicokgaaGreatDoorBkTk
import Derived.Test.YtkkhjlomicokgaaGreatDoorTpB
import Derived.Test.YtkkhjlomicokgaaGreatDoorSortG
import Derived.Sort.OwnSorted
import Derived.Test.YtkkhjlomicokgaaGreatDoorSrtdS
import Derived.Maps.AppendAt
/- Rows of prints and of groups, sorted by the library. -/
namespace Go.Proofs.YtkkhjlomicokgaaGreatDoor.Bk
open Go.RowKit Go.Sort Go.Shelf
set_option linter.unusedVariables false
set_option linter.unusedSimpArgs false
theorem SortP_any {B : Nat} {v : Value} {l : List (List UInt8)} {w : World} (h : w.ownsRow B 9 1 v l.length (l.map encStr)) (hn : l.length ≤ 100000) :
    Calls Tryz.prog 35 #[v] w fun e w' => e = .returned (.tuple #[]) ∧ w'.ownsRow B 9 1 v l.length ((srtP l).map encStr) ∧ w.grownBy w' v.ownBlock := by
  rcases h.2 with ⟨rfl, h0⟩ | ⟨g, cap, cur, rfl, hbase, hb, h1, h2, h3, h4⟩
  · have hl : l = [] := List.eq_nil_of_length_eq_zero h0
    subst hl
    refine (Tryz.slices_Sort_string_none none 0 w).mono ?_
    rintro e w' ⟨rfl, rfl⟩
    exact ⟨rfl, by simpa [srtP] using h, rfl, rfl, rfl, Nat.le_refl _, fun _ _ _ => rfl⟩
  · refine (Tryz.slices_Sort_string g 0 cap l w (holds_of_block hb (by simpa using h4)) (Array.getElem?_eq_some_iff.1 hb).1 (by omega)).mono ?_
    rintro e w' ⟨rfl, n, os, rfl⟩
    exact ⟨rfl, ownsRow_sorted (ts := srtP l) (srtP_len l) hbase hb h1 h2 h3, grownBy_sorted _⟩
/-- A group as its cells have it. -/
structure Ge where
  id : Int
  A : Option Addr
  n : Nat
  c : Nat
  ev : Int
  wt : Int
  fi : Int
  la : Int
  deriving Inhabited
def Ge.sl (x : Ge) : Value := .slice x.A x.n x.c
def Ge.cs (x : Ge) : List Value := [.int .i64 x.id, .slice x.A x.n x.c, .int .i64 x.ev, .int .i64 x.wt, .int .i64 x.fi, .int .i64 x.la]
def cmpG (x y : Ge) : Int := Lib.compareInt x.id y.id
theorem cmpG_lt (x y : Ge) : cmpG x y < 0 ↔ x.id < y.id := by
  unfold cmpG Lib.compareInt
  split
  · omega
  · split <;> omega
theorem swoG : SWO (ltOf cmpG) where
  irrefl x := by have := cmpG_lt x x; unfold ltOf; exact decide_eq_false (by omega)
  trans x y z h1 h2 := by
    have h1 := (cmpG_lt x y).1 (of_decide_eq_true h1)
    have h2 := (cmpG_lt y z).1 (of_decide_eq_true h2)
    exact decide_eq_true ((cmpG_lt x z).2 (by omega))
  ntrans x y z h1 h2 := by
    have h1 := mt (cmpG_lt x y).2 (of_decide_eq_false h1)
    have h2 := mt (cmpG_lt y z).2 (of_decide_eq_false h2)
    exact decide_eq_false (mt (cmpG_lt x z).1 (by omega))
set_option maxRecDepth 100000 in
set_option maxHeartbeats 4000000 in
theorem closureG (x y : Ge) (W : World) : Calls Tryz.prog 37 #[.agg x.cs.toArray, .agg y.cs.toArray] W fun e w' => e = .returned (.int .i64 (cmpG x y)) ∧ ∃ q os', w' = Go.Sort.grow (W.drewN q) os' := by
  obtain ⟨r, hr⟩ : ∃ r, cmpG x y = r := ⟨_, rfl⟩
  have C1 := hide (fun W' => show Calls Tryz.prog 38 #[.int .i64 x.id, .int .i64 y.id] W' fun e w' => e = .returned (.int .i64 r) ∧ w' = W' from (Tryz.cmp_Compare_int x.id y.id W').mono fun e w' ⟨a, b⟩ => ⟨by rw [a, ← hr]; rfl, b⟩)
  rw [hr]
  clear hr
  obtain ⟨i, A, n, c, ev, wt, fi, la⟩ := x
  obtain ⟨i', A', n', c', ev', wt', fi', la'⟩ := y
  simp only [Ge.cs] at C1 ⊢
  go_enter Tryz.func37, Tryz.ntmps37
  go_wp2_with (go_at_call 38; refine (C1.out _).mono ?_; rintro e w4 ⟨rfl, rfl⟩)
  go_ret
  refine ⟨rfl, 0, #[.cells #[.int .i64 i, .slice A n c, .int .i64 ev, .int .i64 wt, .int .i64 fi, .int .i64 la] 46, .cells #[.int .i64 i', .slice A' n' c', .int .i64 ev', .int .i64 wt', .int .i64 fi', .int .i64 la'] 46], ?_⟩
  rw [Go.Sort.alloc_eq_grow, Go.Sort.alloc_eq_grow, Go.Sort.grow_grow]
  rfl
theorem cmpLaysG (blk off size : Nat) (w : World) : CmpLays Tryz.prog 37 #[] Ge.cs 6 cmpG blk off size w :=
  fun _ _ _ _ x y => closureG x y _
theorem SortG_any {B : Nat} {v : Value} {l : List Ge} {w : World} (h : w.ownsRow B 46 6 v l.length (l.flatMap Ge.cs)) (hn : l.length ≤ 1000) (hd : (l.map Ge.id).Nodup) :
    Calls Tryz.prog 36 #[v, .func (.func 37) #[] #[]] w fun e w' => e = .returned (.tuple #[]) ∧ (∃ l' : List Ge, l'.Perm l ∧ l'.Pairwise (fun x y => x.id < y.id) ∧ w'.ownsRow B 46 6 v l.length (l'.flatMap Ge.cs)) ∧ w.grownBy w' v.ownBlock := by
  rcases h.2 with ⟨rfl, h0⟩ | ⟨g, cap, cur, rfl, hg⟩
  · have hl : l = [] := List.eq_nil_of_length_eq_zero h0
    subst hl
    refine (AnyF.slices_SortFunc_none Tryz.SortG none 0 _ w).mono ?_
    rintro e w' ⟨rfl, rfl⟩
    exact ⟨rfl, ⟨[], List.Perm.refl _, List.Pairwise.nil, h⟩, rfl, rfl, rfl, Nat.le_refl _, fun _ _ _ => rfl⟩
  · have hH : HoldsK Ge.cs 6 w g 0 l.toArray := own_holds (fun _ => rfl) (by decide) rfl h
    have hlt : g < w.heap.size := (h.lt g rfl).2
    have hcon := AnyQ.slices_SortFunc Tryz.SortG 6 Tryz.isAgg46 Tryz.sizeOf46 Ge.cs (fun _ => rfl) (fun x u hu => by simp [Ge.cs] at hu; rcases hu with rfl | rfl | rfl | rfl | rfl | rfl <;> rfl) cmpG swoG 37 #[] g 0 cap l.toArray w (enters_of Tryz.func37 (by kernel_rfl) rfl) (cmpLaysG g 0 _ w) hH hlt (by simp; omega)
    have hcon' : Calls Tryz.prog 36 #[.slice (some ⟨g, 0, none⟩) l.length cap, .func (.func 37) #[] #[]] w _ := hcon
    refine hcon'.mono ?_
    rintro e w' ⟨rfl, d', n, os, hp, hs, rfl⟩
    obtain ⟨hsz, _, hpm⟩ := hp
    have hsz' : d'.size = l.length := by simpa using hsz
    have hp1 : d'.toList.Perm l := by
      have e1 : d'.extract 0 l.length = d' := by rw [← hsz']; exact Array.extract_size
      rw [List.size_toArray, e1] at hpm
      rw [← List.size_toArray, Array.extract_size] at hpm
      simpa using hpm
    have hd1 : (d'.toList.map Ge.id).Nodup := (hp1.map Ge.id).nodup_iff.2 hd
    have hs1 : d'.toList.Pairwise fun x y => x.id < y.id := by
      rw [List.pairwise_iff_getElem]
      intro i j hi hj hij
      have hi' : i < d'.size := by simpa using hi
      have hj' : j < d'.size := by simpa using hj
      have h9 := hs i j (Nat.zero_le _) hij (by omega)
      rw [getElem!_pos d' i hi', getElem!_pos d' j hj'] at h9
      have h8 : ¬ d'[j].id < d'[i].id := fun h7 => by
        have h6 := (cmpG_lt _ _).2 h7
        simp [ltOf] at h9
        omega
      have hne : d'[i].id ≠ d'[j].id := fun e => by
        have h5 := List.pairwise_iff_getElem.1 hd1 i j (by simpa using hi') (by simpa using hj') hij
        simp at h5
        exact h5 e
      simp only [Array.getElem_toList]
      omega
    have hlen : d'.toList.length = l.length := hp1.length_eq
    have hput := own_putK (f := Ge.cs) (sz := 6) (fun _ => rfl) (by decide) rfl (default : Ge) hlen n h
    have hgr : ∀ (u : World) (os : Array Obj), u.grownBy (grow u os) none := fun u os => ⟨rfl, rfl, rfl, by simp, fun k hk _ => heap_grow_old _ _ hk⟩
    have hd2 : d' = d'.toList.toArray := rfl
    refine ⟨rfl, ⟨d'.toList, hp1, hs1, ?_⟩, ?_⟩
    · exact hput.1.kept (hgr _ os) (.inr (fun e => by cases e))
    · exact World.grownBy.trans hput.2 ((hgr _ os).but _)
end Go.Proofs.YtkkhjlomicokgaaGreatDoor.Bk

/- slices.IsSorted at a row of prints. -/
namespace Go.Proofs.YtkkhjlomicokgaaGreatDoor.Bk
open Go.RowKit Go.Sort Go.Shelf
set_option linter.unusedVariables false
set_option linter.unusedSimpArgs false
theorem IsSrt_any {B : Nat} {v : Value} {l : List (List UInt8)} {w : World} (h : w.ownsRow B 9 1 v l.length (l.map encStr)) (hn : l.length ≤ 100000) (hs : l.Pairwise fun x y => x ≤ y) :
    Calls Tryz.prog 12 #[v] w fun e w' => e = .returned (.bool true) ∧ ∃ q, w' = w.drewN q := by
  rcases h.2 with ⟨rfl, h0⟩ | ⟨g, cap, cur, rfl, hbase, hb, h1, h2, h3, h4⟩
  · refine (AnyO.slices_IsSorted_string_none Tryz.SrtdS none 0 w).mono ?_
    rintro e w' ⟨rfl, rfl⟩
    exact ⟨rfl, 0, rfl⟩
  · obtain ⟨d, hd⟩ : ∃ d : Array ByteArray, (l.map fun s => (⟨s.toArray⟩ : ByteArray)).toArray = d := ⟨_, rfl⟩
    have hsz : d.size = l.length := by rw [← hd]; simp
    have hat : ∀ i (hi : i < l.length), d[i]! = ⟨l[i].toArray⟩ := fun i hi => by
      rw [← hd, getElem!_pos _ _ (by simpa using hi)]; simp
    have hc : ∀ i, i < d.size → w.cell? ⟨g, 0 + i, none⟩ = some (Value.string d[i]!) := fun i hi => by
      have hi' : i < l.length := by omega
      rw [hat i hi']
      have h5 := own_cell h i (encStr l[i]) (by rw [List.getElem?_map, List.getElem?_eq_getElem hi']; rfl)
      rw [Nat.zero_add]
      exact h5
    have hcon := AnyO.slices_IsSorted_string Tryz.SrtdS g 0 cap d w hc (by omega)
    have hr : Lib.downOK (fun x y => decide (x.data.toList < y.data.toList)) d (d.size - 1) = true := by
      rw [Lib.downOK_iff]
      intro i hi
      rw [hat (i + 1) (by omega), hat i (by omega)]
      refine decide_eq_false ?_
      have h6 := List.pairwise_iff_getElem.1 hs i (i + 1) (by omega) (by omega) (by omega)
      exact List.not_lt.2 h6
    rw [hr, hsz] at hcon
    exact hcon
end Go.Proofs.YtkkhjlomicokgaaGreatDoor.Bk

/- Groups under way: objects behind a map, a row of prints behind each. -/
namespace Go.Proofs.YtkkhjlomicokgaaGreatDoor.Bk
open Go.RowKit Go.Maps Go.Sort
set_option linter.unusedVariables false
set_option linter.unusedSimpArgs false
def upd {α : Type} (f : Int → α) (i : Int) (x : α) (j : Int) : α := if j = i then x else f j
theorem upd_same {α : Type} (f : Int → α) (i : Int) (x : α) : upd f i x i = x := if_pos rfl
theorem upd_other {α : Type} (f : Int → α) {i j : Int} (x : α) (h : j ≠ i) : upd f i x j = f j := if_neg h
def Gr.arr (g : Gr) (v : Value) : Array Value := #[.int .i64 g.id, v, .int .i64 g.ev, .int .i64 g.wt, .int .i64 g.fi, .int .i64 g.la]
/-- The groups is lie in w: block gk i, row of prints gv i, each with what gd i says; the map (block b) leads to them. -/
structure GM (B : Nat) (w : World) (b n : Nat) (D : DataW Unit) (is : List Int) (gk : Int → Nat) (gv : Int → Value) (gd : Int → Gr) : Prop where
  own : w.ownsMap Tryz.prog 3 ptE b n D
  map : MapK (Lit.int .i64) is gk D
  nd : is.Nodup
  id : ∀ i ∈ is, (gd i).id = i
  cell : ∀ i ∈ is, w.heap[gk i]? = some (.cells ((gd i).arr (gv i)) 46 (0, 0))
  row : ∀ i ∈ is, w.ownsRow B 9 1 (gv i) (gd i).ps.length ((gd i).ps.map encStr)
  inj : ∀ i ∈ is, ∀ j ∈ is, gk i = gk j → i = j
  apart : ∀ i ∈ is, ∀ j ∈ is, i ≠ j → (gv i).ownBlock = none ∨ (gv i).ownBlock ≠ (gv j).ownBlock
  lo : ∀ i ∈ is, B ≤ gk i
  bl : b < B
section
variable {B b n : Nat} {w w' : World} {D D' : DataW Unit} {is : List Int} {gk : Int → Nat} {gv : Int → Value} {gd : Int → Gr}
theorem row_blkB {w : World} {base sz n k : Nat} {e : TypeId} {v : Value} {xs : List Value} (h : w.ownsRow base e sz v n xs) (hk : v.ownBlock = some k) : ∃ cur, w.heap[k]? = some (.cells cur e (0, 0)) := by
  rcases h.2 with h1 | ⟨g, cap, cur, q1, q2, q3, q4⟩
  · rw [h1.1] at hk; cases hk
  · rw [q1] at hk
    obtain rfl : g = k := Option.some.inj hk
    exact ⟨cur, q3⟩
theorem own_stayB {w w' : World} {base sz n : Nat} {e : TypeId} {v : Value} {xs : List Value} (ho : w.ownsRow base e sz v n xs) (h : ∀ k o, v.ownBlock = some k → w.heap[k]? = some o → w'.heap[k]? = some o) : w'.ownsRow base e sz v n xs := by
  refine ⟨ho.1, ?_⟩
  rcases ho.2 with h1 | ⟨g, cap, cur, q1, q2, q3, q4⟩
  · exact .inl h1
  · exact .inr ⟨g, cap, cur, q1, q2, h g _ (by rw [q1]; rfl) q3, q4⟩
/-- The blocks of the groups. -/
def GB (b : Nat) (is : List Int) (gk : Int → Nat) (gv : Int → Value) (k : Nat) : Prop := k = b ∨ (∃ i ∈ is, k = gk i) ∨ ∃ i ∈ is, (gv i).ownBlock = some k
theorem GM.keep (h : GM B w b n D is gk gv gd) (hk : ∀ k o, GB b is gk gv k → w.heap[k]? = some o → w'.heap[k]? = some o) : GM B w' b n D is gk gv gd :=
  ⟨owns_stay h.own fun o => hk b o (.inl rfl), h.map, h.nd, h.id, fun i hi => hk _ _ (.inr (.inl ⟨i, hi, rfl⟩)) (h.cell i hi), fun i hi => own_stayB (h.row i hi) fun k o e => hk k o (.inr (.inr ⟨i, hi, e⟩)), h.inj, h.apart, h.lo, h.bl⟩
theorem GM.below (h : GM B w b n D is gk gv gd) (hb : Below w.heap.size w w') : GM B w' b n D is gk gv gd := h.keep fun k o _ e => block_below e hb
theorem GM.lt (h : GM B w b n D is gk gv gd) {k : Nat} (hk : GB b is gk gv k) : k < w.heap.size := by
  rcases hk with rfl | ⟨i, hi, rfl⟩ | ⟨i, hi, e⟩
  · exact h.own.lt
  · exact lt_of_block (h.cell i hi)
  · exact ((h.row i hi).lt k e).2
/-- A row's block is neither the map nor an object. -/
theorem GM.rsep (h : GM B w b n D is gk gv gd) {i j : Int} (hi : i ∈ is) (hj : j ∈ is) : (gv i).ownBlock ≠ some (gk j) ∧ (gv i).ownBlock ≠ some b := by
  refine ⟨own_other' (h.row i hi) (h.cell j hj) (by decide), fun e => ?_⟩
  have := ((h.row i hi).lt b e).1
  have := h.bl
  omega
/-- The object i and its row have turned; all else is as it was. -/
theorem GM.set (h : GM B w b n D is gk gv gd) {i : Int} (hi : i ∈ is) (g : Gr) (v : Value) (hg : g.id = i) (hblk : w'.heap[gk i]? = some (.cells (g.arr v) 46 (0, 0)))
    (hrow : w'.ownsRow B 9 1 v g.ps.length (g.ps.map encStr)) (hv : v.ownBlock = (gv i).ownBlock ∨ ∃ k, w.heap.size ≤ k ∧ v.ownBlock = some k)
    (ho : ∀ k o, w.heap[k]? = some o → k ≠ gk i → (gv i).ownBlock ≠ some k → w'.heap[k]? = some o) : GM B w' b n D is gk (upd gv i v) (upd gd i g) := by
  have hbne : gk i ≠ b := fun e => by have := h.lo i hi; have := h.bl; omega
  refine ⟨owns_stay h.own fun o e => ho b o e hbne.symm (h.rsep hi hi).2, h.map, h.nd, fun j hj => ?_, fun j hj => ?_, fun j hj => ?_, h.inj, fun j hj k hk hne => ?_, h.lo, h.bl⟩
  · by_cases e : j = i
    · subst e; rw [upd_same]; exact hg
    · rw [upd_other _ _ e]; exact h.id j hj
  · by_cases e : j = i
    · subst e; rw [upd_same, upd_same]; exact hblk
    · rw [upd_other _ _ e, upd_other _ _ e]
      exact ho _ _ (h.cell j hj) (fun e2 => e (h.inj j hj i hi e2)) (h.rsep hi hj).1
  · by_cases e : j = i
    · subst e; rw [upd_same, upd_same]; exact hrow
    · rw [upd_other _ _ e, upd_other _ _ e]
      refine own_stayB (h.row j hj) fun k o e2 e3 => ho k o e3 (fun e4 => (h.rsep hj hi).1 (by rw [e2, e4])) (fun e4 => ?_)
      rcases h.apart j hj i hi e with h5 | h5
      · rw [h5] at e2; cases e2
      · exact h5 (by rw [e2, e4])
  · have hnew : ∀ j ∈ is, j ≠ i → (gv j).ownBlock = none ∨ (gv j).ownBlock ≠ v.ownBlock := fun j hj e => by
      rcases hv with hv | ⟨k, hk, hv⟩
      · rw [hv]; exact h.apart j hj i hi e
      · cases e5 : (gv j).ownBlock with
        | none => exact .inl rfl
        | some x => exact .inr fun e6 => by rw [hv] at e6; cases e6; have := ((h.row j hj).lt _ e5).2; omega
    by_cases e : j = i
    · subst e
      rw [upd_same, upd_other _ _ (Ne.symm hne)]
      rcases hnew k hk (Ne.symm hne) with h5 | h5
      · cases e6 : v.ownBlock with
        | none => exact .inl rfl
        | some x => exact .inr (by rw [h5]; simp)
      · exact .inr (Ne.symm h5)
    · rw [upd_other _ _ e]
      by_cases e2 : k = i
      · subst e2; rw [upd_same]; exact hnew j hj e
      · rw [upd_other _ _ e2]; exact h.apart j hj k hk hne
/-- A group more, with no prints yet. -/
theorem GM.new (h : GM B w b n D is gk gv gd) {i : Int} (hi : i ∉ is) (g : Gr) (hg : g.id = i) (hps : g.ps = []) {k : Nat} (hk : w.heap.size ≤ k) (hB : B ≤ k)
    (hblk : w'.heap[k]? = some (.cells (g.arr (.slice none 0 0)) 46 (0, 0))) (hown : w'.ownsMap Tryz.prog 3 ptE b (n + 1) (D.put (.int .i64 i) (.lit (.int .i64 (k : Int)))))
    (ho : ∀ k o, w.heap[k]? = some o → k ≠ b → w'.heap[k]? = some o) (hlk : Keyed Tryz.prog 3) : GM B w' b (n + 1) (D.put (.int .i64 i) (.lit (.int .i64 (k : Int)))) (is ++ [i]) (upd gk i k) (upd gv i (.slice none 0 0)) (upd gd i g) := by
  have hin : ∀ j ∈ is ++ [i], (j ∈ is ∧ j ≠ i) ∨ j = i := fun j hj => by
    rcases List.mem_append.1 hj with hj | hj
    · exact .inl ⟨hj, fun e => hi (e ▸ hj)⟩
    · exact .inr (by simpa using hj)
  have hbne : ∀ j ∈ is, gk j ≠ b := fun j hj e => by have := h.lo j hj; have := h.bl; omega
  have hlt : ∀ j ∈ is, gk j < k := fun j hj => Nat.lt_of_lt_of_le (lt_of_block (h.cell j hj)) hk
  refine ⟨hown, ?_, ?_, fun j hj => ?_, fun j hj => ?_, fun j hj => ?_, fun j hj x hx e => ?_, fun j hj x hx hne => ?_, fun j hj => ?_, h.bl⟩
  · exact h.map.put enc_int hi trivial (h.own.tidy hlk) k
  · rw [List.nodup_append]
    exact ⟨h.nd, by simp, fun a ha c hc => by simp at hc; subst hc; exact fun e => hi (e ▸ ha)⟩
  · rcases hin j hj with ⟨h1, h2⟩ | rfl
    · rw [upd_other _ _ h2]; exact h.id j h1
    · rw [upd_same]; exact hg
  · rcases hin j hj with ⟨h1, h2⟩ | rfl
    · rw [upd_other _ _ h2, upd_other _ _ h2, upd_other _ _ h2]; exact ho _ _ (h.cell j h1) (hbne j h1)
    · rw [upd_same, upd_same, upd_same]; exact hblk
  · rcases hin j hj with ⟨h1, h2⟩ | rfl
    · rw [upd_other _ _ h2, upd_other _ _ h2]
      exact own_stayB (h.row j h1) fun c o e2 e3 => ho c o e3 (fun e4 => (h.rsep h1 h1).2 (by rw [e2, e4]))
    · rw [upd_same, upd_same, hps]; exact World.ownsRow_nil _ _ _ _
  · rcases hin j hj with ⟨h1, h2⟩ | rfl
    · rcases hin x hx with ⟨h3, h4⟩ | rfl
      · rw [upd_other _ _ h2, upd_other _ _ h4] at e; exact h.inj j h1 x h3 e
      · rw [upd_other _ _ h2, upd_same] at e; have := hlt j h1; omega
    · rcases hin x hx with ⟨h3, h4⟩ | rfl
      · rw [upd_other _ _ h4, upd_same] at e; have := hlt x h3; omega
      · rfl
  · rcases hin j hj with ⟨h1, h2⟩ | rfl
    · rw [upd_other _ _ h2]
      rcases hin x hx with ⟨h3, h4⟩ | rfl
      · rw [upd_other _ _ h4]; exact h.apart j h1 x h3 hne
      · rw [upd_same]
        cases e6 : (gv j).ownBlock with
        | none => exact .inl rfl
        | some y => exact .inr (by simp [Value.ownBlock])
    · rw [upd_same]; exact .inl rfl
  · rcases hin j hj with ⟨h1, h2⟩ | rfl
    · rw [upd_other _ _ h2]; exact h.lo j h1
    · rw [upd_same]; exact hB
end
end Go.Proofs.YtkkhjlomicokgaaGreatDoor.Bk

/- Groups: what the two loops keep. Plain law, and the pieces of memory. -/
namespace Go.Proofs.YtkkhjlomicokgaaGreatDoor.Bk
open Go.RowKit Go.Maps Go.Sort
set_option linter.unusedVariables false
set_option linter.unusedSimpArgs false
theorem law_i : Keyed Tryz.prog 3 := int_keyed Tryz.underlying3
theorem wf_i {x : Int} (h : 0 ≤ x ∧ x ≤ 1000000) : (Lit.int .i64 x).wf = true := by
  rw [Lit.wf]
  simp only [Bool.and_eq_true, decide_eq_true_eq]
  exact ⟨show (-9223372036854775808 : Int) ≤ _ by omega, show _ ≤ (9223372036854775807 : Int) by omega⟩
theorem key_i {x : Int} (h : 0 ≤ x ∧ x ≤ 1000000) : keyOf Tryz.prog 3 (.int .i64 x) = some (.int .i64 x) := keyOf_int_mk Tryz.underlying3 (wf_i h)
theorem zero_g (w : World) : (zeroValue 108).run Tryz.prog w = .ok (.pointer none) w := by kernel_rfl
theorem key_inv {key : Value} {kl : Lit} (h : keyOf Tryz.prog 9 key = some kl) : ∃ s : ByteArray, key = .string s ∧ kl = .string s.data.toList := by
  have hk := Tryz.underlying9
  cases key <;> simp [keyOf, hk, mapKey] at h
  obtain ⟨_, rfl⟩ := h
  exact ⟨_, rfl, rfl⟩
theorem ptE_inv2 {v : Value} {y : DataW Unit × List MemPlace} (h : ptE v = some y) : ∃ q, v = ptV q := by obtain ⟨q, e, _⟩ := ptE_inv h; exact ⟨q, e⟩
theorem info_grp : (Tryz.prog.info? 46).map (fun i => (i.zero, i.size, i.bytes)) = some (some (.agg #[.int .i64 0, .slice none 0 0, .int .i64 0, .int .i64 0, .int .i64 0, .int .i64 0]), 6, 64) := by kernel_rfl
theorem info_strg : (Tryz.prog.info? 9).map (fun i => (i.zero, i.size, i.bytes)) = some (some (.string ByteArray.empty), 1, 16) := by kernel_rfl
/-- What came is in the groups. -/
structure GIn (m : List Pr) (is : List Int) (gd : Int → Gr) : Prop where
  ids : ∀ i, i ∈ is ↔ ∃ r ∈ m, r.g = i
  eq : ∀ i ∈ is, gd i = rawG i m
def addG (g : Gr) (r : Pr) : Gr := ⟨g.id, g.ps ++ [r.p], g.ev + r.ev, g.wt + r.wt, min g.fi r.fi, max g.la r.la⟩
def zerG (r : Pr) : Gr := ⟨r.g, [], 0, 0, r.fi, r.la⟩
section
variable {m : List Pr} {is : List Int} {gd : Int → Gr} {r : Pr}
theorem GIn.start (gd : Int → Gr) : GIn [] [] gd := ⟨fun i => by simp, fun i hi => by simp at hi⟩
theorem GIn.old (h : GIn m is gd) (hr : r.g ∈ is) : GIn (m ++ [r]) is (upd gd r.g (addG (gd r.g) r)) := by
  refine ⟨fun i => ?_, fun i hi => ?_⟩
  · rw [h.ids]
    constructor
    · rintro ⟨x, hx, e⟩; exact ⟨x, List.mem_append_left _ hx, e⟩
    · rintro ⟨x, hx, e⟩
      rcases List.mem_append.1 hx with hx | hx
      · exact ⟨x, hx, e⟩
      · obtain rfl : x = r := by simpa using hx
        exact e ▸ (h.ids _).1 hr
  · by_cases e : i = r.g
    · subst e
      rw [upd_same, rawG_same m r ((h.ids _).1 hr), h.eq _ hr]
      rfl
    · rw [upd_other _ _ e, rawG_other m (Ne.symm e)]; exact h.eq i hi
theorem GIn.new (h : GIn m is gd) (hr : r.g ∉ is) : GIn (m ++ [r]) (is ++ [r.g]) (upd (upd gd r.g (zerG r)) r.g (addG (upd gd r.g (zerG r) r.g) r)) := by
  have hno : ¬ ∃ x ∈ m, x.g = r.g := fun e => hr ((h.ids _).2 e)
  refine ⟨fun i => ?_, fun i hi => ?_⟩
  · rw [List.mem_append, h.ids]
    constructor
    · rintro (⟨x, hx, e⟩ | e)
      · exact ⟨x, List.mem_append_left _ hx, e⟩
      · exact ⟨r, by simp, (List.mem_singleton.1 e).symm⟩
    · rintro ⟨x, hx, e⟩
      rcases List.mem_append.1 hx with hx | hx
      · exact .inl ⟨x, hx, e⟩
      · obtain rfl : x = r := by simpa using hx
        exact .inr (by simp [e])
  · by_cases e : i = r.g
    · subst e
      rw [upd_same, upd_same, rawG_new m r hno]
      simp [addG, zerG]
    · rw [upd_other _ _ e, upd_other _ _ e, rawG_other m (Ne.symm e)]
      rcases List.mem_append.1 hi with hi | hi
      · exact h.eq i hi
      · exact absurd (by simpa using hi) e
end
theorem sumL_le {M : Int} (hM : 0 ≤ M) : ∀ l : List Int, (∀ x ∈ l, 0 ≤ x ∧ x ≤ M) → 0 ≤ sumL l ∧ sumL l ≤ l.length * M
  | [], _ => by simp [sumL]
  | x :: l, h => by
    have h1 := h x List.mem_cons_self
    have h2 := sumL_le hM l fun y hy => h y (List.mem_cons_of_mem _ hy)
    rw [sumL, List.length_cons]
    refine ⟨by omega, ?_⟩
    have : ((l.length + 1 : Nat) : Int) * M = l.length * M + M := by rw [Int.natCast_add, Int.add_mul]; simp
    omega
/-- What each record of a book may be. -/
structure PrOk (r : Pr) : Prop where
  g : 0 ≤ r.g ∧ r.g ≤ 1000000
  ev : 0 ≤ r.ev ∧ r.ev ≤ 1000000
  wt : 0 ≤ r.wt ∧ r.wt ≤ 1000000000000
theorem rawG_rng {m : List Pr} (h : ∀ r ∈ m, PrOk r) (hm : m.length ≤ 1000) (i : Int) : (0 ≤ (rawG i m).ev ∧ (rawG i m).ev ≤ 1000000000) ∧ (0 ≤ (rawG i m).wt ∧ (rawG i m).wt ≤ 1000000000000000) := by
  have hl : ((ofG i m).length : Int) ≤ 1000 := by have := ofG_len i m; omega
  have hs : ∀ r ∈ ofG i m, PrOk r := fun r hr => h r (List.mem_filter.1 hr).1
  have h1 := sumL_le (M := 1000000) (by decide) ((ofG i m).map Pr.ev) (fun x hx => by obtain ⟨r, hr, rfl⟩ := List.mem_map.1 hx; exact (hs r hr).ev)
  have h2 := sumL_le (M := 1000000000000) (by decide) ((ofG i m).map Pr.wt) (fun x hx => by obtain ⟨r, hr, rfl⟩ := List.mem_map.1 hx; exact (hs r hr).wt)
  rw [List.length_map] at h1 h2
  simp only [rawG]
  omega
theorem rawG_len (i : Int) (m : List Pr) : (rawG i m).ps.length ≤ m.length := by simp only [rawG, List.length_map]; exact ofG_len i m
/-- All records have come. -/
theorem all_come {l m : List Pr} {left : Lit → Bool} (h : Got Lit.string (l.map Pr.p) (m.map Pr.p) left) (hd : ∀ kl, left kl = false) (hn : (l.map Pr.p).Nodup) (hsub : ∀ r ∈ m, r ∈ l) : m.Perm l := by
  have hp := h.done hd hn
  have hl : l.Nodup := (List.pairwise_map.1 hn).imp fun hne e => hne (congrArg Pr.p e)
  have hm : m.Nodup := (List.pairwise_map.1 h.nd).imp fun hne e => hne (congrArg Pr.p e)
  rw [List.perm_ext_iff_of_nodup hm hl]
  refine fun x => ⟨hsub x, fun hx => ?_⟩
  obtain ⟨y, hy, e⟩ := List.mem_map.1 (hp.mem_iff.2 (List.mem_map.2 ⟨x, hx, rfl⟩))
  have : y = x := nodup_inj hn (hsub y hy) hx e
  exact this ▸ hy
where
  nodup_inj : ∀ {l : List Pr}, (l.map Pr.p).Nodup → ∀ {x y : Pr}, x ∈ l → y ∈ l → x.p = y.p → x = y := fun {l} => by
    induction l with
    | nil => intro _ x y hx; simp at hx
    | cons a l ih =>
      intro hn x y hx hy e
      rw [List.map_cons, List.nodup_cons] at hn
      rcases List.mem_cons.1 hx with ex | hx1
      · rcases List.mem_cons.1 hy with ey | hy1
        · rw [ex, ey]
        · exact absurd (List.mem_map.2 ⟨y, hy1, by rw [← e, ex]⟩) hn.1
      · rcases List.mem_cons.1 hy with ey | hy1
        · exact absurd (List.mem_map.2 ⟨x, hx1, by rw [e, ey]⟩) hn.1
        · exact ih hn.2 hx1 hy1 e
def slA : Value → Option Addr
  | .slice a _ _ => a
  | _ => none
def slN : Value → Nat
  | .slice _ n _ => n
  | _ => 0
def slC : Value → Nat
  | .slice _ _ c => c
  | _ => 0
def mkE (i : Int) (v : Value) (g : Gr) : Ge := ⟨i, slA v, slN v, slC v, g.ev, g.wt, g.fi, g.la⟩
/-- The groups of l lie in w behind v. -/
structure GrsIn (B : Nat) (w : World) (v : Value) (l : List Pr) (es : List Ge) : Prop where
  own : w.ownsRow B 46 6 v es.length (es.flatMap Ge.cs)
  gr : IsGr l (es.map fun e => grO e.id l)
  at_ : ∀ e ∈ es, e.ev = (grO e.id l).ev ∧ e.wt = (grO e.id l).wt ∧ e.fi = (grO e.id l).fi ∧ e.la = (grO e.id l).la
  ps : ∀ e ∈ es, w.ownsRow B 9 1 e.sl (grO e.id l).ps.length ((grO e.id l).ps.map encStr)
section
variable {B b n : Nat} {w w' : World} {D : DataW Unit} {is : List Int} {gk : Int → Nat} {gv : Int → Value} {gd : Int → Gr}
theorem GM.iter (h : GM B w b n D is gk gv gd) {r : Nat} (hg : w.grownBy w' (some r)) (hr : r ≠ b) (hB : r < B) : GM B w' b n D is gk gv gd :=
  h.keep fun k o hk e => (hg.block k (lt_of_block e) (fun e2 => by
    have hk1 : k = r := by cases e2; rfl
    rcases hk with rfl | ⟨i, hi, rfl⟩ | ⟨i, hi, e3⟩
    · exact hr hk1.symm
    · have := h.lo i hi; omega
    · have := ((h.row i hi).lt k e3).1; omega)).trans e
/-- A block that is none of theirs turns. -/
theorem GM.off (h : GM B w b n D is gk gv gd) {r : Nat} (hg : w.grownBy w' (some r)) (hr : ¬ GB b is gk gv r) : GM B w' b n D is gk gv gd :=
  h.keep fun k o hk e => (hg.block k (lt_of_block e) (fun e2 => hr (by cases e2; exact hk))).trans e
theorem GM.offv (h : GM B w b n D is gk gv gd) {r : Option Nat} (hg : w.grownBy w' r) (hr : ∀ k, r = some k → ¬ GB b is gk gv k) : GM B w' b n D is gk gv gd :=
  h.keep fun k o hk e => (hg.block k (lt_of_block e) (fun e2 => hr k e2.symm hk)).trans e
/-- A row is sorted where it lies. -/
theorem GM.sort (h : GM B w b n D is gk gv gd) {i : Int} (hi : i ∈ is) (g : Gr) (hg : g.id = i) (he : g.arr (gv i) = (gd i).arr (gv i))
    (hrow : w'.ownsRow B 9 1 (gv i) g.ps.length (g.ps.map encStr)) (hgr : w.grownBy w' (gv i).ownBlock) : GM B w' b n D is gk gv (upd gd i g) := by
  have h1 := h.set hi g (gv i) hg (by rw [he]; exact (hgr.block _ (lt_of_block (h.cell i hi)) (fun e => (h.rsep hi hi).1 e.symm)).trans (h.cell i hi)) hrow (.inl rfl) (fun k o e _ hne => (hgr.block k (lt_of_block e) (fun e2 => hne e2.symm)).trans e)
  have e : upd gv i (gv i) = gv := by
    funext j
    by_cases e : j = i
    · subst e; exact upd_same _ _ _
    · exact upd_other _ _ e
  rwa [e] at h1
theorem GM.sl (h : GM B w b n D is gk gv gd) {i : Int} (hi : i ∈ is) : gv i = .slice (slA (gv i)) (slN (gv i)) (slC (gv i)) := by
  obtain ⟨A, c, e⟩ := own_sl (h.row i hi)
  rw [e]; rfl
end
theorem rawG_id (i : Int) (m : List Pr) : (rawG i m).id = i := rfl
theorem grO_id (i : Int) (m : List Pr) : (grO i m).id = i := rfl
/-- The sorted row is the groups of all. -/
theorem grs_of {B : Nat} {w : World} {v : Value} {l m : List Pr} {is ts : List Int} {gv : Int → Value} {es : List Ge} (hml : m.Perm l) (hids : ∀ i, i ∈ is ↔ ∃ r ∈ m, r.g = i) (hts : ts.Perm is)
    (hp : es.Perm (ts.map fun i => mkE i (gv i) (grO i m))) (hs : es.Pairwise fun x y => x.id < y.id) (ho : w.ownsRow B 46 6 v es.length (es.flatMap Ge.cs))
    (hsl : ∀ i ∈ is, gv i = .slice (slA (gv i)) (slN (gv i)) (slC (gv i))) (hr : ∀ i ∈ is, w.ownsRow B 9 1 (gv i) (grO i m).ps.length ((grO i m).ps.map encStr)) : GrsIn B w v l es := by
  have hin : ∀ e ∈ es, ∃ i ∈ is, e = mkE i (gv i) (grO i m) := fun e he => by
    obtain ⟨i, hi, e2⟩ := List.mem_map.1 (hp.mem_iff.1 he)
    exact ⟨i, hts.mem_iff.1 hi, e2.symm⟩
  refine ⟨ho, ⟨?_, fun i => ?_, fun g hg => ?_⟩, fun e he => ?_, fun e he => ?_⟩
  · rw [List.pairwise_map]
    exact hs.imp fun {x y} h => by rw [grO_id, grO_id]; exact h
  · rw [show (∃ r ∈ l, r.g = i) ↔ ∃ r ∈ m, r.g = i from ⟨fun ⟨r, h1, h2⟩ => ⟨r, hml.mem_iff.2 h1, h2⟩, fun ⟨r, h1, h2⟩ => ⟨r, hml.mem_iff.1 h1, h2⟩⟩, ← hids i]
    constructor
    · rintro ⟨g, hg, e⟩
      obtain ⟨x, hx, rfl⟩ := List.mem_map.1 hg
      obtain ⟨j, hj, rfl⟩ := hin x hx
      rw [grO_id] at e
      exact e ▸ hj
    · intro hi
      refine ⟨grO i l, List.mem_map.2 ⟨mkE i (gv i) (grO i m), hp.mem_iff.2 (List.mem_map.2 ⟨i, hts.mem_iff.2 hi, rfl⟩), rfl⟩, rfl⟩
  · obtain ⟨x, hx, rfl⟩ := List.mem_map.1 hg
    rw [grO_id]
  · obtain ⟨j, hj, rfl⟩ := hin e he
    rw [show (mkE j (gv j) (grO j m)).id = j from rfl, ← grO_perm hml j]
    exact ⟨rfl, rfl, rfl, rfl⟩
  · obtain ⟨j, hj, rfl⟩ := hin e he
    rw [show (mkE j (gv j) (grO j m)).id = j from rfl, ← grO_perm hml j, show (mkE j (gv j) (grO j m)).sl = gv j from (hsl j hj).symm]
    exact hr j hj
end Go.Proofs.YtkkhjlomicokgaaGreatDoor.Bk
