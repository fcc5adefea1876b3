/- Walk of goOn: a rule's next state (printed by gen_a6.py). -/
import Derived.Test.YtkkhjlomicokgaaGreatDoorAlSee
import Derived.Test.YtkkhjlomicokgaaGreatDoorAlSil
namespace Go.Proofs.YtkkhjlomicokgaaGreatDoor.al
open Go.RowKit
set_option linter.unusedVariables false
set_option linter.unusedSimpArgs false
/-- A caller's own block may turn; all other blocks stay. -/
structure ButAt (c : Nat) (w w' : World) : Prop where
  be : Below c w w'
  keep : ∀ k o, w.heap[k]? = some o → k ≠ c → w'.heap[k]? = some o
theorem ButAt.refl (c : Nat) (w : World) : ButAt c w w := ⟨Below.refl _ _, fun _ _ h _ => h⟩
theorem ButAt.trans {c : Nat} {w w1 w2 : World} (h : ButAt c w w1) (h' : ButAt c w1 w2) : ButAt c w w2 := ⟨h.be.trans h'.be, fun k o e ne => h'.keep k o (h.keep k o e ne) ne⟩
theorem ButAt.of_below {c : Nat} {w w' : World} (h : Below w.heap.size w w') (hc : c ≤ w.heap.size) : ButAt c w w' := ⟨h.mono hc, fun k o e _ => block_below e h⟩
theorem ButAt.set {c : Nat} (w : World) (i : Nat) (u : Value) : ButAt c w (w.setCell ⟨c, i, none⟩ u) := ⟨(Below.refl _ _).setCell (p := ⟨c, i, none⟩) (Nat.le_refl _) _, fun k o e ne => block_set_other e _ _ ne⟩
theorem ButAt.set2 {c : Nat} (w : World) (i j : Nat) (u v : Value) : ButAt c w ((w.setCell ⟨c, i, none⟩ u).setCell ⟨c, j, none⟩ v) := (ButAt.set w i u).trans (ButAt.set _ j v)
/-- A rule's next state, since when, and the kind of the notice. -/
def goS (st si : Int) (h : Bool) (t hold rest : Int) (sil : Bool) : Int × Int × Int :=
  if h = false ∧ st = 1 then (0, t, 0) else if h = true ∧ st = 3 then (2, t, 0)
  else
    let s1 := if h = true ∧ st = 0 then (1, t) else if h = false ∧ st = 2 then (3, t) else (st, si)
    if s1.1 = 1 ∧ hold ≤ t - s1.2 ∧ sil = false then (2, t, 1) else if s1.1 = 3 ∧ rest ≤ t - s1.2 then (0, t, 2) else (s1.1, s1.2, 0)
/-- The block with a rule's state set. -/
def now2 (cur : Array Value) (o : Nat) (st si : Int) : Array Value := (cur.setIfInBounds (o + 7) (.int .i64 st)).setIfInBounds (o + 8) (.int .i64 si)
theorem now2_same {cur : Array Value} {o : Nat} {st si : Int} (h7 : cur[o + 7]? = some (.int .i64 st)) (h8 : cur[o + 8]? = some (.int .i64 si)) : now2 cur o st si = cur := by
  unfold now2
  have e1 : cur.setIfInBounds (o + 7) (.int .i64 st) = cur := by
    apply Array.ext_getElem?
    intro i
    rw [Array.getElem?_setIfInBounds]
    split
    · rename_i e; subst e
      rw [h7]; simp
      exact (Array.getElem?_eq_some_iff.1 h7).1
    · rfl
  rw [e1]
  apply Array.ext_getElem?
  intro i
  rw [Array.getElem?_setIfInBounds]
  split
  · rename_i e; subst e
    rw [h8]; simp
    exact (Array.getElem?_eq_some_iff.1 h8).1
  · rfl
theorem now2_now2 (cur : Array Value) (o : Nat) (a b c d : Int) : now2 (now2 cur o a b) o c d = now2 cur o c d := by
  unfold now2
  apply Array.ext_getElem?
  intro i
  simp only [Array.getElem?_setIfInBounds, Array.size_setIfInBounds]
  by_cases h7 : o + 7 = i <;> by_cases h8 : o + 8 = i <;> simp [h7, h8]
/-- What goOn looks at, in a world. -/
structure GoIn (pw rb o : Nat) (nm : ByteArray) (hold rest st si : Int) (A : Option Addr) (n cap : Nat) (l : List Sil) (cur : Array Value) (w : World) : Prop where
  sl : w.cell? ⟨pw, 2, none⟩ = some (.slice A n cap)
  sils : Sl w w.heap.size Sil.cs 3 A n l
  blk : w.heap[rb]? = some (.cells cur 88 (0, 0))
  ne : pw ≠ rb
  x0 : cur[o]? = some (.string nm)
  x5 : cur[o + 5]? = some (.int .i64 hold)
  x6 : cur[o + 6]? = some (.int .i64 rest)
  x7 : cur[o + 7]? = some (.int .i64 st)
  x8 : cur[o + 8]? = some (.int .i64 si)
/-- The five cells of a rule's block. -/
structure Five (cur : Array Value) (o : Nat) (nm : ByteArray) (hold rest st si : Int) : Prop where
  x0 : cur[o]? = some (.string nm)
  x5 : cur[o + 5]? = some (.int .i64 hold)
  x6 : cur[o + 6]? = some (.int .i64 rest)
  x7 : cur[o + 7]? = some (.int .i64 st)
  x8 : cur[o + 8]? = some (.int .i64 si)
theorem Five.now {cur : Array Value} {o : Nat} {nm : ByteArray} {hold rest st si : Int} (h : Five cur o nm hold rest st si) (a b : Int) : Five (now2 cur o a b) o nm hold rest a b := by
  have h7 := (Array.getElem?_eq_some_iff.1 h.x7).1
  have h8 := (Array.getElem?_eq_some_iff.1 h.x8).1
  unfold now2
  refine ⟨?_, ?_, ?_, ?_, ?_⟩ <;> simp only [Array.getElem?_setIfInBounds, Array.size_setIfInBounds]
  · rw [if_neg (by omega), if_neg (by omega)]; exact h.x0
  · rw [if_neg (by omega), if_neg (by omega)]; exact h.x5
  · rw [if_neg (by omega), if_neg (by omega)]; exact h.x6
  · rw [if_neg (by omega)]; simp [h7]
  · simp [h8]
theorem GoIn.five {pw rb o : Nat} {nm : ByteArray} {hold rest st si : Int} {A : Option Addr} {n cap : Nat} {l : List Sil} {cur : Array Value} {w : World} (h : GoIn pw rb o nm hold rest st si A n cap l cur w) : Five cur o nm hold rest st si := ⟨h.x0, h.x5, h.x6, h.x7, h.x8⟩
theorem now2_block {w : World} {rb o : Nat} {cur : Array Value} {T : TypeId} (h : w.heap[rb]? = some (.cells cur T (0, 0))) (a b : Int) : ((w.setCell ⟨rb, o + 7, none⟩ (.int .i64 a)).setCell ⟨rb, o + 8, none⟩ (.int .i64 b)).heap[rb]? = some (.cells (now2 cur o a b) T (0, 0)) :=
  block_set (block_set h (i := o + 7) (.int .i64 a)) (i := o + 8) (.int .i64 b)
theorem sils_set {w : World} {rb i j : Nat} {u v : Value} {cur : Array Value} {T : TypeId} {A : Option Addr} {n : Nat} {l : List Sil} (h : Sl w w.heap.size Sil.cs 3 A n l) (hA : ∀ b k, A = some ⟨b, k, none⟩ → b ≠ rb) :
    Sl ((w.setCell ⟨rb, i, none⟩ u).setCell ⟨rb, j, none⟩ v) ((w.setCell ⟨rb, i, none⟩ u).setCell ⟨rb, j, none⟩ v).heap.size Sil.cs 3 A n l := by
  refine ⟨h.len, fun hn => ?_⟩
  obtain ⟨b, o, e, hlt, hc⟩ := h.cells hn
  refine ⟨b, o, e, by simpa using hlt, fun k a ha j' v' hv' => ?_⟩
  have hne := hA b o e
  have h1 := hc k a ha j' v' hv'
  have hb : ((w.setCell ⟨rb, i, none⟩ u).setCell ⟨rb, j, none⟩ v).heap[b]? = w.heap[b]? := by
    rw [heap_setCell_other _ _ _ _ hne, heap_setCell_other _ _ _ _ hne]
  rw [← h1]
  exact World.cell?_of_block hb
set_option maxRecDepth 100000 in
set_option maxHeartbeats 4000000 in
theorem go_f1 (pw rb o : Nat) (nm : ByteArray) (hold rest si t : Int) (A : Option Addr) (n cap : Nat) (l : List Sil) (cur : Array Value) (w : World) (hG : GoIn pw rb o nm hold rest 1 si A n cap l cur w) (hA : ∀ b k, A = some ⟨b, k, none⟩ → b ≠ rb) (hn : n ≤ maxLen)
    (ht0 : 0 ≤ t) (ht1 : t ≤ 3155759999) (hs0 : 0 ≤ si) (hs1 : si ≤ t) :
    Calls Tryz.prog 41 #[.pointer (some ⟨pw, 0, none⟩), .pointer (some ⟨rb, o, none⟩), .bool false, .int .i64 t] w fun e w' => e = .returned (.int .i64 0) ∧ w'.heap[rb]? = some (.cells (now2 cur o 0 t) 88 (0, 0)) ∧ ButAt rb w w' := by
  have HX := hG.blk
  have H5 := hG.five
  have c0 : w.cell? ⟨rb, o, none⟩ = some (.string nm) := (block_cell HX _).trans H5.x0
  have c5 : w.cell? ⟨rb, o + 5, none⟩ = some (.int .i64 hold) := (block_cell HX _).trans H5.x5
  have c6 : w.cell? ⟨rb, o + 6, none⟩ = some (.int .i64 rest) := (block_cell HX _).trans H5.x6
  have c7 : w.cell? ⟨rb, o + 7, none⟩ = some (.int .i64 1) := (block_cell HX _).trans H5.x7
  have c8 : w.cell? ⟨rb, o + 8, none⟩ = some (.int .i64 si) := (block_cell HX _).trans H5.x8
  have cf7 : w.frozen? ⟨rb, o + 7, none⟩ = false := block_free HX _
  have cf8 : w.frozen? ⟨rb, o + 8, none⟩ = false := block_free HX _
  have hlt := lt_of_block HX
  have HR0 := hide HX
  have HX := now2_block (o := o) HR0.out 0 t
  have H6 := H5.now 0 t
  have d0 : ((w.setCell ⟨rb, o + 7, none⟩ (.int .i64 0)).setCell ⟨rb, o + 8, none⟩ (.int .i64 t)).cell? ⟨rb, o, none⟩ = some (.string nm) := (block_cell HX _).trans H6.x0
  have d5 : ((w.setCell ⟨rb, o + 7, none⟩ (.int .i64 0)).setCell ⟨rb, o + 8, none⟩ (.int .i64 t)).cell? ⟨rb, o + 5, none⟩ = some (.int .i64 hold) := (block_cell HX _).trans H6.x5
  have d6 : ((w.setCell ⟨rb, o + 7, none⟩ (.int .i64 0)).setCell ⟨rb, o + 8, none⟩ (.int .i64 t)).cell? ⟨rb, o + 6, none⟩ = some (.int .i64 rest) := (block_cell HX _).trans H6.x6
  have d7 : ((w.setCell ⟨rb, o + 7, none⟩ (.int .i64 0)).setCell ⟨rb, o + 8, none⟩ (.int .i64 t)).cell? ⟨rb, o + 7, none⟩ = some (.int .i64 0) := (block_cell HX _).trans H6.x7
  have d8 : ((w.setCell ⟨rb, o + 7, none⟩ (.int .i64 0)).setCell ⟨rb, o + 8, none⟩ (.int .i64 t)).cell? ⟨rb, o + 8, none⟩ = some (.int .i64 t) := (block_cell HX _).trans H6.x8
  have df7 : ((w.setCell ⟨rb, o + 7, none⟩ (.int .i64 0)).setCell ⟨rb, o + 8, none⟩ (.int .i64 t)).frozen? ⟨rb, o + 7, none⟩ = false := block_free HX _
  have df8 : ((w.setCell ⟨rb, o + 7, none⟩ (.int .i64 0)).setCell ⟨rb, o + 8, none⟩ (.int .i64 t)).frozen? ⟨rb, o + 8, none⟩ = false := block_free HX _
  have HR1 := hide HX
  clear HX hG hA
  go_enter Tryz.func41, Tryz.ntmps41
  go_wp2_with (fail)
  go_ret
  exact ⟨rfl, HR1.out, ButAt.set2 _ _ _ _ _⟩
set_option maxRecDepth 100000 in
set_option maxHeartbeats 4000000 in
theorem go_f0 (pw rb o : Nat) (nm : ByteArray) (hold rest si t : Int) (A : Option Addr) (n cap : Nat) (l : List Sil) (cur : Array Value) (w : World) (hG : GoIn pw rb o nm hold rest 0 si A n cap l cur w) (hA : ∀ b k, A = some ⟨b, k, none⟩ → b ≠ rb) (hn : n ≤ maxLen)
    (ht0 : 0 ≤ t) (ht1 : t ≤ 3155759999) (hs0 : 0 ≤ si) (hs1 : si ≤ t) :
    Calls Tryz.prog 41 #[.pointer (some ⟨pw, 0, none⟩), .pointer (some ⟨rb, o, none⟩), .bool false, .int .i64 t] w fun e w' => e = .returned (.int .i64 0) ∧ w'.heap[rb]? = some (.cells (now2 cur o 0 si) 88 (0, 0)) ∧ ButAt rb w w' := by
  have HX := hG.blk
  have H5 := hG.five
  have c0 : w.cell? ⟨rb, o, none⟩ = some (.string nm) := (block_cell HX _).trans H5.x0
  have c5 : w.cell? ⟨rb, o + 5, none⟩ = some (.int .i64 hold) := (block_cell HX _).trans H5.x5
  have c6 : w.cell? ⟨rb, o + 6, none⟩ = some (.int .i64 rest) := (block_cell HX _).trans H5.x6
  have c7 : w.cell? ⟨rb, o + 7, none⟩ = some (.int .i64 0) := (block_cell HX _).trans H5.x7
  have c8 : w.cell? ⟨rb, o + 8, none⟩ = some (.int .i64 si) := (block_cell HX _).trans H5.x8
  have cf7 : w.frozen? ⟨rb, o + 7, none⟩ = false := block_free HX _
  have cf8 : w.frozen? ⟨rb, o + 8, none⟩ = false := block_free HX _
  have hlt := lt_of_block HX
  have HR0 := hide HX
  clear HX hG hA
  go_enter Tryz.func41, Tryz.ntmps41
  go_wp2_with (fail)
  go_ret
  exact ⟨rfl, by rw [now2_same H5.x7 H5.x8]; exact HR0.out, ButAt.refl _ _⟩
set_option maxRecDepth 100000 in
set_option maxHeartbeats 4000000 in
theorem go_f2a (pw rb o : Nat) (nm : ByteArray) (hold rest si t : Int) (A : Option Addr) (n cap : Nat) (l : List Sil) (cur : Array Value) (w : World) (hG : GoIn pw rb o nm hold rest 2 si A n cap l cur w) (hA : ∀ b k, A = some ⟨b, k, none⟩ → b ≠ rb) (hn : n ≤ maxLen)
    (ht0 : 0 ≤ t) (ht1 : t ≤ 3155759999) (hs0 : 0 ≤ si) (hs1 : si ≤ t) (hr : rest ≤ 0) :
    Calls Tryz.prog 41 #[.pointer (some ⟨pw, 0, none⟩), .pointer (some ⟨rb, o, none⟩), .bool false, .int .i64 t] w fun e w' => e = .returned (.int .i64 2) ∧ w'.heap[rb]? = some (.cells (now2 cur o 0 t) 88 (0, 0)) ∧ ButAt rb w w' := by
  have HX := hG.blk
  have H5 := hG.five
  have c0 : w.cell? ⟨rb, o, none⟩ = some (.string nm) := (block_cell HX _).trans H5.x0
  have c5 : w.cell? ⟨rb, o + 5, none⟩ = some (.int .i64 hold) := (block_cell HX _).trans H5.x5
  have c6 : w.cell? ⟨rb, o + 6, none⟩ = some (.int .i64 rest) := (block_cell HX _).trans H5.x6
  have c7 : w.cell? ⟨rb, o + 7, none⟩ = some (.int .i64 2) := (block_cell HX _).trans H5.x7
  have c8 : w.cell? ⟨rb, o + 8, none⟩ = some (.int .i64 si) := (block_cell HX _).trans H5.x8
  have cf7 : w.frozen? ⟨rb, o + 7, none⟩ = false := block_free HX _
  have cf8 : w.frozen? ⟨rb, o + 8, none⟩ = false := block_free HX _
  have hlt := lt_of_block HX
  have HR0 := hide HX
  have HX := now2_block (o := o) HR0.out 3 t
  have H6 := H5.now 3 t
  have d0 : ((w.setCell ⟨rb, o + 7, none⟩ (.int .i64 3)).setCell ⟨rb, o + 8, none⟩ (.int .i64 t)).cell? ⟨rb, o, none⟩ = some (.string nm) := (block_cell HX _).trans H6.x0
  have d5 : ((w.setCell ⟨rb, o + 7, none⟩ (.int .i64 3)).setCell ⟨rb, o + 8, none⟩ (.int .i64 t)).cell? ⟨rb, o + 5, none⟩ = some (.int .i64 hold) := (block_cell HX _).trans H6.x5
  have d6 : ((w.setCell ⟨rb, o + 7, none⟩ (.int .i64 3)).setCell ⟨rb, o + 8, none⟩ (.int .i64 t)).cell? ⟨rb, o + 6, none⟩ = some (.int .i64 rest) := (block_cell HX _).trans H6.x6
  have d7 : ((w.setCell ⟨rb, o + 7, none⟩ (.int .i64 3)).setCell ⟨rb, o + 8, none⟩ (.int .i64 t)).cell? ⟨rb, o + 7, none⟩ = some (.int .i64 3) := (block_cell HX _).trans H6.x7
  have d8 : ((w.setCell ⟨rb, o + 7, none⟩ (.int .i64 3)).setCell ⟨rb, o + 8, none⟩ (.int .i64 t)).cell? ⟨rb, o + 8, none⟩ = some (.int .i64 t) := (block_cell HX _).trans H6.x8
  have df7 : ((w.setCell ⟨rb, o + 7, none⟩ (.int .i64 3)).setCell ⟨rb, o + 8, none⟩ (.int .i64 t)).frozen? ⟨rb, o + 7, none⟩ = false := block_free HX _
  have df8 : ((w.setCell ⟨rb, o + 7, none⟩ (.int .i64 3)).setCell ⟨rb, o + 8, none⟩ (.int .i64 t)).frozen? ⟨rb, o + 8, none⟩ = false := block_free HX _
  have HR1 := hide HX
  clear HX hG hA
  go_enter Tryz.func41, Tryz.ntmps41
  go_wp2_with (fail)
  go_ret
  exact ⟨rfl, by have h := now2_block (o := o) HR1.out 0 t; rwa [now2_now2] at h, (ButAt.set2 _ _ _ _ _).trans (ButAt.set2 _ _ _ _ _)⟩
set_option maxRecDepth 100000 in
set_option maxHeartbeats 4000000 in
theorem go_f2b (pw rb o : Nat) (nm : ByteArray) (hold rest si t : Int) (A : Option Addr) (n cap : Nat) (l : List Sil) (cur : Array Value) (w : World) (hG : GoIn pw rb o nm hold rest 2 si A n cap l cur w) (hA : ∀ b k, A = some ⟨b, k, none⟩ → b ≠ rb) (hn : n ≤ maxLen)
    (ht0 : 0 ≤ t) (ht1 : t ≤ 3155759999) (hs0 : 0 ≤ si) (hs1 : si ≤ t) (hr : decide (rest ≤ 0) = false) :
    Calls Tryz.prog 41 #[.pointer (some ⟨pw, 0, none⟩), .pointer (some ⟨rb, o, none⟩), .bool false, .int .i64 t] w fun e w' => e = .returned (.int .i64 0) ∧ w'.heap[rb]? = some (.cells (now2 cur o 3 t) 88 (0, 0)) ∧ ButAt rb w w' := by
  have HX := hG.blk
  have H5 := hG.five
  have c0 : w.cell? ⟨rb, o, none⟩ = some (.string nm) := (block_cell HX _).trans H5.x0
  have c5 : w.cell? ⟨rb, o + 5, none⟩ = some (.int .i64 hold) := (block_cell HX _).trans H5.x5
  have c6 : w.cell? ⟨rb, o + 6, none⟩ = some (.int .i64 rest) := (block_cell HX _).trans H5.x6
  have c7 : w.cell? ⟨rb, o + 7, none⟩ = some (.int .i64 2) := (block_cell HX _).trans H5.x7
  have c8 : w.cell? ⟨rb, o + 8, none⟩ = some (.int .i64 si) := (block_cell HX _).trans H5.x8
  have cf7 : w.frozen? ⟨rb, o + 7, none⟩ = false := block_free HX _
  have cf8 : w.frozen? ⟨rb, o + 8, none⟩ = false := block_free HX _
  have hlt := lt_of_block HX
  have HR0 := hide HX
  have HX := now2_block (o := o) HR0.out 3 t
  have H6 := H5.now 3 t
  have d0 : ((w.setCell ⟨rb, o + 7, none⟩ (.int .i64 3)).setCell ⟨rb, o + 8, none⟩ (.int .i64 t)).cell? ⟨rb, o, none⟩ = some (.string nm) := (block_cell HX _).trans H6.x0
  have d5 : ((w.setCell ⟨rb, o + 7, none⟩ (.int .i64 3)).setCell ⟨rb, o + 8, none⟩ (.int .i64 t)).cell? ⟨rb, o + 5, none⟩ = some (.int .i64 hold) := (block_cell HX _).trans H6.x5
  have d6 : ((w.setCell ⟨rb, o + 7, none⟩ (.int .i64 3)).setCell ⟨rb, o + 8, none⟩ (.int .i64 t)).cell? ⟨rb, o + 6, none⟩ = some (.int .i64 rest) := (block_cell HX _).trans H6.x6
  have d7 : ((w.setCell ⟨rb, o + 7, none⟩ (.int .i64 3)).setCell ⟨rb, o + 8, none⟩ (.int .i64 t)).cell? ⟨rb, o + 7, none⟩ = some (.int .i64 3) := (block_cell HX _).trans H6.x7
  have d8 : ((w.setCell ⟨rb, o + 7, none⟩ (.int .i64 3)).setCell ⟨rb, o + 8, none⟩ (.int .i64 t)).cell? ⟨rb, o + 8, none⟩ = some (.int .i64 t) := (block_cell HX _).trans H6.x8
  have df7 : ((w.setCell ⟨rb, o + 7, none⟩ (.int .i64 3)).setCell ⟨rb, o + 8, none⟩ (.int .i64 t)).frozen? ⟨rb, o + 7, none⟩ = false := block_free HX _
  have df8 : ((w.setCell ⟨rb, o + 7, none⟩ (.int .i64 3)).setCell ⟨rb, o + 8, none⟩ (.int .i64 t)).frozen? ⟨rb, o + 8, none⟩ = false := block_free HX _
  have HR1 := hide HX
  clear HX hG hA
  go_enter Tryz.func41, Tryz.ntmps41
  go_wp2_with (fail)
  go_ret
  exact ⟨rfl, HR1.out, ButAt.set2 _ _ _ _ _⟩
set_option maxRecDepth 100000 in
set_option maxHeartbeats 4000000 in
theorem go_f3a (pw rb o : Nat) (nm : ByteArray) (hold rest si t : Int) (A : Option Addr) (n cap : Nat) (l : List Sil) (cur : Array Value) (w : World) (hG : GoIn pw rb o nm hold rest 3 si A n cap l cur w) (hA : ∀ b k, A = some ⟨b, k, none⟩ → b ≠ rb) (hn : n ≤ maxLen)
    (ht0 : 0 ≤ t) (ht1 : t ≤ 3155759999) (hs0 : 0 ≤ si) (hs1 : si ≤ t) (hr : rest ≤ t - si) :
    Calls Tryz.prog 41 #[.pointer (some ⟨pw, 0, none⟩), .pointer (some ⟨rb, o, none⟩), .bool false, .int .i64 t] w fun e w' => e = .returned (.int .i64 2) ∧ w'.heap[rb]? = some (.cells (now2 cur o 0 t) 88 (0, 0)) ∧ ButAt rb w w' := by
  have HX := hG.blk
  have H5 := hG.five
  have c0 : w.cell? ⟨rb, o, none⟩ = some (.string nm) := (block_cell HX _).trans H5.x0
  have c5 : w.cell? ⟨rb, o + 5, none⟩ = some (.int .i64 hold) := (block_cell HX _).trans H5.x5
  have c6 : w.cell? ⟨rb, o + 6, none⟩ = some (.int .i64 rest) := (block_cell HX _).trans H5.x6
  have c7 : w.cell? ⟨rb, o + 7, none⟩ = some (.int .i64 3) := (block_cell HX _).trans H5.x7
  have c8 : w.cell? ⟨rb, o + 8, none⟩ = some (.int .i64 si) := (block_cell HX _).trans H5.x8
  have cf7 : w.frozen? ⟨rb, o + 7, none⟩ = false := block_free HX _
  have cf8 : w.frozen? ⟨rb, o + 8, none⟩ = false := block_free HX _
  have hlt := lt_of_block HX
  have HR0 := hide HX
  clear HX hG hA
  go_enter Tryz.func41, Tryz.ntmps41
  go_wp2_with (fail)
  go_ret
  exact ⟨rfl, now2_block (o := o) HR0.out 0 t, (ButAt.refl _ _).trans (ButAt.set2 _ _ _ _ _)⟩
set_option maxRecDepth 100000 in
set_option maxHeartbeats 4000000 in
theorem go_f3b (pw rb o : Nat) (nm : ByteArray) (hold rest si t : Int) (A : Option Addr) (n cap : Nat) (l : List Sil) (cur : Array Value) (w : World) (hG : GoIn pw rb o nm hold rest 3 si A n cap l cur w) (hA : ∀ b k, A = some ⟨b, k, none⟩ → b ≠ rb) (hn : n ≤ maxLen)
    (ht0 : 0 ≤ t) (ht1 : t ≤ 3155759999) (hs0 : 0 ≤ si) (hs1 : si ≤ t) (hr : decide (rest ≤ t - si) = false) :
    Calls Tryz.prog 41 #[.pointer (some ⟨pw, 0, none⟩), .pointer (some ⟨rb, o, none⟩), .bool false, .int .i64 t] w fun e w' => e = .returned (.int .i64 0) ∧ w'.heap[rb]? = some (.cells (now2 cur o 3 si) 88 (0, 0)) ∧ ButAt rb w w' := by
  have HX := hG.blk
  have H5 := hG.five
  have c0 : w.cell? ⟨rb, o, none⟩ = some (.string nm) := (block_cell HX _).trans H5.x0
  have c5 : w.cell? ⟨rb, o + 5, none⟩ = some (.int .i64 hold) := (block_cell HX _).trans H5.x5
  have c6 : w.cell? ⟨rb, o + 6, none⟩ = some (.int .i64 rest) := (block_cell HX _).trans H5.x6
  have c7 : w.cell? ⟨rb, o + 7, none⟩ = some (.int .i64 3) := (block_cell HX _).trans H5.x7
  have c8 : w.cell? ⟨rb, o + 8, none⟩ = some (.int .i64 si) := (block_cell HX _).trans H5.x8
  have cf7 : w.frozen? ⟨rb, o + 7, none⟩ = false := block_free HX _
  have cf8 : w.frozen? ⟨rb, o + 8, none⟩ = false := block_free HX _
  have hlt := lt_of_block HX
  have HR0 := hide HX
  clear HX hG hA
  go_enter Tryz.func41, Tryz.ntmps41
  go_wp2_with (fail)
  go_ret
  exact ⟨rfl, by rw [now2_same H5.x7 H5.x8]; exact HR0.out, ButAt.refl _ _⟩
set_option maxRecDepth 100000 in
set_option maxHeartbeats 4000000 in
theorem go_t3 (pw rb o : Nat) (nm : ByteArray) (hold rest si t : Int) (A : Option Addr) (n cap : Nat) (l : List Sil) (cur : Array Value) (w : World) (hG : GoIn pw rb o nm hold rest 3 si A n cap l cur w) (hA : ∀ b k, A = some ⟨b, k, none⟩ → b ≠ rb) (hn : n ≤ maxLen)
    (ht0 : 0 ≤ t) (ht1 : t ≤ 3155759999) (hs0 : 0 ≤ si) (hs1 : si ≤ t) :
    Calls Tryz.prog 41 #[.pointer (some ⟨pw, 0, none⟩), .pointer (some ⟨rb, o, none⟩), .bool true, .int .i64 t] w fun e w' => e = .returned (.int .i64 0) ∧ w'.heap[rb]? = some (.cells (now2 cur o 2 t) 88 (0, 0)) ∧ ButAt rb w w' := by
  have HX := hG.blk
  have H5 := hG.five
  have c0 : w.cell? ⟨rb, o, none⟩ = some (.string nm) := (block_cell HX _).trans H5.x0
  have c5 : w.cell? ⟨rb, o + 5, none⟩ = some (.int .i64 hold) := (block_cell HX _).trans H5.x5
  have c6 : w.cell? ⟨rb, o + 6, none⟩ = some (.int .i64 rest) := (block_cell HX _).trans H5.x6
  have c7 : w.cell? ⟨rb, o + 7, none⟩ = some (.int .i64 3) := (block_cell HX _).trans H5.x7
  have c8 : w.cell? ⟨rb, o + 8, none⟩ = some (.int .i64 si) := (block_cell HX _).trans H5.x8
  have cf7 : w.frozen? ⟨rb, o + 7, none⟩ = false := block_free HX _
  have cf8 : w.frozen? ⟨rb, o + 8, none⟩ = false := block_free HX _
  have hlt := lt_of_block HX
  have HR0 := hide HX
  have HX := now2_block (o := o) HR0.out 2 t
  have H6 := H5.now 2 t
  have d0 : ((w.setCell ⟨rb, o + 7, none⟩ (.int .i64 2)).setCell ⟨rb, o + 8, none⟩ (.int .i64 t)).cell? ⟨rb, o, none⟩ = some (.string nm) := (block_cell HX _).trans H6.x0
  have d5 : ((w.setCell ⟨rb, o + 7, none⟩ (.int .i64 2)).setCell ⟨rb, o + 8, none⟩ (.int .i64 t)).cell? ⟨rb, o + 5, none⟩ = some (.int .i64 hold) := (block_cell HX _).trans H6.x5
  have d6 : ((w.setCell ⟨rb, o + 7, none⟩ (.int .i64 2)).setCell ⟨rb, o + 8, none⟩ (.int .i64 t)).cell? ⟨rb, o + 6, none⟩ = some (.int .i64 rest) := (block_cell HX _).trans H6.x6
  have d7 : ((w.setCell ⟨rb, o + 7, none⟩ (.int .i64 2)).setCell ⟨rb, o + 8, none⟩ (.int .i64 t)).cell? ⟨rb, o + 7, none⟩ = some (.int .i64 2) := (block_cell HX _).trans H6.x7
  have d8 : ((w.setCell ⟨rb, o + 7, none⟩ (.int .i64 2)).setCell ⟨rb, o + 8, none⟩ (.int .i64 t)).cell? ⟨rb, o + 8, none⟩ = some (.int .i64 t) := (block_cell HX _).trans H6.x8
  have df7 : ((w.setCell ⟨rb, o + 7, none⟩ (.int .i64 2)).setCell ⟨rb, o + 8, none⟩ (.int .i64 t)).frozen? ⟨rb, o + 7, none⟩ = false := block_free HX _
  have df8 : ((w.setCell ⟨rb, o + 7, none⟩ (.int .i64 2)).setCell ⟨rb, o + 8, none⟩ (.int .i64 t)).frozen? ⟨rb, o + 8, none⟩ = false := block_free HX _
  have HR1 := hide HX
  clear HX hG hA
  go_enter Tryz.func41, Tryz.ntmps41
  go_wp2_with (fail)
  go_ret
  exact ⟨rfl, HR1.out, ButAt.set2 _ _ _ _ _⟩
set_option maxRecDepth 100000 in
set_option maxHeartbeats 4000000 in
theorem go_t2 (pw rb o : Nat) (nm : ByteArray) (hold rest si t : Int) (A : Option Addr) (n cap : Nat) (l : List Sil) (cur : Array Value) (w : World) (hG : GoIn pw rb o nm hold rest 2 si A n cap l cur w) (hA : ∀ b k, A = some ⟨b, k, none⟩ → b ≠ rb) (hn : n ≤ maxLen)
    (ht0 : 0 ≤ t) (ht1 : t ≤ 3155759999) (hs0 : 0 ≤ si) (hs1 : si ≤ t) :
    Calls Tryz.prog 41 #[.pointer (some ⟨pw, 0, none⟩), .pointer (some ⟨rb, o, none⟩), .bool true, .int .i64 t] w fun e w' => e = .returned (.int .i64 0) ∧ w'.heap[rb]? = some (.cells (now2 cur o 2 si) 88 (0, 0)) ∧ ButAt rb w w' := by
  have HX := hG.blk
  have H5 := hG.five
  have c0 : w.cell? ⟨rb, o, none⟩ = some (.string nm) := (block_cell HX _).trans H5.x0
  have c5 : w.cell? ⟨rb, o + 5, none⟩ = some (.int .i64 hold) := (block_cell HX _).trans H5.x5
  have c6 : w.cell? ⟨rb, o + 6, none⟩ = some (.int .i64 rest) := (block_cell HX _).trans H5.x6
  have c7 : w.cell? ⟨rb, o + 7, none⟩ = some (.int .i64 2) := (block_cell HX _).trans H5.x7
  have c8 : w.cell? ⟨rb, o + 8, none⟩ = some (.int .i64 si) := (block_cell HX _).trans H5.x8
  have cf7 : w.frozen? ⟨rb, o + 7, none⟩ = false := block_free HX _
  have cf8 : w.frozen? ⟨rb, o + 8, none⟩ = false := block_free HX _
  have hlt := lt_of_block HX
  have HR0 := hide HX
  clear HX hG hA
  go_enter Tryz.func41, Tryz.ntmps41
  go_wp2_with (fail)
  go_ret
  exact ⟨rfl, by rw [now2_same H5.x7 H5.x8]; exact HR0.out, ButAt.refl _ _⟩
set_option maxRecDepth 100000 in
set_option maxHeartbeats 4000000 in
theorem go_t0a (pw rb o : Nat) (nm : ByteArray) (hold rest si t : Int) (A : Option Addr) (n cap : Nat) (l : List Sil) (cur : Array Value) (w : World) (hG : GoIn pw rb o nm hold rest 0 si A n cap l cur w) (hA : ∀ b k, A = some ⟨b, k, none⟩ → b ≠ rb) (hn : n ≤ maxLen)
    (ht0 : 0 ≤ t) (ht1 : t ≤ 3155759999) (hs0 : 0 ≤ si) (hs1 : si ≤ t) (hr : hold ≤ 0) (hsil : silB nm t l = false) :
    Calls Tryz.prog 41 #[.pointer (some ⟨pw, 0, none⟩), .pointer (some ⟨rb, o, none⟩), .bool true, .int .i64 t] w fun e w' => e = .returned (.int .i64 1) ∧ w'.heap[rb]? = some (.cells (now2 cur o 2 t) 88 (0, 0)) ∧ ButAt rb w w' := by
  have HX := hG.blk
  have H5 := hG.five
  have c0 : w.cell? ⟨rb, o, none⟩ = some (.string nm) := (block_cell HX _).trans H5.x0
  have c5 : w.cell? ⟨rb, o + 5, none⟩ = some (.int .i64 hold) := (block_cell HX _).trans H5.x5
  have c6 : w.cell? ⟨rb, o + 6, none⟩ = some (.int .i64 rest) := (block_cell HX _).trans H5.x6
  have c7 : w.cell? ⟨rb, o + 7, none⟩ = some (.int .i64 0) := (block_cell HX _).trans H5.x7
  have c8 : w.cell? ⟨rb, o + 8, none⟩ = some (.int .i64 si) := (block_cell HX _).trans H5.x8
  have cf7 : w.frozen? ⟨rb, o + 7, none⟩ = false := block_free HX _
  have cf8 : w.frozen? ⟨rb, o + 8, none⟩ = false := block_free HX _
  have hlt := lt_of_block HX
  have HR0 := hide HX
  have HX := now2_block (o := o) HR0.out 1 t
  have H6 := H5.now 1 t
  have d0 : ((w.setCell ⟨rb, o + 7, none⟩ (.int .i64 1)).setCell ⟨rb, o + 8, none⟩ (.int .i64 t)).cell? ⟨rb, o, none⟩ = some (.string nm) := (block_cell HX _).trans H6.x0
  have d5 : ((w.setCell ⟨rb, o + 7, none⟩ (.int .i64 1)).setCell ⟨rb, o + 8, none⟩ (.int .i64 t)).cell? ⟨rb, o + 5, none⟩ = some (.int .i64 hold) := (block_cell HX _).trans H6.x5
  have d6 : ((w.setCell ⟨rb, o + 7, none⟩ (.int .i64 1)).setCell ⟨rb, o + 8, none⟩ (.int .i64 t)).cell? ⟨rb, o + 6, none⟩ = some (.int .i64 rest) := (block_cell HX _).trans H6.x6
  have d7 : ((w.setCell ⟨rb, o + 7, none⟩ (.int .i64 1)).setCell ⟨rb, o + 8, none⟩ (.int .i64 t)).cell? ⟨rb, o + 7, none⟩ = some (.int .i64 1) := (block_cell HX _).trans H6.x7
  have d8 : ((w.setCell ⟨rb, o + 7, none⟩ (.int .i64 1)).setCell ⟨rb, o + 8, none⟩ (.int .i64 t)).cell? ⟨rb, o + 8, none⟩ = some (.int .i64 t) := (block_cell HX _).trans H6.x8
  have df7 : ((w.setCell ⟨rb, o + 7, none⟩ (.int .i64 1)).setCell ⟨rb, o + 8, none⟩ (.int .i64 t)).frozen? ⟨rb, o + 7, none⟩ = false := block_free HX _
  have df8 : ((w.setCell ⟨rb, o + 7, none⟩ (.int .i64 1)).setCell ⟨rb, o + 8, none⟩ (.int .i64 t)).frozen? ⟨rb, o + 8, none⟩ = false := block_free HX _
  have HR1 := hide HX
  have HS := hide (show Calls Tryz.prog 66 #[.pointer (some ⟨pw, 0, none⟩), .string nm, .int .i64 t] ((w.setCell ⟨rb, o + 7, none⟩ (.int .i64 1)).setCell ⟨rb, o + 8, none⟩ (.int .i64 t)) fun e w' => e = .returned (.bool false) ∧ Below ((w.setCell ⟨rb, o + 7, none⟩ (.int .i64 1)).setCell ⟨rb, o + 8, none⟩ (.int .i64 t)).heap.size ((w.setCell ⟨rb, o + 7, none⟩ (.int .i64 1)).setCell ⟨rb, o + 8, none⟩ (.int .i64 t)) w' from hsil ▸ nSilent_any pw nm t A n cap l ((w.setCell ⟨rb, o + 7, none⟩ (.int .i64 1)).setCell ⟨rb, o + 8, none⟩ (.int .i64 t)) hn (by
    have e : ((w.setCell ⟨rb, o + 7, none⟩ (.int .i64 1)).setCell ⟨rb, o + 8, none⟩ (.int .i64 t)).heap[pw]? = w.heap[pw]? := by rw [heap_setCell_other _ _ _ _ hG.ne, heap_setCell_other _ _ _ _ hG.ne]
    exact (World.cell?_of_block e).trans hG.sl) (sils_set (cur := cur) (T := 0) hG.sils hA))
  clear HX hG hA
  clear hsil
  go_enter Tryz.func41, Tryz.ntmps41
  go_wp2_with ((go_at_call 66; refine HS.out.mono ?_; rintro e w1 ⟨rfl, hw1⟩; have HX := block_below HR1.out hw1; have z0 : w1.cell? ⟨rb, o, none⟩ = some (.string nm) := (block_cell HX _).trans H6.x0; have z5 : w1.cell? ⟨rb, o + 5, none⟩ = some (.int .i64 hold) := (block_cell HX _).trans H6.x5; have z6 : w1.cell? ⟨rb, o + 6, none⟩ = some (.int .i64 rest) := (block_cell HX _).trans H6.x6; have z7 : w1.cell? ⟨rb, o + 7, none⟩ = some (.int .i64 1) := (block_cell HX _).trans H6.x7; have z8 : w1.cell? ⟨rb, o + 8, none⟩ = some (.int .i64 t) := (block_cell HX _).trans H6.x8; have zf7 : w1.frozen? ⟨rb, o + 7, none⟩ = false := block_free HX _; have zf8 : w1.frozen? ⟨rb, o + 8, none⟩ = false := block_free HX _; have HRS := hide HX; have HWS := hide hw1; clear hw1 HX))
  go_ret
  exact ⟨rfl, by have h := now2_block (o := o) HRS.out 2 t; rwa [now2_now2] at h, ((ButAt.set2 _ _ _ _ _).trans (ButAt.of_below HWS.out (by simp; omega))).trans (ButAt.set2 _ _ _ _ _)⟩
set_option maxRecDepth 100000 in
set_option maxHeartbeats 4000000 in
theorem go_t0b (pw rb o : Nat) (nm : ByteArray) (hold rest si t : Int) (A : Option Addr) (n cap : Nat) (l : List Sil) (cur : Array Value) (w : World) (hG : GoIn pw rb o nm hold rest 0 si A n cap l cur w) (hA : ∀ b k, A = some ⟨b, k, none⟩ → b ≠ rb) (hn : n ≤ maxLen)
    (ht0 : 0 ≤ t) (ht1 : t ≤ 3155759999) (hs0 : 0 ≤ si) (hs1 : si ≤ t) (hr : hold ≤ 0) (hsil : silB nm t l = true) :
    Calls Tryz.prog 41 #[.pointer (some ⟨pw, 0, none⟩), .pointer (some ⟨rb, o, none⟩), .bool true, .int .i64 t] w fun e w' => e = .returned (.int .i64 0) ∧ w'.heap[rb]? = some (.cells (now2 cur o 1 t) 88 (0, 0)) ∧ ButAt rb w w' := by
  have HX := hG.blk
  have H5 := hG.five
  have c0 : w.cell? ⟨rb, o, none⟩ = some (.string nm) := (block_cell HX _).trans H5.x0
  have c5 : w.cell? ⟨rb, o + 5, none⟩ = some (.int .i64 hold) := (block_cell HX _).trans H5.x5
  have c6 : w.cell? ⟨rb, o + 6, none⟩ = some (.int .i64 rest) := (block_cell HX _).trans H5.x6
  have c7 : w.cell? ⟨rb, o + 7, none⟩ = some (.int .i64 0) := (block_cell HX _).trans H5.x7
  have c8 : w.cell? ⟨rb, o + 8, none⟩ = some (.int .i64 si) := (block_cell HX _).trans H5.x8
  have cf7 : w.frozen? ⟨rb, o + 7, none⟩ = false := block_free HX _
  have cf8 : w.frozen? ⟨rb, o + 8, none⟩ = false := block_free HX _
  have hlt := lt_of_block HX
  have HR0 := hide HX
  have HX := now2_block (o := o) HR0.out 1 t
  have H6 := H5.now 1 t
  have d0 : ((w.setCell ⟨rb, o + 7, none⟩ (.int .i64 1)).setCell ⟨rb, o + 8, none⟩ (.int .i64 t)).cell? ⟨rb, o, none⟩ = some (.string nm) := (block_cell HX _).trans H6.x0
  have d5 : ((w.setCell ⟨rb, o + 7, none⟩ (.int .i64 1)).setCell ⟨rb, o + 8, none⟩ (.int .i64 t)).cell? ⟨rb, o + 5, none⟩ = some (.int .i64 hold) := (block_cell HX _).trans H6.x5
  have d6 : ((w.setCell ⟨rb, o + 7, none⟩ (.int .i64 1)).setCell ⟨rb, o + 8, none⟩ (.int .i64 t)).cell? ⟨rb, o + 6, none⟩ = some (.int .i64 rest) := (block_cell HX _).trans H6.x6
  have d7 : ((w.setCell ⟨rb, o + 7, none⟩ (.int .i64 1)).setCell ⟨rb, o + 8, none⟩ (.int .i64 t)).cell? ⟨rb, o + 7, none⟩ = some (.int .i64 1) := (block_cell HX _).trans H6.x7
  have d8 : ((w.setCell ⟨rb, o + 7, none⟩ (.int .i64 1)).setCell ⟨rb, o + 8, none⟩ (.int .i64 t)).cell? ⟨rb, o + 8, none⟩ = some (.int .i64 t) := (block_cell HX _).trans H6.x8
  have df7 : ((w.setCell ⟨rb, o + 7, none⟩ (.int .i64 1)).setCell ⟨rb, o + 8, none⟩ (.int .i64 t)).frozen? ⟨rb, o + 7, none⟩ = false := block_free HX _
  have df8 : ((w.setCell ⟨rb, o + 7, none⟩ (.int .i64 1)).setCell ⟨rb, o + 8, none⟩ (.int .i64 t)).frozen? ⟨rb, o + 8, none⟩ = false := block_free HX _
  have HR1 := hide HX
  have HS := hide (show Calls Tryz.prog 66 #[.pointer (some ⟨pw, 0, none⟩), .string nm, .int .i64 t] ((w.setCell ⟨rb, o + 7, none⟩ (.int .i64 1)).setCell ⟨rb, o + 8, none⟩ (.int .i64 t)) fun e w' => e = .returned (.bool true) ∧ Below ((w.setCell ⟨rb, o + 7, none⟩ (.int .i64 1)).setCell ⟨rb, o + 8, none⟩ (.int .i64 t)).heap.size ((w.setCell ⟨rb, o + 7, none⟩ (.int .i64 1)).setCell ⟨rb, o + 8, none⟩ (.int .i64 t)) w' from hsil ▸ nSilent_any pw nm t A n cap l ((w.setCell ⟨rb, o + 7, none⟩ (.int .i64 1)).setCell ⟨rb, o + 8, none⟩ (.int .i64 t)) hn (by
    have e : ((w.setCell ⟨rb, o + 7, none⟩ (.int .i64 1)).setCell ⟨rb, o + 8, none⟩ (.int .i64 t)).heap[pw]? = w.heap[pw]? := by rw [heap_setCell_other _ _ _ _ hG.ne, heap_setCell_other _ _ _ _ hG.ne]
    exact (World.cell?_of_block e).trans hG.sl) (sils_set (cur := cur) (T := 0) hG.sils hA))
  clear HX hG hA
  clear hsil
  go_enter Tryz.func41, Tryz.ntmps41
  go_wp2_with ((go_at_call 66; refine HS.out.mono ?_; rintro e w1 ⟨rfl, hw1⟩; have HX := block_below HR1.out hw1; have z0 : w1.cell? ⟨rb, o, none⟩ = some (.string nm) := (block_cell HX _).trans H6.x0; have z5 : w1.cell? ⟨rb, o + 5, none⟩ = some (.int .i64 hold) := (block_cell HX _).trans H6.x5; have z6 : w1.cell? ⟨rb, o + 6, none⟩ = some (.int .i64 rest) := (block_cell HX _).trans H6.x6; have z7 : w1.cell? ⟨rb, o + 7, none⟩ = some (.int .i64 1) := (block_cell HX _).trans H6.x7; have z8 : w1.cell? ⟨rb, o + 8, none⟩ = some (.int .i64 t) := (block_cell HX _).trans H6.x8; have zf7 : w1.frozen? ⟨rb, o + 7, none⟩ = false := block_free HX _; have zf8 : w1.frozen? ⟨rb, o + 8, none⟩ = false := block_free HX _; have HRS := hide HX; have HWS := hide hw1; clear hw1 HX))
  go_ret
  exact ⟨rfl, HRS.out, (ButAt.set2 _ _ _ _ _).trans (ButAt.of_below HWS.out (by simp; omega))⟩
set_option maxRecDepth 100000 in
set_option maxHeartbeats 4000000 in
theorem go_t0c (pw rb o : Nat) (nm : ByteArray) (hold rest si t : Int) (A : Option Addr) (n cap : Nat) (l : List Sil) (cur : Array Value) (w : World) (hG : GoIn pw rb o nm hold rest 0 si A n cap l cur w) (hA : ∀ b k, A = some ⟨b, k, none⟩ → b ≠ rb) (hn : n ≤ maxLen)
    (ht0 : 0 ≤ t) (ht1 : t ≤ 3155759999) (hs0 : 0 ≤ si) (hs1 : si ≤ t) (hr : decide (hold ≤ 0) = false) :
    Calls Tryz.prog 41 #[.pointer (some ⟨pw, 0, none⟩), .pointer (some ⟨rb, o, none⟩), .bool true, .int .i64 t] w fun e w' => e = .returned (.int .i64 0) ∧ w'.heap[rb]? = some (.cells (now2 cur o 1 t) 88 (0, 0)) ∧ ButAt rb w w' := by
  have HX := hG.blk
  have H5 := hG.five
  have c0 : w.cell? ⟨rb, o, none⟩ = some (.string nm) := (block_cell HX _).trans H5.x0
  have c5 : w.cell? ⟨rb, o + 5, none⟩ = some (.int .i64 hold) := (block_cell HX _).trans H5.x5
  have c6 : w.cell? ⟨rb, o + 6, none⟩ = some (.int .i64 rest) := (block_cell HX _).trans H5.x6
  have c7 : w.cell? ⟨rb, o + 7, none⟩ = some (.int .i64 0) := (block_cell HX _).trans H5.x7
  have c8 : w.cell? ⟨rb, o + 8, none⟩ = some (.int .i64 si) := (block_cell HX _).trans H5.x8
  have cf7 : w.frozen? ⟨rb, o + 7, none⟩ = false := block_free HX _
  have cf8 : w.frozen? ⟨rb, o + 8, none⟩ = false := block_free HX _
  have hlt := lt_of_block HX
  have HR0 := hide HX
  have HX := now2_block (o := o) HR0.out 1 t
  have H6 := H5.now 1 t
  have d0 : ((w.setCell ⟨rb, o + 7, none⟩ (.int .i64 1)).setCell ⟨rb, o + 8, none⟩ (.int .i64 t)).cell? ⟨rb, o, none⟩ = some (.string nm) := (block_cell HX _).trans H6.x0
  have d5 : ((w.setCell ⟨rb, o + 7, none⟩ (.int .i64 1)).setCell ⟨rb, o + 8, none⟩ (.int .i64 t)).cell? ⟨rb, o + 5, none⟩ = some (.int .i64 hold) := (block_cell HX _).trans H6.x5
  have d6 : ((w.setCell ⟨rb, o + 7, none⟩ (.int .i64 1)).setCell ⟨rb, o + 8, none⟩ (.int .i64 t)).cell? ⟨rb, o + 6, none⟩ = some (.int .i64 rest) := (block_cell HX _).trans H6.x6
  have d7 : ((w.setCell ⟨rb, o + 7, none⟩ (.int .i64 1)).setCell ⟨rb, o + 8, none⟩ (.int .i64 t)).cell? ⟨rb, o + 7, none⟩ = some (.int .i64 1) := (block_cell HX _).trans H6.x7
  have d8 : ((w.setCell ⟨rb, o + 7, none⟩ (.int .i64 1)).setCell ⟨rb, o + 8, none⟩ (.int .i64 t)).cell? ⟨rb, o + 8, none⟩ = some (.int .i64 t) := (block_cell HX _).trans H6.x8
  have df7 : ((w.setCell ⟨rb, o + 7, none⟩ (.int .i64 1)).setCell ⟨rb, o + 8, none⟩ (.int .i64 t)).frozen? ⟨rb, o + 7, none⟩ = false := block_free HX _
  have df8 : ((w.setCell ⟨rb, o + 7, none⟩ (.int .i64 1)).setCell ⟨rb, o + 8, none⟩ (.int .i64 t)).frozen? ⟨rb, o + 8, none⟩ = false := block_free HX _
  have HR1 := hide HX
  clear HX hG hA
  go_enter Tryz.func41, Tryz.ntmps41
  go_wp2_with (fail)
  go_ret
  exact ⟨rfl, HR1.out, ButAt.set2 _ _ _ _ _⟩
set_option maxRecDepth 100000 in
set_option maxHeartbeats 4000000 in
theorem go_t1a (pw rb o : Nat) (nm : ByteArray) (hold rest si t : Int) (A : Option Addr) (n cap : Nat) (l : List Sil) (cur : Array Value) (w : World) (hG : GoIn pw rb o nm hold rest 1 si A n cap l cur w) (hA : ∀ b k, A = some ⟨b, k, none⟩ → b ≠ rb) (hn : n ≤ maxLen)
    (ht0 : 0 ≤ t) (ht1 : t ≤ 3155759999) (hs0 : 0 ≤ si) (hs1 : si ≤ t) (hr : hold ≤ t - si) (hsil : silB nm t l = false) :
    Calls Tryz.prog 41 #[.pointer (some ⟨pw, 0, none⟩), .pointer (some ⟨rb, o, none⟩), .bool true, .int .i64 t] w fun e w' => e = .returned (.int .i64 1) ∧ w'.heap[rb]? = some (.cells (now2 cur o 2 t) 88 (0, 0)) ∧ ButAt rb w w' := by
  have HX := hG.blk
  have H5 := hG.five
  have c0 : w.cell? ⟨rb, o, none⟩ = some (.string nm) := (block_cell HX _).trans H5.x0
  have c5 : w.cell? ⟨rb, o + 5, none⟩ = some (.int .i64 hold) := (block_cell HX _).trans H5.x5
  have c6 : w.cell? ⟨rb, o + 6, none⟩ = some (.int .i64 rest) := (block_cell HX _).trans H5.x6
  have c7 : w.cell? ⟨rb, o + 7, none⟩ = some (.int .i64 1) := (block_cell HX _).trans H5.x7
  have c8 : w.cell? ⟨rb, o + 8, none⟩ = some (.int .i64 si) := (block_cell HX _).trans H5.x8
  have cf7 : w.frozen? ⟨rb, o + 7, none⟩ = false := block_free HX _
  have cf8 : w.frozen? ⟨rb, o + 8, none⟩ = false := block_free HX _
  have hlt := lt_of_block HX
  have HR0 := hide HX
  have HS := hide (hsil ▸ nSilent_any pw nm t A n cap l w hn hG.sl hG.sils)
  clear HX hG hA
  clear hsil
  go_enter Tryz.func41, Tryz.ntmps41
  go_wp2_with ((go_at_call 66; refine HS.out.mono ?_; rintro e w1 ⟨rfl, hw1⟩; have HX := block_below HR0.out hw1; have z0 : w1.cell? ⟨rb, o, none⟩ = some (.string nm) := (block_cell HX _).trans H5.x0; have z5 : w1.cell? ⟨rb, o + 5, none⟩ = some (.int .i64 hold) := (block_cell HX _).trans H5.x5; have z6 : w1.cell? ⟨rb, o + 6, none⟩ = some (.int .i64 rest) := (block_cell HX _).trans H5.x6; have z7 : w1.cell? ⟨rb, o + 7, none⟩ = some (.int .i64 1) := (block_cell HX _).trans H5.x7; have z8 : w1.cell? ⟨rb, o + 8, none⟩ = some (.int .i64 si) := (block_cell HX _).trans H5.x8; have zf7 : w1.frozen? ⟨rb, o + 7, none⟩ = false := block_free HX _; have zf8 : w1.frozen? ⟨rb, o + 8, none⟩ = false := block_free HX _; have HRS := hide HX; have HWS := hide hw1; clear hw1 HX))
  go_ret
  exact ⟨rfl, now2_block (o := o) HRS.out 2 t, (ButAt.of_below HWS.out (by omega)).trans (ButAt.set2 _ _ _ _ _)⟩
set_option maxRecDepth 100000 in
set_option maxHeartbeats 4000000 in
theorem go_t1b (pw rb o : Nat) (nm : ByteArray) (hold rest si t : Int) (A : Option Addr) (n cap : Nat) (l : List Sil) (cur : Array Value) (w : World) (hG : GoIn pw rb o nm hold rest 1 si A n cap l cur w) (hA : ∀ b k, A = some ⟨b, k, none⟩ → b ≠ rb) (hn : n ≤ maxLen)
    (ht0 : 0 ≤ t) (ht1 : t ≤ 3155759999) (hs0 : 0 ≤ si) (hs1 : si ≤ t) (hr : hold ≤ t - si) (hsil : silB nm t l = true) :
    Calls Tryz.prog 41 #[.pointer (some ⟨pw, 0, none⟩), .pointer (some ⟨rb, o, none⟩), .bool true, .int .i64 t] w fun e w' => e = .returned (.int .i64 0) ∧ w'.heap[rb]? = some (.cells (now2 cur o 1 si) 88 (0, 0)) ∧ ButAt rb w w' := by
  have HX := hG.blk
  have H5 := hG.five
  have c0 : w.cell? ⟨rb, o, none⟩ = some (.string nm) := (block_cell HX _).trans H5.x0
  have c5 : w.cell? ⟨rb, o + 5, none⟩ = some (.int .i64 hold) := (block_cell HX _).trans H5.x5
  have c6 : w.cell? ⟨rb, o + 6, none⟩ = some (.int .i64 rest) := (block_cell HX _).trans H5.x6
  have c7 : w.cell? ⟨rb, o + 7, none⟩ = some (.int .i64 1) := (block_cell HX _).trans H5.x7
  have c8 : w.cell? ⟨rb, o + 8, none⟩ = some (.int .i64 si) := (block_cell HX _).trans H5.x8
  have cf7 : w.frozen? ⟨rb, o + 7, none⟩ = false := block_free HX _
  have cf8 : w.frozen? ⟨rb, o + 8, none⟩ = false := block_free HX _
  have hlt := lt_of_block HX
  have HR0 := hide HX
  have HS := hide (hsil ▸ nSilent_any pw nm t A n cap l w hn hG.sl hG.sils)
  clear HX hG hA
  clear hsil
  go_enter Tryz.func41, Tryz.ntmps41
  go_wp2_with ((go_at_call 66; refine HS.out.mono ?_; rintro e w1 ⟨rfl, hw1⟩; have HX := block_below HR0.out hw1; have z0 : w1.cell? ⟨rb, o, none⟩ = some (.string nm) := (block_cell HX _).trans H5.x0; have z5 : w1.cell? ⟨rb, o + 5, none⟩ = some (.int .i64 hold) := (block_cell HX _).trans H5.x5; have z6 : w1.cell? ⟨rb, o + 6, none⟩ = some (.int .i64 rest) := (block_cell HX _).trans H5.x6; have z7 : w1.cell? ⟨rb, o + 7, none⟩ = some (.int .i64 1) := (block_cell HX _).trans H5.x7; have z8 : w1.cell? ⟨rb, o + 8, none⟩ = some (.int .i64 si) := (block_cell HX _).trans H5.x8; have zf7 : w1.frozen? ⟨rb, o + 7, none⟩ = false := block_free HX _; have zf8 : w1.frozen? ⟨rb, o + 8, none⟩ = false := block_free HX _; have HRS := hide HX; have HWS := hide hw1; clear hw1 HX))
  go_ret
  exact ⟨rfl, by rw [now2_same H5.x7 H5.x8]; exact HRS.out, ButAt.of_below HWS.out (by omega)⟩
set_option maxRecDepth 100000 in
set_option maxHeartbeats 4000000 in
theorem go_t1c (pw rb o : Nat) (nm : ByteArray) (hold rest si t : Int) (A : Option Addr) (n cap : Nat) (l : List Sil) (cur : Array Value) (w : World) (hG : GoIn pw rb o nm hold rest 1 si A n cap l cur w) (hA : ∀ b k, A = some ⟨b, k, none⟩ → b ≠ rb) (hn : n ≤ maxLen)
    (ht0 : 0 ≤ t) (ht1 : t ≤ 3155759999) (hs0 : 0 ≤ si) (hs1 : si ≤ t) (hr : decide (hold ≤ t - si) = false) :
    Calls Tryz.prog 41 #[.pointer (some ⟨pw, 0, none⟩), .pointer (some ⟨rb, o, none⟩), .bool true, .int .i64 t] w fun e w' => e = .returned (.int .i64 0) ∧ w'.heap[rb]? = some (.cells (now2 cur o 1 si) 88 (0, 0)) ∧ ButAt rb w w' := by
  have HX := hG.blk
  have H5 := hG.five
  have c0 : w.cell? ⟨rb, o, none⟩ = some (.string nm) := (block_cell HX _).trans H5.x0
  have c5 : w.cell? ⟨rb, o + 5, none⟩ = some (.int .i64 hold) := (block_cell HX _).trans H5.x5
  have c6 : w.cell? ⟨rb, o + 6, none⟩ = some (.int .i64 rest) := (block_cell HX _).trans H5.x6
  have c7 : w.cell? ⟨rb, o + 7, none⟩ = some (.int .i64 1) := (block_cell HX _).trans H5.x7
  have c8 : w.cell? ⟨rb, o + 8, none⟩ = some (.int .i64 si) := (block_cell HX _).trans H5.x8
  have cf7 : w.frozen? ⟨rb, o + 7, none⟩ = false := block_free HX _
  have cf8 : w.frozen? ⟨rb, o + 8, none⟩ = false := block_free HX _
  have hlt := lt_of_block HX
  have HR0 := hide HX
  clear HX hG hA
  go_enter Tryz.func41, Tryz.ntmps41
  go_wp2_with (fail)
  go_ret
  exact ⟨rfl, by rw [now2_same H5.x7 H5.x8]; exact HR0.out, ButAt.refl _ _⟩
/-- goOn: the next state is written, the kind of the notice is the answer. -/
theorem goOn_any (pw rb o : Nat) (nm : ByteArray) (hold rest st si t : Int) (h : Bool) (A : Option Addr) (n cap : Nat) (l : List Sil) (cur : Array Value) (w : World) (hG : GoIn pw rb o nm hold rest st si A n cap l cur w) (hA : ∀ b k, A = some ⟨b, k, none⟩ → b ≠ rb) (hn : n ≤ maxLen)
    (ht0 : 0 ≤ t) (ht1 : t ≤ 3155759999) (hs0 : 0 ≤ si) (hs1 : si ≤ t) (hst0 : 0 ≤ st) (hst3 : st ≤ 3) (R : Int × Int × Int) (hR : goS st si h t hold rest (silB nm t l) = R) :
    Calls Tryz.prog 41 #[.pointer (some ⟨pw, 0, none⟩), .pointer (some ⟨rb, o, none⟩), .bool h, .int .i64 t] w fun e w' => e = .returned (.int .i64 R.2.2) ∧ w'.heap[rb]? = some (.cells (now2 cur o R.1 R.2.1) 88 (0, 0)) ∧ ButAt rb w w' := by
  subst hR
  rcases (show st = 0 ∨ st = 1 ∨ st = 2 ∨ st = 3 by omega) with rfl | rfl | rfl | rfl
  · cases h
    · rw [show goS 0 si false t hold rest (silB nm t l) = (0, si, 0) by simp [goS]]
      exact go_f0 pw rb o nm hold rest si t A n cap l cur w hG hA hn ht0 ht1 hs0 hs1
    · by_cases hr : hold ≤ 0
      · cases hs : silB nm t l
        · rw [show goS 0 si true t hold rest false = (2, t, 1) by simp [goS, hr]]
          exact go_t0a pw rb o nm hold rest si t A n cap l cur w hG hA hn ht0 ht1 hs0 hs1 hr hs
        · rw [show goS 0 si true t hold rest true = (1, t, 0) by simp [goS]]
          exact go_t0b pw rb o nm hold rest si t A n cap l cur w hG hA hn ht0 ht1 hs0 hs1 hr hs
      · rw [show goS 0 si true t hold rest (silB nm t l) = (1, t, 0) by simp [goS, hr]]
        exact go_t0c pw rb o nm hold rest si t A n cap l cur w hG hA hn ht0 ht1 hs0 hs1 (by simpa using hr)
  · cases h
    · rw [show goS 1 si false t hold rest (silB nm t l) = (0, t, 0) by simp [goS]]
      exact go_f1 pw rb o nm hold rest si t A n cap l cur w hG hA hn ht0 ht1 hs0 hs1
    · by_cases hr : hold ≤ t - si
      · cases hs : silB nm t l
        · rw [show goS 1 si true t hold rest false = (2, t, 1) by simp [goS, hr]]
          exact go_t1a pw rb o nm hold rest si t A n cap l cur w hG hA hn ht0 ht1 hs0 hs1 hr hs
        · rw [show goS 1 si true t hold rest true = (1, si, 0) by simp [goS]]
          exact go_t1b pw rb o nm hold rest si t A n cap l cur w hG hA hn ht0 ht1 hs0 hs1 hr hs
      · rw [show goS 1 si true t hold rest (silB nm t l) = (1, si, 0) by simp [goS, hr]]
        exact go_t1c pw rb o nm hold rest si t A n cap l cur w hG hA hn ht0 ht1 hs0 hs1 (by simpa using hr)
  · cases h
    · by_cases hr : rest ≤ 0
      · rw [show goS 2 si false t hold rest (silB nm t l) = (0, t, 2) by simp [goS, hr]]
        exact go_f2a pw rb o nm hold rest si t A n cap l cur w hG hA hn ht0 ht1 hs0 hs1 hr
      · rw [show goS 2 si false t hold rest (silB nm t l) = (3, t, 0) by simp [goS, hr]]
        exact go_f2b pw rb o nm hold rest si t A n cap l cur w hG hA hn ht0 ht1 hs0 hs1 (by simpa using hr)
    · rw [show goS 2 si true t hold rest (silB nm t l) = (2, si, 0) by simp [goS]]
      exact go_t2 pw rb o nm hold rest si t A n cap l cur w hG hA hn ht0 ht1 hs0 hs1
  · cases h
    · by_cases hr : rest ≤ t - si
      · rw [show goS 3 si false t hold rest (silB nm t l) = (0, t, 2) by simp [goS, hr]]
        exact go_f3a pw rb o nm hold rest si t A n cap l cur w hG hA hn ht0 ht1 hs0 hs1 hr
      · rw [show goS 3 si false t hold rest (silB nm t l) = (3, si, 0) by simp [goS, hr]]
        exact go_f3b pw rb o nm hold rest si t A n cap l cur w hG hA hn ht0 ht1 hs0 hs1 (by simpa using hr)
    · rw [show goS 3 si true t hold rest (silB nm t l) = (2, t, 0) by simp [goS]]
      exact go_t3 pw rb o nm hold rest si t A n cap l cur w hG hA hn ht0 ht1 hs0 hs1
end Go.Proofs.YtkkhjlomicokgaaGreatDoor.al