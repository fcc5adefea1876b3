/- The law NameChecks. -/
import Derived.Test.YthlhiegbiapllaaNmBares
import Derived.Test.YthlhiegbiapllaaNmOpen
import Derived.Test.YthlhiegbiapllaaFam
import Derived.Deep.RegionWith
namespace Go.Proofs.Ythlhiegbiapllaa
open Go.RowKit
set_option linter.unusedVariables false
/-- What stays: all below w0's end, and the listed blocks. -/
structure Keeps (w0 : World) (L : List (Nat × Obj)) (w : World) : Prop where
  be : Below w0.heap.size w0 w
  bl : ∀ p ∈ L, w.heap[p.1]? = some p.2
theorem Keeps.below {w0 w w' : World} {L : List (Nat × Obj)} (h : Keeps w0 L w) (hb : Below w.heap.size w w') : Keeps w0 L w' := ⟨h.be.trans (hb.mono h.be.size), fun p hp => block_below (h.bl p hp) hb⟩
theorem Keeps.drew {w0 w : World} {L : List (Nat × Obj)} (h : Keeps w0 L w) : Keeps w0 L w.drew := h.below (Below.refl _ _).drew
theorem Keeps.cons {w0 w : World} {L : List (Nat × Obj)} {b : Nat} {o : Obj} (h : Keeps w0 L w) (hb : w.heap[b]? = some o) : Keeps w0 ((b, o) :: L) w := ⟨h.be, fun p hp => by
  rcases List.mem_cons.1 hp with rfl | hp
  · exact hb
  · exact h.bl p hp⟩
theorem Keeps.alloc {w0 w : World} {L : List (Nat × Obj)} (h : Keeps w0 L w) (o : Obj) : Keeps w0 L (w.alloc o) := h.below ((Below.refl _ _).alloc (Nat.le_refl _) o)
theorem Keeps.head {w0 w : World} {L : List (Nat × Obj)} {b : Nat} {o : Obj} (h : Keeps w0 ((b, o) :: L) w) : w.heap[b]? = some o := h.bl (b, o) (List.mem_cons_self ..)
theorem Keeps.tail {w0 w : World} {L : List (Nat × Obj)} {p : Nat × Obj} (h : Keeps w0 (p :: L) w) : Keeps w0 L w := ⟨h.be, fun q hq => h.bl q (List.mem_cons_of_mem _ hq)⟩
theorem kfam {w0 w : World} {L : List (Nat × Obj)} (h : Keeps w0 L w) : ∃ (I : Type) (F : I → World), (∃ i, w.drew = F i) ∧ (∀ i, Keeps w0 L (F i)) ∧ ∀ i w', Below (F i).heap.size (F i) w' → ∃ j, w' = F j :=
  ⟨{ w' : World // Keeps w0 L w' }, Subtype.val, ⟨⟨w.drew, h.drew⟩, rfl⟩, fun i => i.2, fun i w' hw => ⟨⟨w', i.2.below hw⟩, rfl⟩⟩
theorem sym_above {w w' : World} {k : Nat} {s : Sym} {cs : List Value} (h : SymIn w k s cs) {L : List (Nat × Obj)} (hK : Keeps w L w') : SymIn w' k s cs := h.up hK.be
set_option maxRecDepth 100000 in
set_option maxHeartbeats 8000000 in
theorem NameChecks_bad (k : Nat) (a b : Sym) (ca cb : List Value) (w : World) (ha : SymIn w k a ca) (hb : SymIn w k b cb) (h0 : (symE a).1 ≠ 0) :
    Calls Try.prog 3 #[.agg ca.toArray, .agg cb.toArray] w fun e w' => e = .returned (.bool true) ∧ Below w.heap.size w w' := by
  have HTY := hide (fun W h => Types_any k a ca W h)
  have HBA := hide (fun W h => Bare_bad k a ca W h h0)
  have HSE := hide (fun W h => SymbolError_any k a ca W h)
  have HCK := hide (fun W h => Check_any k a ca W h)
  have HS1 := hide (fun W h h' => Same_any k a b ca cb W h h')
  have HS2 := hide (fun W h h' => SameSymbol_any k a b ca cb W h h')
  have HS3 := hide (fun W h => same_yes (rfl : a = a) ▸ Same_any k a a ca ca W h h)
  have HS4 := hide (fun W => same_yes (rfl : noSym = noSym) ▸ SameSymbol_any k noSym noSym _ _ W (noSym_in W k) (noSym_in W k))
  have HA := hide ha
  have HBS := hide hb
  obtain ⟨SB, hSB⟩ : ∃ SB, same a b = SB := ⟨_, rfl⟩
  rw [hSB] at HS1 HS2
  have hN : symN a = 0 := by rw [symN, if_pos h0]
  rw [hN] at HTY
  obtain ⟨E, hE⟩ : ∃ E, (symE a).1 = E := ⟨_, rfl⟩
  rw [hE] at HTY HBA HSE HCK h0
  obtain ⟨A, n, c, A2, n2, c2, rfl, hla⟩ := ha
  obtain ⟨B, m, q, B2, m2, q2, rfl, hlb⟩ := hb
  have h0' : (E == 0) = false := by simpa using h0
  have hk0 : Keeps w [(w.heap.size + 1, .cells #[.slice B m q, .slice B2 m2 q2] 25 (0, 0)), (w.heap.size, .cells #[.slice A n c, .slice A2 n2 c2] 25 (0, 0))] ((w.alloc (.cells #[.slice A n c, .slice A2 n2 c2] 25)).alloc (.cells #[.slice B m q, .slice B2 m2 q2] 25)) := by
    have h1 := heap_alloc_new (w.alloc (.cells #[.slice A n c, .slice A2 n2 c2] 25)) (.cells #[.slice B m q, .slice B2 m2 q2] 25)
    simp only [World.size_alloc] at h1
    exact Keeps.cons (Keeps.alloc (Keeps.cons ⟨(Below.refl _ _).alloc (Nat.le_refl _) _, by simp⟩ (heap_alloc_new w (.cells #[.slice A n c, .slice A2 n2 c2] 25))) _) h1
  have HK0 := hide hk0
  clear hSB hN hE hla hlb hk0
  go_enter Try.func3, Try.ntmps3
  go_wp2_with (first
    | (go_at_call 6; refine (HTY.out _ (sym_above HA.out HK0.out)).mono ?_; rintro r w1 ⟨rfl, hw1⟩; have hK := HK0.out.below hw1; have HK1 := hide hK; have x0 : w1.cell? ⟨w.heap.size, 0, none⟩ = some (.slice A n c) := (block_cell hK.tail.head 0).trans rfl; have x1 : w1.cell? ⟨w.heap.size, 1, none⟩ = some (.slice A2 n2 c2) := (block_cell hK.tail.head 1).trans rfl; have y0 : w1.cell? ⟨w.heap.size + 1, 0, none⟩ = some (.slice B m q) := (block_cell hK.head 0).trans rfl; have y1 : w1.cell? ⟨w.heap.size + 1, 1, none⟩ = some (.slice B2 m2 q2) := (block_cell hK.head 1).trans rfl; clear hK hw1)
    | (go_at_call 7; refine (HBA.out _ (sym_above HA.out HK1.out)).mono ?_; rintro r w2 ⟨rfl, hw2⟩; have hK := HK1.out.below hw2; have HK2 := hide hK; have x0 : w2.cell? ⟨w.heap.size, 0, none⟩ = some (.slice A n c) := (block_cell hK.tail.head 0).trans rfl; have x1 : w2.cell? ⟨w.heap.size, 1, none⟩ = some (.slice A2 n2 c2) := (block_cell hK.tail.head 1).trans rfl; have y0 : w2.cell? ⟨w.heap.size + 1, 0, none⟩ = some (.slice B m q) := (block_cell hK.head 0).trans rfl; have y1 : w2.cell? ⟨w.heap.size + 1, 1, none⟩ = some (.slice B2 m2 q2) := (block_cell hK.head 1).trans rfl; clear hK hw2)
    | (go_at_call 8; refine (HSE.out _ (sym_above HA.out (HK2.out.alloc _))).mono ?_; rintro r w3 ⟨rfl, hw3⟩; have hK3 := (((HK2.out.alloc _).tail.cons (HK2.out.alloc _).head).below hw3); have hb7 := block_below (heap_alloc_new w2 (.cells #[.slice none 0 0, .slice none 0 0] 25)) hw3; have HK3 := hide ((((HK2.out.alloc _).below hw3)).cons hb7); clear hw3 hK3 hb7))
  obtain ⟨I1, F1, hi1, hKF, hJ1⟩ := kfam HK3.out
  have HKF := hide hKF
  have hJ1 := hide hJ1
  have x0 : ∀ i, (F1 i).cell? ⟨w.heap.size, 0, none⟩ = some (.slice A n c) := fun i => (block_cell (HKF.out i).tail.tail.head 0).trans rfl; have x1 : ∀ i, (F1 i).cell? ⟨w.heap.size, 1, none⟩ = some (.slice A2 n2 c2) := fun i => (block_cell (HKF.out i).tail.tail.head 1).trans rfl; have y0 : ∀ i, (F1 i).cell? ⟨w.heap.size + 1, 0, none⟩ = some (.slice B m q) := fun i => (block_cell (HKF.out i).tail.head 0).trans rfl; have y1 : ∀ i, (F1 i).cell? ⟨w.heap.size + 1, 1, none⟩ = some (.slice B2 m2 q2) := fun i => (block_cell (HKF.out i).tail.head 1).trans rfl
  have z0 : ∀ i, (F1 i).cell? ⟨w2.heap.size, 0, none⟩ = some (.slice none 0 0) := fun i => (block_cell (HKF.out i).head 0).trans rfl
  have z1 : ∀ i, (F1 i).cell? ⟨w2.heap.size, 1, none⟩ = some (.slice none 0 0) := fun i => (block_cell (HKF.out i).head 1).trans rfl
  haveI : Nonempty I1 := ⟨hi1.choose⟩
  clear hKF
  refine wp_region_fam F1 hi1 (by kernel_rfl) (by kernel_rfl) ?_
  (repeat (go_big_quiet_step (first
    | (go_at_call 9; refine (HCK.out _ (sym_above HA.out (HKF.out _))).mono ?_; rintro e w' ⟨rfl, hw'⟩; exact ⟨rfl, hJ1.out _ _ hw'⟩)
    | (go_at_call 10; ((with_reducible refine (HS1.out _ (sym_above HA.out (HKF.out _)) (sym_above HBS.out (HKF.out _))).mono ?_); rintro e w' ⟨rfl, hw'⟩; exact ⟨rfl, hJ1.out _ _ hw'⟩))
    | (go_at_call 10; ((with_reducible refine (HS3.out _ (sym_above HA.out (HKF.out _))).mono ?_); rintro e w' ⟨rfl, hw'⟩; exact ⟨rfl, hJ1.out _ _ hw'⟩))
    | (go_at_call 11; refine (HS2.out _ (sym_above HA.out (HKF.out _)) (sym_above HBS.out (HKF.out _))).mono ?_; rintro e w' ⟨rfl, hw'⟩; exact ⟨rfl, hJ1.out _ _ hw'⟩))))
  refine wpQuiet_nil ?_
  rintro _ ⟨i1, rfl⟩
  go_wp2_with (go_at_call 11; refine (HS4.out _).mono ?_; rintro r w4 ⟨rfl, hw4⟩; have hB4 := (HKF.out i1).be.trans (hw4.mono (HKF.out i1).be.size))
  go_ret
  exact ⟨rfl, hB4⟩
set_option maxRecDepth 100000 in
set_option maxHeartbeats 16000000 in
theorem NameChecks_ok (k : Nat) (a b : Sym) (ca cb : List Value) (w : World) (ha : SymIn w k a ca) (hb : SymIn w k b cb) (h0 : (symE a).1 = 0) :
    Calls Try.prog 3 #[.agg ca.toArray, .agg cb.toArray] w fun e w' => e = .returned (.bool true) ∧ Below w.heap.size w w' := by
  have HTY := hide (fun W h => h0 ▸ Types_any k a ca W h)
  have HBA := hide (fun W h => Bare_ok k a ca W h h0)
  have HSE := hide (fun W h => h0 ▸ SymbolError_any k a ca W h)
  have HCK := hide (fun W h => h0 ▸ Check_any k a ca W h)
  have HTO := hide (fun W h => TypesOf_ok k a ca W h h0)
  have HBD := hide (fun W h => Bared_any k a ca W h (symE_len h0) (symE_pos h0))
  have HS1 := hide (fun W h h' => Same_any k a b ca cb W h h')
  have HS2 := hide (fun W h h' => SameSymbol_any k a b ca cb W h h')
  have HS3 := hide (fun W h => same_yes (rfl : a = a) ▸ Same_any k a a ca ca W h h)
  have HS4 := hide (fun (A9 : Option Addr) (n9 c9 : Nat) (A8 : Option Addr) (n8 c8 : Nat) W h h' => same_yes (rfl : bareS a = bareS a) ▸ SameSymbol_any k (bareS a) (bareS a) [.slice A9 n9 c9, .slice none 0 0] [.slice A8 n8 c8, .slice none 0 0] W h h')
  have HSY := hide (fun (W : World) (B n9 c9 : Nat) (A9 : Option Addr) (h : W.ownsRow B 55 2 (.slice A9 n9 c9) n9 (a.name.flatMap bcs)) (hn : a.name.length = n9) => bare_sym (k := k) h hn (by have := symE_pos h0; omega) (sym_sizes ha))
  have HA := hide ha
  have HBS := hide hb
  obtain ⟨SB, hSB⟩ : ∃ SB, same a b = SB := ⟨_, rfl⟩
  rw [hSB] at HS1 HS2
  obtain ⟨M, hM⟩ : ∃ M, symN a = M := ⟨_, rfl⟩
  rw [hM] at HTY HTO
  obtain ⟨A, n, c, A2, n2, c2, rfl, hla⟩ := ha
  obtain ⟨B, m, q, B2, m2, q2, rfl, hlb⟩ := hb
  have hk0 : Keeps w [(w.heap.size + 1, .cells #[.slice B m q, .slice B2 m2 q2] 25 (0, 0)), (w.heap.size, .cells #[.slice A n c, .slice A2 n2 c2] 25 (0, 0))] ((w.alloc (.cells #[.slice A n c, .slice A2 n2 c2] 25)).alloc (.cells #[.slice B m q, .slice B2 m2 q2] 25)) := by
    have h1 := heap_alloc_new (w.alloc (.cells #[.slice A n c, .slice A2 n2 c2] 25)) (.cells #[.slice B m q, .slice B2 m2 q2] 25)
    simp only [World.size_alloc] at h1
    exact Keeps.cons (Keeps.alloc (Keeps.cons ⟨(Below.refl _ _).alloc (Nat.le_refl _) _, by simp⟩ (heap_alloc_new w (.cells #[.slice A n c, .slice A2 n2 c2] 25))) _) h1
  have HK0 := hide hk0
  clear hSB hM hla hlb hk0 h0
  go_enter Try.func3, Try.ntmps3
  go_wp2_with (first
    | (go_at_call 6; refine (HTY.out _ (sym_above HA.out HK0.out)).mono ?_; rintro r w1 ⟨rfl, hw1⟩; have hK := HK0.out.below hw1; have HK1 := hide hK; have x0 : w1.cell? ⟨w.heap.size, 0, none⟩ = some (.slice A n c) := (block_cell hK.tail.head 0).trans rfl; have x1 : w1.cell? ⟨w.heap.size, 1, none⟩ = some (.slice A2 n2 c2) := (block_cell hK.tail.head 1).trans rfl; have y0 : w1.cell? ⟨w.heap.size + 1, 0, none⟩ = some (.slice B m q) := (block_cell hK.head 0).trans rfl; have y1 : w1.cell? ⟨w.heap.size + 1, 1, none⟩ = some (.slice B2 m2 q2) := (block_cell hK.head 1).trans rfl; clear hK hw1)
    | (go_at_call 7; refine (HBA.out _ (sym_above HA.out HK1.out)).mono ?_; rintro r w2 ⟨⟨A9, n9, c9, rfl, hs9⟩, hw2⟩; have hK := HK1.out.below hw2; have HK2 := hide hK; have HS9 := hide hs9; have x0 : w2.cell? ⟨w.heap.size, 0, none⟩ = some (.slice A n c) := (block_cell hK.tail.head 0).trans rfl; have x1 : w2.cell? ⟨w.heap.size, 1, none⟩ = some (.slice A2 n2 c2) := (block_cell hK.tail.head 1).trans rfl; have y0 : w2.cell? ⟨w.heap.size + 1, 0, none⟩ = some (.slice B m q) := (block_cell hK.head 0).trans rfl; have y1 : w2.cell? ⟨w.heap.size + 1, 1, none⟩ = some (.slice B2 m2 q2) := (block_cell hK.head 1).trans rfl; clear hK hw2 hs9)
    | (go_at_call 8; refine (HSE.out _ (sym_above HA.out (HK2.out.alloc _))).mono ?_; rintro r w3 ⟨rfl, hw3⟩; have hb7 := block_below (heap_alloc_new w2 (.cells #[.slice A9 n9 c9, .slice none 0 0] 25)) hw3; have HK3 := hide ((((HK2.out.alloc _).below hw3)).cons hb7); have HS93 := hide ((HS9.out.up ((Below.refl _ _).alloc (Nat.le_refl _) _)).up hw3); clear hw3 hb7))
  obtain ⟨I1, F1, hi1, hKF3, hJ1⟩ := kfam (w0 := w3) ⟨Below.refl _ _, HK3.out.bl⟩
  have hs9F : ∀ i, Below w3.heap.size w3 (F1 i) := fun i => (hKF3 i).be
  have hKF : ∀ i, Keeps w _ (F1 i) := fun i => ⟨HK3.out.be.trans ((hKF3 i).be.mono HK3.out.be.size), (hKF3 i).bl⟩
  have HKF := hide hKF
  have hJ1 := hide hJ1
  have x0 : ∀ i, (F1 i).cell? ⟨w.heap.size, 0, none⟩ = some (.slice A n c) := fun i => (block_cell (HKF.out i).tail.tail.head 0).trans rfl; have x1 : ∀ i, (F1 i).cell? ⟨w.heap.size, 1, none⟩ = some (.slice A2 n2 c2) := fun i => (block_cell (HKF.out i).tail.tail.head 1).trans rfl; have y0 : ∀ i, (F1 i).cell? ⟨w.heap.size + 1, 0, none⟩ = some (.slice B m q) := fun i => (block_cell (HKF.out i).tail.head 0).trans rfl; have y1 : ∀ i, (F1 i).cell? ⟨w.heap.size + 1, 1, none⟩ = some (.slice B2 m2 q2) := fun i => (block_cell (HKF.out i).tail.head 1).trans rfl
  have z0 : ∀ i, (F1 i).cell? ⟨w2.heap.size, 0, none⟩ = some (.slice A9 n9 c9) := fun i => (block_cell (HKF.out i).head 0).trans rfl
  have z1 : ∀ i, (F1 i).cell? ⟨w2.heap.size, 1, none⟩ = some (.slice none 0 0) := fun i => (block_cell (HKF.out i).head 1).trans rfl
  haveI : Nonempty I1 := ⟨hi1.choose⟩
  clear hKF
  refine wp_region_fam F1 hi1 (by kernel_rfl) (by kernel_rfl) ?_
  (repeat (go_big_quiet_step (first
    | (go_at_call 9; refine (HCK.out _ (sym_above HA.out (HKF.out _))).mono ?_; rintro e w' ⟨rfl, hw'⟩; exact ⟨rfl, hJ1.out _ _ hw'⟩)
    | (go_at_call 10; ((with_reducible refine (HS1.out _ (sym_above HA.out (HKF.out _)) (sym_above HBS.out (HKF.out _))).mono ?_); rintro e w' ⟨rfl, hw'⟩; exact ⟨rfl, hJ1.out _ _ hw'⟩))
    | (go_at_call 10; ((with_reducible refine (HS3.out _ (sym_above HA.out (HKF.out _))).mono ?_); rintro e w' ⟨rfl, hw'⟩; exact ⟨rfl, hJ1.out _ _ hw'⟩))
    | (go_at_call 11; refine (HS2.out _ (sym_above HA.out (HKF.out _)) (sym_above HBS.out (HKF.out _))).mono ?_; rintro e w' ⟨rfl, hw'⟩; exact ⟨rfl, hJ1.out _ _ hw'⟩))))
  refine wpQuiet_nil ?_
  rintro _ ⟨i1, rfl⟩
  have HKW := hide (HKF.out i1)
  have HSW := hide (HS93.out.up (hs9F i1))
  clear x0 x1 y0 y1 z0 z1
  obtain ⟨wx, hwx⟩ : ∃ wx, F1 i1 = wx := ⟨_, rfl⟩
  rw [hwx] at HKW HSW ⊢
  clear hwx hs9F
  go_wp2_with (fail)
  have hK := HKW.out
  have hS := HSW.out
  have x0 : wx.cell? ⟨w.heap.size, 0, none⟩ = some (.slice A n c) := (block_cell hK.tail.tail.head 0).trans rfl; have x1 : wx.cell? ⟨w.heap.size, 1, none⟩ = some (.slice A2 n2 c2) := (block_cell hK.tail.tail.head 1).trans rfl; have z0 : wx.cell? ⟨w2.heap.size, 0, none⟩ = some (.slice A9 n9 c9) := (block_cell hK.head 0).trans rfl; have z1 : wx.cell? ⟨w2.heap.size, 1, none⟩ = some (.slice none 0 0) := (block_cell hK.head 1).trans rfl
  go_region_with (first
    | (go_at_call 12; refine (HTO.out _ (sym_above HA.out (by first | exact hK | exact hK.drew))).mono ?_; rintro r w' ⟨rfl, hw'⟩; have hS := (by first | exact hS.up hw' | exact (hS.up (Below.refl _ _).drew).up hw' : SymIn w' k (bareS a) [.slice A9 n9 c9, .slice none 0 0]); have hK := (by first | exact hK.below hw' | exact hK.drew.below hw' : Keeps w _ w'); have x0 : w'.cell? ⟨w.heap.size, 0, none⟩ = some (.slice A n c) := (block_cell hK.tail.tail.head 0).trans rfl; have x1 : w'.cell? ⟨w.heap.size, 1, none⟩ = some (.slice A2 n2 c2) := (block_cell hK.tail.tail.head 1).trans rfl; have z0 : w'.cell? ⟨w2.heap.size, 0, none⟩ = some (.slice A9 n9 c9) := (block_cell hK.head 0).trans rfl; have z1 : w'.cell? ⟨w2.heap.size, 1, none⟩ = some (.slice none 0 0) := (block_cell hK.head 1).trans rfl)
    | (go_at_call 13; refine (HBD.out _ (sym_above HA.out (by first | exact hK | exact hK.drew))).mono ?_; rintro r w' ⟨⟨A8, n8, c8, rfl, hln8, ho8⟩, hw'⟩; have hS8 := HSY.out _ _ _ _ _ ho8 hln8; have hS := (by first | exact hS.up hw' | exact (hS.up (Below.refl _ _).drew).up hw' : SymIn w' k (bareS a) [.slice A9 n9 c9, .slice none 0 0]); have hK := (by first | exact hK.below hw' | exact hK.drew.below hw' : Keeps w _ w'); have x0 : w'.cell? ⟨w.heap.size, 0, none⟩ = some (.slice A n c) := (block_cell hK.tail.tail.head 0).trans rfl; have x1 : w'.cell? ⟨w.heap.size, 1, none⟩ = some (.slice A2 n2 c2) := (block_cell hK.tail.tail.head 1).trans rfl; have z0 : w'.cell? ⟨w2.heap.size, 0, none⟩ = some (.slice A9 n9 c9) := (block_cell hK.head 0).trans rfl; have z1 : w'.cell? ⟨w2.heap.size, 1, none⟩ = some (.slice none 0 0) := (block_cell hK.head 1).trans rfl)
    | (go_at_call 11; refine (HS4.out _ _ _ _ _ _ _ hS hS8).mono ?_; rintro r w' ⟨rfl, hw'⟩; have hK := (by first | exact hK.below hw' | exact hK.drew.below hw' : Keeps w _ w')))
  all_goals
    go_wp2_with (fail)
    go_ret
    exact ⟨rfl, hK.be⟩
namespace nameChecks
set_option maxRecDepth 100000 in
theorem walk {H : Type} {enc : TypeId × Value → H} {d0 d1 : DataW H} {p0 p1 : List MemPlace} {base : Nat} {W : World}
    (v0 : Value) (k0 : DataW.Trod enc Try.prog W 0 (fun _ => true) true 25 v0 d0 p0) (ok0 : Value.okWide Try.prog W .any base 25 v0)
    (v1 : Value) (k1 : DataW.Trod enc Try.prog W 0 (fun _ => true) true 25 v1 d1 p1) (ok1 : Value.okWide Try.prog W .any base 25 v1) :
    Calls Try.prog 3 #[v0, v1] W fun e w' => e = .returned (.bool true) ∧ Below W.heap.size W w' := by
  obtain ⟨ka, a, ca, rfl, ha⟩ := open_sym ok0 k0
  obtain ⟨kb, b, cb, rfl, hb⟩ := open_sym ok1 k1
  have ha' := ha.deep (Nat.le_max_left ka kb)
  have hb' := hb.deep (Nat.le_max_right ka kb)
  by_cases h0 : (symE a).1 = 0
  · exact NameChecks_ok _ a b ca cb W ha' hb' h0
  · exact NameChecks_bad _ a b ca cb W ha' hb' h0
end nameChecks
end Go.Proofs.Ythlhiegbiapllaa
