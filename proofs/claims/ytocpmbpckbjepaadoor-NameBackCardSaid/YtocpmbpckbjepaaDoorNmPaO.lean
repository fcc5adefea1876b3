/- Walks of the parsers' one (printed by gen_po.py). -/
import Derived.Test.YtocpmbpckbjepaaDoorNmPaP
import Derived.Deep.RegionLaw
import Derived.Deep.AppendLies
import Derived.Deep.DrawnRows
namespace Go.Proofs.YtocpmbpckbjepaaDoor
open Go.RowKit
set_option linter.unusedVariables false
set_option linter.unusedSimpArgs false
theorem str_no {x : ByteArray} {b : Array UInt8} (h : x ≠ ⟨b⟩) : ¬ x.toList = b.toList ∧ (x.toList == b.toList) = false := by
  have h1 : ¬ x.toList = b.toList := by
    rw [ByteArray.toList_eq]
    intro e
    apply h
    obtain ⟨⟨l⟩⟩ := x
    obtain ⟨m⟩ := b
    simp at e
    rw [e]
  exact ⟨h1, by simpa using h1⟩
theorem stay_set3 (w : World) (b : Nat) (x y z : Value) : StayS (fun k => b < k) w (((w.setCell ⟨b, 0, none⟩ x).setCell ⟨b, 1, none⟩ y).setCell ⟨b, 2, none⟩ z) :=
  ⟨by simp, fun k o hk ho => block_set_other (block_set_other (block_set_other ho _ _ (by simp; omega)) _ _ (by simp; omega)) _ _ (by simp; omega)⟩
theorem plain_new {f : Nat} {w w1 w2 wf : World} {A : Option Addr} {n q : Nat} {l : List Part} (h : PartsNew f w1 w2 A n q l) (hst : StayS (fun k => w.heap.size < k) w2 wf) (hl : w.heap.size < w1.heap.size) :
    TyR (f + 1) wf (fun b => w.heap.size ≤ b) (Ty.mk 1 l []) [.int .i64 1, .slice A n q, .slice none 0 0] := by
  have hs2 : StayS (fun b => w1.heap.size ≤ b) w2 wf := ⟨hst.1, fun b o hb => hst.2 b o (by omega)⟩
  have hS : ∀ b, w1.heap.size ≤ b → b < w2.heap.size → w.heap.size ≤ b := fun b h _ => by omega
  exact ⟨A, n, q, none, 0, 0, rfl, h.1, h.2.1, Nat.le_refl _, Nat.zero_le _, h.2.2.stay hs2 hS (fun a _ cs h => h.stay hs2 hS (fun a cs h => TyS.stay hs2 hS h)), SlS.nil _ _ _ _ _⟩
theorem ref_new {f : Nat} {w w2 w3 wf : World} {K k : Int} {A A' : Option Addr} {n q n' q' : Nat} {t : Ty} {T : TypeId} (h : TyR f w3 (fun b => w2.heap.size ≤ b) t [.int .i64 k, .slice A n q, .slice A' n' q'])
    (hst : StayS (fun k => w.heap.size < k) (w3.alloc (.cells #[.int .i64 k, .slice A n q, .slice A' n' q'] T)) wf) (hl : w.heap.size < w2.heap.size) (hz : w2.heap.size ≤ w3.heap.size) :
    TyR (f + 1) wf (fun b => w.heap.size ≤ b) (Ty.mk K [] [t]) [.int .i64 K, .slice none 0 0, .slice (some ⟨w3.heap.size, 0, none⟩) 1 1] := by
  have hs2 : StayS (fun b => w2.heap.size ≤ b) w3 wf := ⟨by have := hst.1; simp at this; omega, fun b o hb ho => hst.2 b o (by omega) (block_below ho ((Below.refl _ _).alloc (Nat.le_refl _) _))⟩
  have hb := hst.2 w3.heap.size _ (by omega) (heap_alloc_new w3 (.cells #[.int .i64 k, .slice A n q, .slice A' n' q'] T))
  refine ⟨none, 0, 0, some ⟨w3.heap.size, 0, none⟩, 1, 1, rfl, Nat.le_refl _, Nat.zero_le _, Nat.le_refl _, by unfold maxLen; omega, SlS.nil _ _ _ _ _, rfl, fun _ => ⟨w3.heap.size, 0, rfl, by omega, lt_of_block hb, fun j a ha => ?_⟩⟩
  have hj : j = 0 := by
    rcases Nat.eq_zero_or_pos j with e | e
    · exact e
    · rw [Ty.of, List.getElem?_eq_none (by simp; omega)] at ha; cases ha
  subst hj
  simp [Ty.of] at ha
  subst ha
  refine ⟨_, TyS.stay hs2 (fun b h _ => by omega) h, fun j v hv => ?_⟩
  rw [block_cell hb]
  simpa using hv
theorem need_bad2 {s : ByteArray} {a b : UInt8} {k e : Nat} (h : needB s [a] k = .bad e) : needB s [a, b] k = .bad e := by
  unfold needB at h ⊢
  split at h
  · rename_i h1; cases h
  · rename_i h1; rw [if_neg h1]; exact h
theorem need_ok2 {s : ByteArray} {a b : UInt8} {k z : Nat} {u : Unit} (h : needB s [a] k = .ok z u) : needB s [a, b] k = needB s [b] z := by
  unfold needB at h
  split at h
  · rename_i h1
    rw [needB, if_pos h1]
    cases h; rfl
  · cases h
theorem OwnAny.lt {w : World} {base sz n : Nat} {e : TypeId} {v : Value} (h : OwnAny w base e sz v n) : ∀ k, v.ownBlock = some k → base ≤ k ∧ k < w.heap.size := h.choose_spec.lt
theorem func_new {f : Nat} {w w2 w3 w8 wf : World} {A : Option Addr} {n q : Nat} {l : List Ty} (h : OwnT w8 w3.heap.size 75 3 (TyR f) (.slice A n q) n l) (hst : StayS (fun k => w.heap.size < k) w8 wf) (hl : w.heap.size < w2.heap.size) (hl3 : w2.heap.size ≤ w3.heap.size) :
    TyR (f + 1) wf (fun b => w.heap.size ≤ b) (Ty.mk 4 [] l) [.int .i64 4, .slice none 0 0, .slice A n q] := by
  obtain ⟨A9, q9, h9, h91, h92, h93⟩ := h.done (stay_ty f)
  simp only [Value.slice.injEq, true_and] at h9
  obtain ⟨rfl, rfl⟩ := h9
  have hs2 : StayS (fun b => w3.heap.size ≤ b) w8 wf := ⟨hst.1, fun b o hb => hst.2 b o (by omega)⟩
  have hS : ∀ b, w3.heap.size ≤ b → b < w8.heap.size → w.heap.size ≤ b := fun b h _ => by omega
  exact ⟨none, 0, 0, A, n, q, rfl, Nat.le_refl _, Nat.zero_le _, h91, h92, SlS.nil _ _ _ _ _, h93.stay hs2 hS (fun a _ cs h => TyS.stay hs2 hS h)⟩
section
variable {s : ByteArray} {f i e : Nat}
theorem pOne_no (h : idL s i = 0) : pOne s f i = .bad i := by cases f with
  | zero => rfl
  | succ f => rw [pOne, if_pos h]
theorem pOne_ref (h : idL s i ≠ 0) (hx : s.extract i (i + idL s i) = refS) : pOne s (f + 1) i = pRef s (pOne s f) 2 (i + idL s i) := by rw [pOne, if_neg h, if_pos hx]
theorem pOne_list (h : idL s i ≠ 0) (h1 : s.extract i (i + idL s i) ≠ refS) (hx : s.extract i (i + idL s i) = listS) : pOne s (f + 1) i = pRef s (pOne s f) 3 (i + idL s i) := by rw [pOne, if_neg h, if_neg h1, if_pos hx]
theorem pOne_func (h : idL s i ≠ 0) (h1 : s.extract i (i + idL s i) ≠ refS) (h2 : s.extract i (i + idL s i) ≠ listS) (hx : s.extract i (i + idL s i) = funcS) : pOne s (f + 1) i = pFunc s (pOne s f) (i + idL s i) := by rw [pOne, if_neg h, if_neg h1, if_neg h2, if_pos hx]
theorem pOne_plain (h : idL s i ≠ 0) (h1 : s.extract i (i + idL s i) ≠ refS) (h2 : s.extract i (i + idL s i) ≠ listS) (h3 : s.extract i (i + idL s i) ≠ funcS) :
    pOne s (f + 1) i = (pParts s (pOne s f) (s.size + 1) [] (s.extract i (i + idL s i)) (i + idL s i)).bind fun j l => .ok j (Ty.mk 1 l []) := by rw [pOne, if_neg h, if_neg h1, if_neg h2, if_neg h3]
end
set_option maxRecDepth 100000 in
set_option maxHeartbeats 8000000 in
theorem nOne_off (c : Nat) (s : ByteArray) (i : Nat) (wq d : Int) (w : World) (h0 : 0 ≤ wq) (hs : s.size ≤ 8000) (hi : i ≤ s.size) (h : w.heap[c]? = some (.cells #[.string s, .int .i64 i, .int .i64 wq] 86 (0, 0))) :
    Calls Tryd.prog 65 #[.pointer (some ⟨c, 0, none⟩), .int .i64 d] w fun e w' => e = .returned (.agg #[.int .i64 0, .slice none 0 0, .slice none 0 0]) ∧ Pb c 86 s i wq w w' := by
  have HSA := hide ((Pb.start h).alloc (.cells #[.int .i64 0, .slice none 0 0, .slice none 0 0] 75))
  have HBX := hide (heap_alloc_new w (.cells #[.int .i64 0, .slice none 0 0, .slice none 0 0] 75))
  have hcw := lt_of_block h
  have hlw : w.heap.size < (w.alloc (.cells #[.int .i64 0, .slice none 0 0, .slice none 0 0] 75)).heap.size := by simp
  have HID := hide (fun W h => nIdent_off c s i wq W h0 hs hi h)
  have c1 := HSA.out.c1
  have hoff : decide (wq < 0) = false := by simp; omega
  clear h
  go_enter Tryd.func65, Tryd.ntmps65
  go_wp2_with ((go_at_call 36; refine (HID.out _ HSA.out.box).mono ?_; rintro r w1 ⟨rfl, hq1⟩; have HQ1 := hide (HSA.out.trans hq1); have HB1 := hide (hq1.bu.keep _ _ HBX.out (by omega)); have c1 := HQ1.out.c1; have c2 := HQ1.out.c2; have hz1 := HQ1.out.size; have hl1 : w.heap.size < w1.heap.size := lt_of_block HB1.out; have z0 : w1.cell? ⟨w.heap.size, 0, none⟩ = some (.int .i64 0) := (block_cell HB1.out 0).trans rfl; have zf0 : w1.frozen? ⟨w.heap.size, 0, none⟩ = false := block_free HB1.out 0; have z1 : w1.cell? ⟨w.heap.size, 1, none⟩ = some (.slice none 0 0) := (block_cell HB1.out 1).trans rfl; have zf1 : w1.frozen? ⟨w.heap.size, 1, none⟩ = false := block_free HB1.out 1; have z2 : w1.cell? ⟨w.heap.size, 2, none⟩ = some (.slice none 0 0) := (block_cell HB1.out 2).trans rfl; have zf2 : w1.frozen? ⟨w.heap.size, 2, none⟩ = false := block_free HB1.out 2; clear hq1))
  have hb3 := block_set (block_set (block_set HB1.out (i := 0) (.int .i64 0)) (i := 1) (.slice none 0 0)) (i := 2) (.slice none 0 0)
  have hqz := ((HQ1.out.other (b := w.heap.size) (j := 0) (Nat.le_refl _) hcw (.int .i64 0)).other (b := w.heap.size) (j := 1) (Nat.le_refl _) hcw (.slice none 0 0)).other (b := w.heap.size) (j := 2) (Nat.le_refl _) hcw (.slice none 0 0)
  have hst := stay_set3 w1 w.heap.size (.int .i64 0) (.slice none 0 0) (.slice none 0 0)
  generalize (((w1.setCell ⟨w.heap.size, 0, none⟩ (.int .i64 0)).setCell ⟨w.heap.size, 1, none⟩ (.slice none 0 0)).setCell ⟨w.heap.size, 2, none⟩ (.slice none 0 0)) = wf at hb3 hqz hst ⊢
  have r0 : wf.cell? ⟨w.heap.size, 0, none⟩ = some (.int .i64 0) := (block_cell hb3 0).trans rfl
  have r1 : wf.cell? ⟨w.heap.size, 1, none⟩ = some (.slice none 0 0) := (block_cell hb3 1).trans rfl
  have r2 : wf.cell? ⟨w.heap.size, 2, none⟩ = some (.slice none 0 0) := (block_cell hb3 2).trans rfl
  refine bodyPost_ret (by simp [results, Tryd.results65, go_sem, r0, r1, r2]; try rfl) rfl ?_
  exact ⟨rfl, hqz⟩
set_option maxRecDepth 100000 in
set_option maxHeartbeats 8000000 in
theorem nOne_noP {f : Nat} (c : Nat) (s : ByteArray) (i : Nat) (d : Int) (w : World) (hs : s.size ≤ 8000) (hi : i ≤ s.size) (hid : idL s i = 0) (h : w.heap[c]? = some (.cells #[.string s, .int .i64 i, .int .i64 (-1)] 86 (0, 0))) :
  Calls Tryd.prog 65 #[.pointer (some ⟨c, 0, none⟩), .int .i64 d] w fun e w' => ∃ (k : Int) (A : Option Addr) (n q : Nat) (A' : Option Addr) (n' q' : Nat), e = .returned (.agg #[.int .i64 k, .slice A n q, .slice A' n' q']) ∧
    After c 86 s w (pOne s f i) w' ∧ ∀ j t, pOne s f i = .ok j t → TyR (f) w' (fun b => w.heap.size ≤ b) t [.int .i64 k, .slice A n q, .slice A' n' q'] := by
  have HSA := hide ((Pb.start h).alloc (.cells #[.int .i64 0, .slice none 0 0, .slice none 0 0] 75))
  have HBX := hide (heap_alloc_new w (.cells #[.int .i64 0, .slice none 0 0, .slice none 0 0] 75))
  have hcw := lt_of_block h
  have hlw : w.heap.size < (w.alloc (.cells #[.int .i64 0, .slice none 0 0, .slice none 0 0] 75)).heap.size := by simp
  have HID := hide (show ∀ W, W.heap[c]? = some (.cells #[.string s, .int .i64 i, .int .i64 (-1)] 86 (0, 0)) → Calls Tryd.prog 36 #[.pointer (some ⟨c, 0, none⟩)] W fun e w' => e = .returned (.string ⟨#[]⟩) ∧ Pb c 86 s i (i : Nat) W w' from fun W h => by have h1 := nIdent_onP c s i W hs hi h; rw [idWr, if_pos hid, hid, Nat.add_zero, ext_nil] at h1; exact h1)
  have HE := hide (pOne_no (f := f) hid)
  have c1 : (w.alloc (.cells #[.int .i64 0, .slice none 0 0, .slice none 0 0] 75)).cell? ⟨c, 1, none⟩ = some (.int .i64 i) := HSA.out.c1
  have hoff : decide (((i : Nat) : Int) < 0) = false := by simp
  clear h hid
  go_enter Tryd.func65, Tryd.ntmps65
  go_wp2_with ((go_at_call 36; refine (HID.out _ HSA.out.box).mono ?_; rintro r w1 ⟨rfl, hq1⟩; have HQ1 := hide (HSA.out.trans hq1); have HB1 := hide (hq1.bu.keep _ _ HBX.out (by omega)); have c1 := HQ1.out.c1; have c2 := HQ1.out.c2; have hz1 := HQ1.out.size; have hl1 : w.heap.size < w1.heap.size := lt_of_block HB1.out; have z0 : w1.cell? ⟨w.heap.size, 0, none⟩ = some (.int .i64 0) := (block_cell HB1.out 0).trans rfl; have zf0 : w1.frozen? ⟨w.heap.size, 0, none⟩ = false := block_free HB1.out 0; have z1 : w1.cell? ⟨w.heap.size, 1, none⟩ = some (.slice none 0 0) := (block_cell HB1.out 1).trans rfl; have zf1 : w1.frozen? ⟨w.heap.size, 1, none⟩ = false := block_free HB1.out 1; have z2 : w1.cell? ⟨w.heap.size, 2, none⟩ = some (.slice none 0 0) := (block_cell HB1.out 2).trans rfl; have zf2 : w1.frozen? ⟨w.heap.size, 2, none⟩ = false := block_free HB1.out 2; clear hq1))
  have hb3 := block_set (block_set (block_set HB1.out (i := 0) (.int .i64 0)) (i := 1) (.slice none 0 0)) (i := 2) (.slice none 0 0)
  have hqz := ((HQ1.out.other (b := w.heap.size) (j := 0) (Nat.le_refl _) hcw (.int .i64 0)).other (b := w.heap.size) (j := 1) (Nat.le_refl _) hcw (.slice none 0 0)).other (b := w.heap.size) (j := 2) (Nat.le_refl _) hcw (.slice none 0 0)
  have hst := stay_set3 w1 w.heap.size (.int .i64 0) (.slice none 0 0) (.slice none 0 0)
  generalize (((w1.setCell ⟨w.heap.size, 0, none⟩ (.int .i64 0)).setCell ⟨w.heap.size, 1, none⟩ (.slice none 0 0)).setCell ⟨w.heap.size, 2, none⟩ (.slice none 0 0)) = wf at hb3 hqz hst ⊢
  have r0 : wf.cell? ⟨w.heap.size, 0, none⟩ = some (.int .i64 0) := (block_cell hb3 0).trans rfl
  have r1 : wf.cell? ⟨w.heap.size, 1, none⟩ = some (.slice none 0 0) := (block_cell hb3 1).trans rfl
  have r2 : wf.cell? ⟨w.heap.size, 2, none⟩ = some (.slice none 0 0) := (block_cell hb3 2).trans rfl
  refine bodyPost_ret (by simp [results, Tryd.results65, go_sem, r0, r1, r2]; try rfl) rfl ?_
  exact ⟨_, _, _, _, _, _, _, rfl, After.of_bad HE.out hi hqz, fun j t h => by rw [HE.out] at h; cases h⟩
end Go.Proofs.YtocpmbpckbjepaaDoor
