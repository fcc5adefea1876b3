/- The builder that is a field of the mangler: copyCheck, WriteString, Len, String. -/
import Derived.Test.YtocpmbpckbjepaaDoorNmMgH
import Derived.Test.YtocpmbpckbjepaaDoorNmGA
import Derived.Lib.Builder
import Derived.RegionTactic
import Derived.BigQuiet
namespace Go.Proofs.YtocpmbpckbjepaaDoor
open Go.RowKit
set_option linter.unusedVariables false
set_option linter.unusedSimpArgs false
/-- All blocks but b, and but rows of bytes, are as they were. -/
def KeptM (b : Nat) (w w' : World) : Prop := ∀ k o, w.heap[k]? = some o → (∀ cs fr, o ≠ .cells cs 5 fr) → k ≠ b → w'.heap[k]? = some o
theorem KeptM.refl (b : Nat) (w : World) : KeptM b w w := fun _ _ h _ _ => h
theorem KeptM.trans {b : Nat} {w w1 w2 : World} (h : KeptM b w w1) (h' : KeptM b w1 w2) : KeptM b w w2 := fun k o e h1 h2 => h' k o (h k o e h1 h2) h1 h2
theorem KeptM.set (b i : Nat) (w : World) (u : Value) : KeptM b w (w.setCell ⟨b, i, none⟩ u) := fun k o e _ h2 => block_set_other e _ _ h2
theorem own_otherM {w : World} {base sz n k : Nat} {v : Value} {xs : List Value} {o : Obj} (h : w.ownsRow base 5 sz v n xs) (hk : w.heap[k]? = some o) (ho : ∀ cs fr, o ≠ .cells cs 5 fr) : v.ownBlock ≠ some k := by
  rcases h.2 with ⟨rfl, _⟩ | ⟨g, cap, cur, rfl, _, hg, _⟩
  · simp [Value.ownBlock]
  · intro e
    simp [Value.ownBlock] at e
    subst e
    rw [hk] at hg
    exact ho _ _ (Option.some.inj hg)
theorem lies_mg : liesAt Tryd.prog Tryd.prog.depth 55 (3 / Tryd.prog.cellsOf 55) 0 53 1 = true := by kernel_rfl
/-- The mangler in block b: its builder holds the bytes bs, its map is mv. -/
def MAt (B b : Nat) (p : Value) (bs : List Value) (mv : Value) (w : World) : Prop :=
  B ≤ b ∧ ∃ v, w.heap[b]? = some (.cells #[p, v, mv] 55 (0, 0)) ∧ w.ownsRow B 5 1 v bs.length bs
def MBld (B b : Nat) (bs : List Value) (mv : Value) (w : World) : Prop := MAt B b (.pointer none) bs mv w ∨ MAt B b (.pointer (some ⟨b, 0, none⟩)) bs mv w
theorem MBld.at_ {B b : Nat} {bs : List Value} {mv : Value} {w : World} (h : MBld B b bs mv w) : ∃ p, MAt B b p bs mv w := by
  rcases h with h | h
  · exact ⟨_, h⟩
  · exact ⟨_, h⟩
theorem MBld.lt {B b : Nat} {bs : List Value} {mv : Value} {w : World} (h : MBld B b bs mv w) : B ≤ b ∧ b < w.heap.size := by
  obtain ⟨p, hB, v, hb, _⟩ := h.at_
  exact ⟨hB, lt_of_block hb⟩
theorem mbld_below {B b : Nat} {l : List Value} {mv : Value} {w w' : World} (h : MBld B b l mv w) (hB : Below w.heap.size w w') : MBld B b l mv w' := by
  rcases h with ⟨h1, v, h2, h3⟩ | ⟨h1, v, h2, h3⟩
  · exact .inl ⟨h1, v, block_below h2 hB, own_below h3 hB⟩
  · exact .inr ⟨h1, v, block_below h2 hB, own_below h3 hB⟩
theorem MBld.map {B b : Nat} {bs : List Value} {mv : Value} {w : World} (h : MBld B b bs mv w) : w.cell? ⟨b, 2, none⟩ = some mv := by
  obtain ⟨p, hB, v, hb, _⟩ := h.at_
  exact block_cell hb 2
set_option maxRecDepth 100000 in
set_option maxHeartbeats 1000000 in
theorem mcopy_fresh (b : Nat) (w : World) (h0 : w.cell? ⟨b, 0, none⟩ = some (.pointer none)) (hsh : w.shape? b = some (55, 3)) (hfz : w.frozen? ⟨b, 0, none⟩ = false) :
    Calls Tryd.prog 41 #[.pointer (some ⟨b, 0, none⟩)] w fun e w' => e = .returned (.tuple #[]) ∧ w' = w.setCell ⟨b, 0, none⟩ (.pointer (some ⟨b, 0, none⟩)) := by
  obtain ⟨j, hj, hjs⟩ := Option.map_eq_some_iff.1 size_bld
  go_enter Tryd.func41, Tryd.ntmps41
  go_wp2_with (fail)
  rw [Lib.run_to_unsafe w ⟨b, 0, none⟩ Tryd.underlying50 Tryd.underlying117 hj (by rw [hjs]; decide) hsh (Nat.zero_lt_succ 2)]
  simp only [Result.andThen]
  rw [Oper.upon_value]
  go_wp2_with (fail)
  rw [run_callFunc_extern Tryd.func66 (by kernel_rfl) (by kernel_rfl) (by kernel_rfl) (e := Extern.AbiNoEscape.same) (by kernel_rfl)]
  rw [Lib.run_noEscape]
  simp only [Result.andThen]
  rw [Oper.upon_value]
  go_wp2_with (fail)
  rw [Lib.run_from_unsafe w ⟨b, 0, none⟩ Tryd.underlying117 Tryd.underlying50 hj hsh lies_mg]
  simp only [Result.andThen]
  rw [Oper.upon_value]
  go_wp2_with (fail)
  go_end0
  exact ⟨rfl, rfl⟩
theorem mcopy_any (B b : Nat) (l : List Value) (mv : Value) (w : World) (h : MBld B b l mv w) :
    Calls Tryd.prog 41 #[.pointer (some ⟨b, 0, none⟩)] w fun e w' => e = .returned (.tuple #[]) ∧ MAt B b (.pointer (some ⟨b, 0, none⟩)) l mv w' ∧ Below B w w' ∧ KeptM b w w' := by
  rcases h with ⟨hB, v, hb, ho⟩ | h
  · refine (mcopy_fresh b w (block_cell hb 0) (by simp [World.shape?, hb]) (block_free hb 0)).mono ?_
    rintro e w' ⟨rfl, rfl⟩
    exact ⟨rfl, ⟨hB, v, block_set hb (i := 0) _, ownsRow_setCell_other ho (a := ⟨b, 0, none⟩) (own_other' ho hb (by decide)) _⟩, (Below.refl B w).setCell (p := ⟨b, 0, none⟩) hB _, KeptM.set _ _ _ _⟩
  · obtain ⟨hB, v, hb, ho⟩ := h
    refine (copyCheck_used b w (block_cell hb 0)).mono ?_
    rintro e w' ⟨rfl, rfl⟩
    exact ⟨rfl, ⟨hB, v, hb, ho⟩, Below.refl B _, KeptM.refl _ _⟩
set_option maxRecDepth 100000 in
set_option maxHeartbeats 2000000 in
theorem MWrite_any (B b : Nat) (l : List Value) (mv : Value) (s : ByteArray) (w : World) (h : MBld B b l mv w) (hlen : l.length + s.size ≤ 140737488355328) (hBw : B ≤ w.heap.size) :
    Calls Tryd.prog 17 #[.pointer (some ⟨b, 0, none⟩), .string s] w fun e w' => e = .returned (.tuple #[.int .i64 s.size, .nilIface]) ∧ MBld B b (l ++ Lib.strCells s) mv w' ∧ Below B w w' ∧ KeptM b w w' := by
  obtain ⟨i0, hi, hz0, hz1, hz2⟩ := info_parts info_byte
  have HC := hide (mcopy_any B b l mv w h)
  clear h
  go_enter Tryd.func17, Tryd.ntmps17
  go_wp2_with (go_at_call 41; refine HC.out.mono ?_)
  rintro e w1 ⟨rfl, h1, hb1, hkb⟩
  obtain ⟨hB, v, hbk, hown⟩ := h1
  have hne := own_other' hown hbk (by decide)
  have HKB := hide hkb
  clear hkb
  have HOWN := hide hown
  have HBK := hide hbk
  have c1 : w1.cell? ⟨b, 1, none⟩ = some v := (block_cell hbk 1).trans rfl
  have hz := hb1.size
  clear hown
  go_wp2_with (at_builtin; refine Lib.wpList_append_own_string _ (by rfl) _ _ 51 9 (by rfl) B 5 i0 Tryd.underlying51 Tryd.underlying9 hi hz0 hz1 hz2 _ _ _ (by rfl) HOWN.out s (by rfl) (by unfold maxLen; omega) (by omega) (by omega) ?_; intro v' w2 hown' hgrow _; obtain ⟨ao, cap', rfl⟩ := own_is_slice hown'; have hb2 : w2.heap[b]? = some (.cells #[.pointer (some ⟨b, 0, none⟩), v, mv] 55 (0, 0)) := (hgrow.block b (lt_of_block HBK.out) (fun e => hne e.symm)).trans HBK.out; have d1 : w2.cell? ⟨b, 1, none⟩ = some v := (block_cell hb2 1).trans rfl; have f1 : w2.frozen? ⟨b, 1, none⟩ = false := block_free hb2 1; have HB2 := hide hb2; have HOWN2 := hide hown'; have HG := hide hgrow; clear hb2 hown' hgrow c1)
  go_ret2
  have hne2 := own_other' HOWN2.out HB2.out (by decide)
  refine ⟨rfl, .inr ⟨hB, _, block_set HB2.out (i := 1) _, ?_⟩, ?_, ?_⟩
  · have h3 := ownsRow_setCell_other HOWN2.out (a := ⟨b, 1, none⟩) hne2 (.slice ao (l.length + s.size) cap')
    simpa [Lib.strCells_length] using h3
  · exact (hb1.grown HG.out (by omega) (fun k hk => (HOWN.out.lt k hk).1)).setCell (p := ⟨b, 1, none⟩) hB _
  · refine HKB.out.trans (KeptM.trans (w1 := w2) (fun k o e h1 h2 => ?_) (KeptM.set _ _ _ _))
    exact (HG.out.block k (lt_of_block e) (own_otherM HOWN.out e h1).symm).trans e
theorem mwrite_bytes (B b : Nat) (L : List UInt8) (mv : Value) (s : ByteArray) (w : World) (h : MBld B b (Lib.byteCells L) mv w) (hB : B ≤ w.heap.size) (hl : L.length + s.size ≤ 140737488355328) :
    Calls Tryd.prog 17 #[.pointer (some ⟨b, 0, none⟩), .string s] w fun e w' => e = .returned (.tuple #[.int .i64 s.size, .nilIface]) ∧ MBld B b (Lib.byteCells (L ++ s.data.toList)) mv w' ∧ Below B w w' ∧ KeptM b w w' := by
  have := MWrite_any B b (Lib.byteCells L) mv s w h (by rw [bytes_len2]; exact hl) hB
  rw [strCells_eq, bytes_app2] at this
  exact this
theorem MLen_any (B b : Nat) (L : List UInt8) (mv : Value) (w : World) (h : MBld B b (Lib.byteCells L) mv w) :
    Calls Tryd.prog 20 #[.pointer (some ⟨b, 0, none⟩)] w fun e w' => e = .returned (.int .i64 (L.length : Nat)) ∧ w' = w := by
  obtain ⟨p, hB, v, hb, ho⟩ := h.at_
  rw [bytes_len2] at ho
  obtain ⟨ao, cap', rfl⟩ := own_is_slice ho
  have c1 : w.cell? ⟨b, 1, none⟩ = some (.slice ao L.length cap') := block_cell hb 1
  clear ho
  go_enter Tryd.func20, Tryd.ntmps20
  go_wp2_with (fail)
  go_ret
  exact ⟨rfl, rfl⟩
theorem cells_byte : Tryd.prog.cellsOf 5 = 1 := by kernel_rfl
set_option maxRecDepth 100000 in
set_option maxHeartbeats 4000000 in
theorem MString_any (B b : Nat) (L : List UInt8) (mv : Value) (w : World) (h : MBld B b (Lib.byteCells L) mv w) (h0 : L ≠ []) :
    Calls Tryd.prog 21 #[.pointer (some ⟨b, 0, none⟩)] w fun e w' => e = .returned (.string ⟨L.toArray⟩) ∧ Below B w w' := by
  obtain ⟨p, hB, v, hb, hown⟩ := h.at_
  have hl0 : L.length ≠ 0 := by simpa using h0
  rw [bytes_len2] at hown
  obtain ⟨g, cap, cur, rfl, hbg, hg, hnc, hcm, hcs, htk⟩ := own_blk hown (by omega)
  have c1 : w.drew.cell? ⟨b, 1, none⟩ = some (.slice (some ⟨g, 0, none⟩) L.length cap) := block_cell (show w.drew.heap[b]? = _ from hb) 1
  have hSD : (Builtin.unsafeSliceData_ #[51] 94 #[.slice (some ⟨g, 0, none⟩) L.length cap]).run Tryd.prog w.drew = .ok (.pointer (some ⟨g, 0, none⟩)) w.drew :=
    Lib.run_unsafeSliceData_row _ _ _ _ _ _ (by omega)
  have hUS : (Builtin.unsafeString_ #[94, 3] 9 #[.pointer (some ⟨g, 0, none⟩), .int .i64 L.length]).run Tryd.prog w.drew = .ok (.string ⟨L.toArray⟩) (w.drew.freeze ⟨g, 0, none⟩ L.length) := by
    refine Lib.run_unsafeString_row w.drew 94 3 9 5 Tryd.underlying94 cells_byte g cur.size (by have hg' : w.drew.heap[g]? = some (.cells cur 5 (0, 0)) := hg; simp [World.shape?, hg']) L h0 (by omega) (by unfold maxLen at hcm; omega) ?_
    intro j x hx
    have hc := own_cell hown j (.int .u8 x.toNat) (by simp [Lib.byteCells, hx])
    by_cases hj : j = 0
    · subst hj; simpa [Addr.add] using hc
    · simpa [Addr.add, hj] using hc
  clear hown hg hcs htk
  go_enter Tryd.func21, Tryd.ntmps21
  go_wp2_with (fail)
  go_region
  all_goals (go_wp2; go_ret; exact ⟨rfl, Lib.below_freeze (Below.drew (Below.refl B w)) (p := ⟨g, 0, none⟩) hbg _⟩)
end Go.Proofs.YtocpmbpckbjepaaDoor
