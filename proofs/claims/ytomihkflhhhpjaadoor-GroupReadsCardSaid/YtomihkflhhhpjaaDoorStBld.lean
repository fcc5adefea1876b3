/- strings.Builder at this dump: copyCheck and WriteString (the shelf's laying falls here: the panic behind copyCheck's test is refused by the loader). -/
import Derived.Test.YtomihkflhhhpjaaDoorShelf
import Derived.Test.YtomihkflhhhpjaaDoorBase
import Derived.Test.YtomihkflhhhpjaaDoorOwnMore
import Derived.Lib.Builder
import Derived.Lib.AppendStr
import Derived.Laws.Externs
namespace Go.Proofs.YtomihkflhhhpjaaDoor
open Go.RowKit
set_option linter.unusedVariables false
theorem size_bld : (Tryd.prog.info? 61).map (·.size) = some 2 := by kernel_rfl
theorem lies_bld : liesAt Tryd.prog Tryd.prog.depth 61 (2 / Tryd.prog.cellsOf 61) 0 61 1 = true := by kernel_rfl
theorem info_byte : (Tryd.prog.info? 5).map (fun i => (i.zero, i.size, i.bytes)) = some (some (.int .u8 0), 1, 1) := by kernel_rfl
theorem own_is_slice {w : World} {base sz n : Nat} {e : TypeId} {v : Value} {xs : List Value} (h : w.ownsRow base e sz v n xs) : ∃ a c, v = .slice a n c := by
  rcases h.2 with ⟨rfl, rfl⟩ | ⟨g, cap, cur, rfl, _⟩
  · exact ⟨_, _, rfl⟩
  · exact ⟨_, _, rfl⟩
/-- A builder of the call's own, in block b, that holds the bytes l. -/
abbrev Bld (B b : Nat) (l : List Value) (w : World) : Prop := Lib.IsBuilder 61 5 B b l w
theorem bld_below {B b : Nat} {l : List Value} {w w' : World} (h : Bld B b l w) (hB : Below w.heap.size w w') : Bld B b l w' := by
  rcases h with ⟨h1, v, h2, h3, h4⟩ | ⟨h1, v, h2, h3, h4⟩
  · exact .inl ⟨h1, v, block_below h2 hB, own_below h3 hB, h4⟩
  · exact .inr ⟨h1, v, block_below h2 hB, own_below h3 hB, h4⟩
/-- All blocks but b, and but rows of bytes, are as they were. -/
def KeptBut (b : Nat) (w w' : World) : Prop := ∀ k cs ty fr, w.heap[k]? = some (.cells cs ty fr) → ty ≠ 5 → k ≠ b → w'.heap[k]? = some (.cells cs ty fr)
theorem KeptBut.refl (b : Nat) (w : World) : KeptBut b w w := fun _ _ _ _ h _ _ => h
theorem KeptBut.trans {b : Nat} {w w1 w2 : World} (h : KeptBut b w w1) (h' : KeptBut b w1 w2) : KeptBut b w w2 := fun k cs ty fr e h1 h2 => h' k cs ty fr (h k cs ty fr e h1 h2) h1 h2
theorem KeptBut.of_below {b : Nat} {w w' : World} (h : Below w.heap.size w w') : KeptBut b w w' := fun k cs ty fr e _ _ => block_below e h
theorem KeptBut.set (b i : Nat) (w : World) (u : Value) : KeptBut b w (w.setCell ⟨b, i, none⟩ u) := fun k cs ty fr e _ h2 => block_set_other e _ _ h2
set_option maxRecDepth 100000 in
set_option maxHeartbeats 1000000 in
theorem copyCheck_used (b : Nat) (w : World) (h0 : w.cell? ⟨b, 0, none⟩ = some (.pointer (some ⟨b, 0, none⟩))) :
    Calls Tryd.prog 46 #[.pointer (some ⟨b, 0, none⟩)] w fun e w' => e = .returned (.tuple #[]) ∧ w' = w := by
  obtain ⟨j, hj, _⟩ := Option.map_eq_some_iff.1 size_bld
  go_enter Tryd.func46, Tryd.ntmps46
  go_wp2_with (fail)
  rw [Lib.run_neq_ptr_same w _ Tryd.underlying58 hj]
  go_wp2_with (fail)
  go_end0
  exact ⟨rfl, rfl⟩
set_option maxRecDepth 100000 in
set_option maxHeartbeats 1000000 in
theorem copyCheck_fresh (b : Nat) (w : World) (h0 : w.cell? ⟨b, 0, none⟩ = some (.pointer none)) (hsh : w.shape? b = some (61, 2)) (hfz : w.frozen? ⟨b, 0, none⟩ = false) :
    Calls Tryd.prog 46 #[.pointer (some ⟨b, 0, none⟩)] w fun e w' => e = .returned (.tuple #[]) ∧ w' = w.setCell ⟨b, 0, none⟩ (.pointer (some ⟨b, 0, none⟩)) := by
  obtain ⟨j, hj, hjs⟩ := Option.map_eq_some_iff.1 size_bld
  go_enter Tryd.func46, Tryd.ntmps46
  go_wp2_with (fail)
  rw [Lib.run_to_unsafe w ⟨b, 0, none⟩ Tryd.underlying58 Tryd.underlying103 hj (by rw [hjs]; decide) hsh (Nat.zero_lt_succ 1)]
  simp only [Result.andThen]
  rw [Oper.upon_value]
  go_wp2_with (fail)
  rw [run_callFunc_extern Tryd.func63 (by kernel_rfl) (by kernel_rfl) (by kernel_rfl) (e := Extern.AbiNoEscape.same) (by kernel_rfl)]
  rw [Lib.run_noEscape]
  simp only [Result.andThen]
  rw [Oper.upon_value]
  go_wp2_with (fail)
  rw [Lib.run_from_unsafe w ⟨b, 0, none⟩ Tryd.underlying103 Tryd.underlying58 hj hsh lies_bld]
  simp only [Result.andThen]
  rw [Oper.upon_value]
  go_wp2_with (fail)
  go_end0
  exact ⟨rfl, rfl⟩
theorem copyCheck_any (B b : Nat) (l : List Value) (w : World) (h : Bld B b l w) :
    Calls Tryd.prog 46 #[.pointer (some ⟨b, 0, none⟩)] w fun e w' => e = .returned (.tuple #[]) ∧ Lib.BuilderAt 61 5 B b (.pointer (some ⟨b, 0, none⟩)) l w' ∧ Below B w w' ∧ KeptBut b w w' := by
  rcases h with h | h
  · refine (copyCheck_fresh b w h.cell0 h.shape h.frozen0).mono ?_
    rintro e w' ⟨rfl, rfl⟩
    exact ⟨rfl, h.used _, (Below.refl B w).setCell (p := ⟨b, 0, none⟩) h.1 _, KeptBut.set _ _ _ _⟩
  · refine (copyCheck_used b w h.cell0).mono ?_
    rintro e w' ⟨rfl, rfl⟩
    exact ⟨rfl, h, Below.refl B _, KeptBut.refl _ _⟩
set_option maxRecDepth 100000 in
set_option maxHeartbeats 2000000 in
theorem WriteString_any (B b : Nat) (l : List Value) (s : ByteArray) (w : World) (h : Bld B b l w) (hlen : l.length + s.size ≤ 140737488355328) (hBw : B ≤ w.heap.size) :
    Calls Tryd.prog 25 #[.pointer (some ⟨b, 0, none⟩), .string s] w fun e w' => e = .returned (.tuple #[.int .i64 s.size, .nilIface]) ∧ Bld B b (l ++ Lib.strCells s) w' ∧ Below B w w' ∧ KeptBut b w w' := by
  obtain ⟨i0, hi, hz0, hz1, hz2⟩ := info_parts info_byte
  have HC := hide (copyCheck_any B b l w h)
  clear h
  go_enter Tryd.func25, Tryd.ntmps25
  go_wp2_with (go_at_call 46; refine HC.out.mono ?_)
  rintro e w1 ⟨rfl, h1, hb1, hkb⟩
  obtain ⟨hB, v, hbk, hown, hne⟩ := h1
  have HKB := hide hkb
  clear hkb
  have HOWN := hide hown
  have HBK := hide hbk
  have c1 : w1.cell? ⟨b, 1, none⟩ = some v := (block_cell hbk 1).trans rfl
  have hz := hb1.size
  clear hown
  go_wp2_with (at_builtin; refine Lib.wpList_append_own_string _ (by rfl) _ _ 59 9 (by rfl) B 5 i0 Tryd.underlying59 Tryd.underlying9 hi hz0 hz1 hz2 _ _ _ (by rfl) HOWN.out s (by rfl) (by unfold maxLen; omega) (by omega) (by omega) ?_; intro v' w2 hown' hgrow _; obtain ⟨ao, cap', rfl⟩ := own_is_slice hown'; have hb2 : w2.heap[b]? = some (.cells #[.pointer (some ⟨b, 0, none⟩), v] 61 (0, 0)) := (hgrow.block b (lt_of_block HBK.out) (fun e => hne e.symm)).trans HBK.out; have d1 : w2.cell? ⟨b, 1, none⟩ = some v := (block_cell hb2 1).trans rfl; have f1 : w2.frozen? ⟨b, 1, none⟩ = false := block_free hb2 1; have HB2 := hide hb2; have HOWN2 := hide hown'; have HG := hide hgrow; clear hb2 hown' hgrow c1)
  go_ret2
  refine ⟨rfl, .inr (Lib.BuilderAt.put (T := 61) (e := 5) hB HB2.out (bs' := l ++ Lib.strCells s) (by simpa [Lib.strCells_length] using HOWN2.out) (by decide)), ?_, ?_⟩
  · exact (hb1.grown HG.out (by omega) (fun k hk => (HOWN.out.lt k hk).1)).setCell (p := ⟨b, 1, none⟩) hB _
  · refine HKB.out.trans (KeptBut.trans (w1 := w2) (fun k cs ty fr e h1 h2 => ?_) (KeptBut.set _ _ _ _))
    exact (HG.out.block k (lt_of_block e) (own_other' HOWN.out e (fun e2 => h1 e2.symm)).symm).trans e
end Go.Proofs.YtomihkflhhhpjaaDoor
