/- strings.Builder: WriteByte. -/
import Derived.Test.YtomihkflhhhpjaaDoorStBld
namespace Go.Proofs.YtomihkflhhhpjaaDoor
open Go.RowKit
set_option linter.unusedVariables false
set_option maxRecDepth 100000 in
set_option maxHeartbeats 2000000 in
theorem WriteByte_any (B b : Nat) (l : List Value) (c : UInt8) (w : World) (h : Bld B b l w) (hlen : l.length + 1 ≤ 140737488355328) (hBw : B ≤ w.heap.size) :
    Calls Tryd.prog 28 #[.pointer (some ⟨b, 0, none⟩), .int .u8 c.toNat] w fun e w' => e = .returned .nilIface ∧ Bld B b (l ++ Lib.byteCells [c]) w' ∧ Below B w w' ∧ KeptBut b w w' := by
  obtain ⟨i0, hi, hz0, hz1, hz2⟩ := info_parts info_byte
  have HC := hide (copyCheck_any B b l w h)
  clear h
  go_enter Tryd.func28, Tryd.ntmps28
  go_wp2_with (go_at_call 46; refine HC.out.mono ?_)
  rintro e w1 ⟨rfl, h1, hb1, hkb⟩
  obtain ⟨hB, v, hbk, hown, hne⟩ := h1
  have HKB := hide hkb
  clear hkb
  have HOWN := hide hown
  have HBK := hide hbk
  have c1 : w1.cell? ⟨b, 1, none⟩ = some v := (block_cell hbk 1).trans rfl
  have hz := hb1.size
  have hbl := lt_of_block hbk
  have HA := hide (fun o : Obj => (Below.refl w1.heap.size w1).alloc (Nat.le_refl _) o)
  have HBK2 := hide (fun o => block_below HBK.out (HA.out o))
  clear hown hbk
  go_wp2_with (at_builtin; refine wpList_append_own _ rfl (.tmp 11) (.tmp 13) 59 rfl B 5 i0 (.int .u8 0) 1 1 Tryd.underlying59 hi hz0 hz1 hz2 rfl (by decide) _ l.length _ rfl (HOWN.out.alloc _) ⟨w1.heap.size, 0, none⟩ 1 1 [.int .u8 c.toNat] rfl rfl (cells_at _ [.int .u8 c.toNat] _ _ rfl) (by intro u hu; simp at hu; subst hu; rfl) (by unfold maxLen; omega) (by omega) (by simp; omega) ?_; intro v' w2 hown' hgrow _; obtain ⟨ao, cap', rfl⟩ := own_is_slice hown'; have hb2 : w2.heap[b]? = some (.cells #[.pointer (some ⟨b, 0, none⟩), v] 61 (0, 0)) := (hgrow.block b (lt_of_block (HBK2.out _)) (fun e => hne e.symm)).trans (HBK2.out _); have d1 : w2.cell? ⟨b, 1, none⟩ = some v := (block_cell hb2 1).trans rfl; have f1 : w2.frozen? ⟨b, 1, none⟩ = false := block_free hb2 1; have HB2 := hide hb2; have HOWN2 := hide hown'; have HG := hide hgrow; clear hb2 hown' hgrow c1)
  go_ret
  refine ⟨rfl, .inr (Lib.BuilderAt.put (T := 61) (e := 5) hB HB2.out (bs' := l ++ Lib.byteCells [c]) (by simpa [Lib.byteCells] using HOWN2.out) (by decide)), ?_, ?_⟩
  · exact ((hb1.trans ((HA.out _).mono (Nat.le_trans hBw hz))).grown HG.out (by simp; omega) (fun k hk => (HOWN.out.lt k hk).1)).setCell (p := ⟨b, 1, none⟩) hB _
  · refine HKB.out.trans ((KeptBut.of_below (HA.out (.cells #[.int .u8 c.toNat] 5))).trans (KeptBut.trans (w1 := w2) (fun k cs ty fr e h1 h2 => ?_) (KeptBut.set _ _ _ _)))
    exact (HG.out.block k (lt_of_block e) (own_other' (HOWN.out.alloc _) e (fun e2 => h1 e2.symm)).symm).trans e
end Go.Proofs.YtomihkflhhhpjaaDoor
