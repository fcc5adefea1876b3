/- Walk of the reference's NewWatch (printed by gen_ac.py). -/
import Derived.Test.YtmakkdadhhpapaaDoorAlCnt
import Derived.Deep.RegionLaw
import Derived.Deep.AppendLies
import Derived.Deep.DrawnRows
namespace Go.Proofs.YtmakkdadhhpapaaDoor
open Go.RowKit
set_option linter.unusedVariables false
set_option linter.unusedSimpArgs false
/-- The status of a rule at the start. -/
def stt0 (t : Int) (x : Rl) : Stt := ⟨x.name, 0, t, 0⟩
theorem info_statusR : (Tryd.prog.info? 46).map (fun i => (i.zero, i.size, i.bytes)) = some (some (.agg #[.string ByteArray.empty, .int .i64 0, .int .i64 0, .int .i64 0]), 4, 40) := by kernel_rfl
set_option maxRecDepth 100000 in
set_option maxHeartbeats 8000000 in
theorem rNewWatch_any (n cap : Nat) (A : Option Addr) (l : List Rl) (t : Int) (w : World) (hn : n ≤ 1000) (hl : Sl w w.heap.size Rl.cs 7 A n l) :
    Calls Tryd.prog 7 #[.slice A n cap, .int .i64 t] w fun e w' => ∃ v, e = .returned (.pointer (some ⟨w.heap.size, 0, none⟩)) ∧ w'.heap[w.heap.size]? = some (.cells #[.slice A n cap, .int .i64 t, .slice none 0 0, .slice none 0 0, .slice none 0 0, v] 69 (0, 0)) ∧
      w'.ownsRow (w.heap.size + 1) 46 4 v n ((l.map (stt0 t)).flatMap Stt.cs) ∧ Below w.heap.size w w' := by
  obtain ⟨i0, hi0, iz0, iz1, iz2⟩ := info_parts info_statusR
  have HL := hide hl.len
  have HSL := hide hl
  clear hl
  go_enter Tryd.func7, Tryd.ntmps7
  go_wp2_with (fail)
  go_loopw [14] (fun i wr => ∃ (j : Nat) (sv : Value), j ≤ n ∧ i = .int .i64 j ∧ wr.heap[w.heap.size]? = some (.cells #[.slice A n cap, .int .i64 t, .slice none 0 0, .slice none 0 0, .slice none 0 0, sv] 69 (0, 0)) ∧ wr.ownsRow (w.heap.size + 1) 46 4 sv j (((l.take j).map (stt0 t)).flatMap Stt.cs) ∧ Below w.heap.size w wr) (fun i _ => n - (intOf i).toNat)
  case atStart => exact ⟨0, _, Nat.zero_le _, rfl, by first | exact Array.getElem?_push_size | (simp only [World.alloc]; exact Array.getElem?_push_size) | (rw [World.heap_alloc]; exact Array.getElem?_push_size), World.ownsRow_nil _ _ _ _, (Below.refl _ _).alloc (Nat.le_refl _) _⟩
  case round =>
    obtain ⟨j, sv, hj, rfl, hbox, hown, hB⟩ := hrel
    have hz := hB.size
    have hbz := lt_of_block hbox
    by_cases hlt : j < n
    · obtain ⟨bb, oo, x, rfl, hbb, hx, hc⟩ := (HSL.out.below hB).at_ hlt
      obtain ⟨ao, cp, rfl⟩ := own_sl hown
      have c0 : wr.cell? ⟨bb, oo + j * 7, none⟩ = some (.string x.name) := by simpa using hc 0 _ rfl
      have c1 : wr.cell? ⟨bb, oo + j * 7 + 1, none⟩ = some (.string x.key) := by simpa using hc 1 _ rfl
      have c2 : wr.cell? ⟨bb, oo + j * 7 + 2, none⟩ = some (.int .i64 x.ask) := by simpa using hc 2 _ rfl
      have c3 : wr.cell? ⟨bb, oo + j * 7 + 3, none⟩ = some (.int .i64 x.limit) := by simpa using hc 3 _ rfl
      have c4 : wr.cell? ⟨bb, oo + j * 7 + 4, none⟩ = some (.int .i64 x.window) := by simpa using hc 4 _ rfl
      have c5 : wr.cell? ⟨bb, oo + j * 7 + 5, none⟩ = some (.int .i64 x.hold) := by simpa using hc 5 _ rfl
      have c6 : wr.cell? ⟨bb, oo + j * 7 + 6, none⟩ = some (.int .i64 x.rest) := by simpa using hc 6 _ rfl
      have e5 : wr.cell? ⟨w.heap.size, 5, none⟩ = some (.slice ao j cp) := block_cell hbox 5
      have HOW := hide hown
      have HOD := hide ((hown.alloc (.cells #[.string x.name, .string x.key, .int .i64 x.ask, .int .i64 x.limit, .int .i64 x.window, .int .i64 x.hold, .int .i64 x.rest] 55)).drew.alloc (.cells #[.string x.name, .int .i64 0, .int .i64 t, .int .i64 0] 46))
      have HXD := hide (block_below hbox (((Below.refl _ _).alloc (Nat.le_refl _) (.cells #[.string x.name, .string x.key, .int .i64 x.ask, .int .i64 x.limit, .int .i64 x.window, .int .i64 x.hold, .int .i64 x.rest] 55)).drew.alloc (by simp) (.cells #[.string x.name, .int .i64 0, .int .i64 t, .int .i64 0] 46)))
      have HBD := hide ((hB.alloc hz (.cells #[.string x.name, .string x.key, .int .i64 x.ask, .int .i64 x.limit, .int .i64 x.window, .int .i64 x.hold, .int .i64 x.rest] 55)).drew.alloc (by simp; omega) (.cells #[.string x.name, .int .i64 0, .int .i64 t, .int .i64 0] 46))
      have HTK := hide (show ((l.take (j + 1)).map (stt0 t)).flatMap Stt.cs = ((l.take j).map (stt0 t)).flatMap Stt.cs ++ [.string x.name, .int .i64 0, .int .i64 t, .int .i64 0] by rw [take_succ_get hx]; simp [stt0, Stt.cs])
      clear hc hx hown hbox
      go_wp2_with (fail)
      go_region_law (refine step_append_lies _ (by rfl) (.tmp 22) (.tmp 27) 44 (by rfl) (w.heap.size + 1) 46 i0 (.agg #[.string ByteArray.empty, .int .i64 0, .int .i64 0, .int .i64 0]) 4 40 Tryd.underlying44 hi0 iz0 iz1 iz2 rfl (by omega) (.slice ao j cp) j _ (by rfl) HOD.out ⟨wr.heap.size + 1, 0, none⟩ 1 1 [.string x.name, .int .i64 0, .int .i64 t, .int .i64 0] (by rfl) (by rfl) (cells_at _ [.string x.name, .int .i64 0, .int .i64 t, .int .i64 0] _ _ (by first | rfl | simp)) (by intro u hu; simp at hu; rcases hu with rfl | rfl | rfl | rfl <;> rfl) (by omega) (by unfold maxLen; omega) (by omega) (by simp; omega) (wr.heap.size + 1 + 1) (by simp) ?_; intro g7 q9 w7 hown7 hgr7 hat7 hlt7; have HX7 := hide ((hgr7.block w.heap.size (by simp; omega) (fun e => by have := (HOW.out.lt _ e.symm).1; omega)).trans HXD.out); have HB7 := hide (HBD.out.grown hgr7 (by simp; omega) (fun k hk => by have := (HOW.out.lt k hk).1; omega)); have f5 : w7.cell? ⟨w.heap.size, 5, none⟩ = some (.slice ao j cp) := block_cell HX7.out 5; have ff5 : w7.frozen? ⟨w.heap.size, 5, none⟩ = false := block_free HX7.out 5; have HO7 := hide hown7; clear hown7 hgr7 hat7)
      go_wp2_with (fail)
      all_goals
        have hap := own_other' HO7.out HX7.out (by decide)
        exact ⟨⟨j + 1, _, by omega, by go_num, block_set HX7.out (i := 5) _, by rw [HTK.out]; exact ownsRow_setCell_other HO7.out (a := ⟨w.heap.size, 5, none⟩) hap _, HB7.out.setCell (by simp) _⟩, by simp [intOf]; omega⟩
    · obtain rfl : j = n := by omega
      have E := hide (show l.take j = l from take_len l (by rw [HL.out]; exact Nat.le_refl _))
      go_wp2_with (fail)
      go_ret
      rw [E.out] at hown
      exact ⟨sv, rfl, hbox, hown, hB⟩
end Go.Proofs.YtmakkdadhhpapaaDoor
