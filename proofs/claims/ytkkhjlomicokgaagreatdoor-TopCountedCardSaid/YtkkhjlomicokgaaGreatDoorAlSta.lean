/- Rules that are watched; walk of Status (printed by gen_aa.py). -/
import Derived.Test.YtkkhjlomicokgaaGreatDoorAlCnt
import Derived.Laws.EntriesVeiled
namespace Go.Proofs.YtkkhjlomicokgaaGreatDoor.al
open Go.RowKit
set_option linter.unusedVariables false
set_option linter.unusedSimpArgs false
/-- The question of a rule, as a method that is bound to it. -/
def holdV (r : Rl) : Value := .func (.func (if r.ask = 1 then 23 else if r.ask = 2 then 24 else if r.ask = 3 then 25 else 26)) #[.agg r.cs.toArray] #[]
structure Wd where
  r : Rl
  st : Int
  si : Int
  va : Int
/-- The cells of a watched rule. -/
def Wd.cs (x : Wd) : List Value := [.string x.r.name, .string x.r.key, .int .i64 x.r.ask, .int .i64 x.r.limit, .int .i64 x.r.window, .int .i64 x.r.hold, .int .i64 x.r.rest, .int .i64 x.st, .int .i64 x.si, .int .i64 x.va, holdV x.r]
def Wd.stt (x : Wd) : Stt := ⟨x.r.name, x.st, x.si, x.va⟩
theorem sta_grow {B sz n : Nat} {S : TypeId} {w0 wp w1 : World} {v : Value} {xs : List Value} {o : Obj} (HB : Below B w0 wp) (hB : B ≤ wp.heap.size) (HO : wp.ownsRow B S sz v n xs) (hg : (wp.alloc o).grownBy w1 v.ownBlock) : Below B w0 w1 :=
  (HB.alloc hB o).grown hg (by simp; omega) (fun j hj => (HO.lt j hj).1)
theorem info_status : (Tryz.prog.info? 54).map (fun i => (i.zero, i.size, i.bytes)) = some (some (.agg #[.string ByteArray.empty, .int .i64 0, .int .i64 0, .int .i64 0]), 4, 40) := by kernel_rfl
set_option maxRecDepth 100000 in
set_option maxHeartbeats 8000000 in
theorem Status_any (pw n cap : Nat) (A : Option Addr) (l : List Wd) (w : World) (hn : n ≤ 1000) (hc0 : w.cell? ⟨pw, 0, none⟩ = some (.slice A n cap)) (hl : Sl w w.heap.size Wd.cs 11 A n l) :
    Calls Tryz.prog 14 #[.pointer (some ⟨pw, 0, none⟩)] w fun e w' => ∃ v, e = .returned v ∧ w'.ownsRow w.heap.size 54 4 v n ((l.map Wd.stt).flatMap Stt.cs) ∧ Below w.heap.size w w' := by
  obtain ⟨i0, hi0, iz0, iz1, iz2⟩ := info_parts info_status
  have HL := hide hl.len
  have HSL := hide hl
  clear hl
  go_enter Tryz.func14, Tryz.ntmps14
  go_wp2_with (fail)
  go_loopw [3, 11] (fun v i wr => ∃ j : Nat, j ≤ n ∧ i = .int .i64 j ∧ wr.ownsRow w.heap.size 54 4 v j (((l.take j).map Wd.stt).flatMap Stt.cs) ∧ Below w.heap.size w wr) (fun _ i _ => n - (intOf i).toNat)
  case atStart => exact ⟨0, Nat.zero_le _, rfl, World.ownsRow_nil _ _ _ _, Below.refl _ _⟩
  case round =>
    obtain ⟨j, hj, rfl, hown, hB⟩ := hrel
    have hz := hB.size
    by_cases hlt : j < n
    · obtain ⟨bb, oo, x, rfl, hbb, hx, hc⟩ := (HSL.out.below hB).at_ hlt
      have c0 : wr.cell? ⟨bb, oo + j * 11, none⟩ = some (.string x.r.name) := by simpa using hc 0 _ rfl
      have c1 : wr.cell? ⟨bb, oo + j * 11 + 1, none⟩ = some (.string x.r.key) := by simpa using hc 1 _ rfl
      have c2 : wr.cell? ⟨bb, oo + j * 11 + 2, none⟩ = some (.int .i64 x.r.ask) := by simpa using hc 2 _ rfl
      have c3 : wr.cell? ⟨bb, oo + j * 11 + 3, none⟩ = some (.int .i64 x.r.limit) := by simpa using hc 3 _ rfl
      have c4 : wr.cell? ⟨bb, oo + j * 11 + 4, none⟩ = some (.int .i64 x.r.window) := by simpa using hc 4 _ rfl
      have c5 : wr.cell? ⟨bb, oo + j * 11 + 5, none⟩ = some (.int .i64 x.r.hold) := by simpa using hc 5 _ rfl
      have c6 : wr.cell? ⟨bb, oo + j * 11 + 6, none⟩ = some (.int .i64 x.r.rest) := by simpa using hc 6 _ rfl
      have c7 : wr.cell? ⟨bb, oo + j * 11 + 7, none⟩ = some (.int .i64 x.st) := by simpa using hc 7 _ rfl
      have c8 : wr.cell? ⟨bb, oo + j * 11 + 8, none⟩ = some (.int .i64 x.si) := by simpa using hc 8 _ rfl
      have c9 : wr.cell? ⟨bb, oo + j * 11 + 9, none⟩ = some (.int .i64 x.va) := by simpa using hc 9 _ rfl
      have c10 : wr.cell? ⟨bb, oo + j * 11 + 10, none⟩ = some (holdV x.r) := by simpa using hc 10 _ rfl
      have HOW := hide (hown.alloc (.cells #[.string x.r.name, .string x.r.key, .int .i64 x.r.ask, .int .i64 x.r.limit, .int .i64 x.r.window, .int .i64 x.r.hold, .int .i64 x.r.rest, .int .i64 x.st, .int .i64 x.si, .int .i64 x.va, holdV x.r] 88))
      have HBA := hide (hB.alloc hz (.cells #[.string x.r.name, .string x.r.key, .int .i64 x.r.ask, .int .i64 x.r.limit, .int .i64 x.r.window, .int .i64 x.r.hold, .int .i64 x.r.rest, .int .i64 x.st, .int .i64 x.si, .int .i64 x.va, holdV x.r] 88))
      have HTK := hide (show ((l.take (j + 1)).map Wd.stt).flatMap Stt.cs = ((l.take j).map Wd.stt).flatMap Stt.cs ++ [.string x.r.name, .int .i64 x.st, .int .i64 x.si, .int .i64 x.va] by rw [take_succ_get hx]; simp [Wd.stt, Stt.cs])
      obtain ⟨hv, hhv⟩ : ∃ hv, holdV x.r = hv := ⟨_, rfl⟩
      rw [hhv] at c10 HOW HBA
      obtain ⟨fn, bd, cp0, hfn⟩ : ∃ fn bd cp, hv = .func fn bd cp := ⟨_, _, _, hhv.symm.trans rfl⟩
      subst hfn
      clear hc hx hown hhv
      go_wp2_with (at_builtin; refine wpList_append_own _ rfl (.tmp 15) (.tmp 28) 51 rfl w.heap.size 54 i0 (.agg #[.string ByteArray.empty, .int .i64 0, .int .i64 0, .int .i64 0]) 4 40 Tryz.underlying51 hi0 iz0 iz1 iz2 rfl (by decide) _ j _ rfl (HOW.out.alloc _) ⟨wr.heap.size + 1, 0, none⟩ 1 1 [.string x.r.name, .int .i64 x.st, .int .i64 x.si, .int .i64 x.va] rfl rfl (cells_at _ [.string x.r.name, .int .i64 x.st, .int .i64 x.si, .int .i64 x.va] _ _ (by first | rfl | simp)) (by intro u hu; simp at hu; rcases hu with rfl | rfl | rfl | rfl <;> rfl) (by unfold maxLen; omega) (by omega) (by simp; try omega) ?_; intro v1 w1 hown1 hg1 _; obtain ⟨ao, cp, rfl⟩ := own_sl hown1; have HO1 := hide hown1; have HBE := hide (sta_grow HBA.out HBA.out.size HOW.out hg1); clear hown1 hg1)
      go_roundw
      case rel => exact ⟨j + 1, by omega, by go_num, by rw [HTK.out]; exact HO1.out, HBE.out⟩
      case measure => simp [intOf]; omega
    · obtain rfl : j = n := by omega
      have E := hide (show l.take j = l from take_len l (by rw [HL.out]; exact Nat.le_refl _))
      go_wp2_with (fail)
      go_ret
      rw [E.out] at hown
      exact ⟨_, rfl, hown, hB⟩
end Go.Proofs.YtkkhjlomicokgaaGreatDoor.al