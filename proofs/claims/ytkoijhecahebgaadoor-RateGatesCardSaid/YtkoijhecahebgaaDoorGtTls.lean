/- Tallies of the program's gate. -/
import Derived.Test.YtkoijhecahebgaaDoorGtGot
import Derived.Test.YtkoijhecahebgaaDoorGtSort
import Derived.Deep.Onto
namespace Go.Proofs.YtkoijhecahebgaaDoor
open Go.RowKit Go.Maps
set_option linter.unusedVariables false
set_option linter.unusedSimpArgs false
theorem info_tally : (Tryd.prog.info? 50).map (fun i => (i.zero, i.size, i.bytes)) = some (some (.agg #[.string ByteArray.empty, .int .i64 0, .string ByteArray.empty, .int .i64 0]), 4, 48) := by kernel_rfl
set_option maxRecDepth 100000 in
set_option maxHeartbeats 8000000 in
theorem Tallies_any (p b n : Nat) (D : DataW Unit) (l : List Tl) (w : World) (h4 : w.cell? ⟨p, 4, none⟩ = some (.map (some b)))
    (hown : w.ownsMap Tryd.prog 81 (plainElem Tryd.prog 3) b n D) (hT : MapT D l) (hnd : (l.map Tl.tag).Nodup) (hok : ∀ x ∈ l, TagOk x.tag) (hn : l.length ≤ 1000) :
    Calls Tryd.prog 18 #[.pointer (some ⟨p, 0, none⟩)] w fun e w' => ∃ v, e = .returned v ∧ w'.ownsRow w.heap.size 50 4 v l.length ((srtT l).flatMap Tl.cs) ∧ Below w.heap.size w w' := by
  obtain ⟨i0, hi0, iz0, iz1, iz2⟩ := info_parts info_tally
  have hbl := hown.lt
  have HT := hide hT
  go_enter Tryd.func18, Tryd.ntmps18
  go_wp2_with (first
    | (at_range; refine wpList_range_own _ rfl _ 61 rfl 81 3 law_rs Tryd.underlying61 _ b n _ rfl hown ?_; intro w0 hrg0 hg0 hs0)
    | go_in)
  go_frame
  go_loopw [3] (fun v wr => ∃ (left : Lit → Bool) (cnt : Nat) (m : List Tl), wr.ranges Tryd.prog 81 (plainElem Tryd.prog 3) b w.heap.size n D left cnt ∧
      wr.ownsRow (w.heap.size + 1) 50 4 v m.length (m.flatMap Tl.cs) ∧ Got l m left ∧ Below w.heap.size w wr)
    (fun _ wr => wr.rangeLeft b w.heap.size)
  case atStart =>
    exact ⟨_, _, [], hrg0, World.ownsRow_nil _ _ _ _, Got.start hT, (Below.refl _ _).grown hg0 (Nat.le_refl _) (fun j hj => by cases hj)⟩
  case round =>
    obtain ⟨left, cnt, m, hrg, hr, hG, hB⟩ := hrel
    obtain ⟨vA, vc, rfl⟩ := own_sl hr
    go_wp2_with (first
      | (at_next; refine wpList_next_ranges _ rfl _ rfl 81 law_rs (plainElem Tryd.prog 3) (fun x : Value => x) (Value.int .i64) (fun key kl _ => ⟨key, rfl⟩) (fun v y hv => by obtain ⟨c, rfl, _⟩ := plainElem_int_inv Tryd.underlying3 hv; exact ⟨c, rfl⟩) b w.heap.size n _ _ _ rfl hrg ?_ ?_)
      | go_in)
    · intro hc0 hl0
      have hp := hG.done hl0 hnd hok
      have hlen := hp.length_eq
      have hS := srtT_perm_eq hp hnd
      have HR := hide hr
      have HND := hide hG.nd
      have hm1 : m.length ≤ 1000 := by omega
      have HBw := hide hB
      have HE := hide hlen
      have HS := hide hS
      have hlo := hr.lt
      clear hr hG hB hlen hS hp hrg
      go_wp2_with (first | (go_at_call 43; refine (SortT_any HR.out hm1 HND.out).mono ?_; rintro e w7 ⟨rfl, hr7, hg7⟩))
      refine bodyPost_ret (by simp [results, Tryd.results18, go_sem]; try rfl) rfl ?_
      refine ⟨_, rfl, ?_, HBw.out.grown hg7 HBw.out.size (fun j hj => by have := (hlo j hj).1; omega)⟩
      rw [← HS.out, ← HE.out]
      exact World.ownsRow.mono hr7 (Nat.le_succ _)
    · intro x c kl y1 y2 w1 cnt1 hkx hlx hcy hat hrg1 hlt hg1 hs1 hen
      obtain ⟨t, ht, rfl⟩ := hG.all kl hlx
      obtain ⟨c', ec, ey, hwc⟩ := plainElem_int_inv Tryd.underlying3 hcy
      cases ec
      cases ey
      have ex : x = rsV t.1 t.2.1 t.2.2 := law_rs.inj hkx (key_rs ht.k ht.n ht.y)
      subst ex
      have ec2 : c = getT t l := by
        have h1 := hat (.lit (.int .i64 0))
        rw [hT.at_ t ht] at h1
        simpa using h1.symm
      subst ec2
      have hG1 := hide (hG.step ht hlx hnd)
      have hr1 := hr.kept hg1 (.inr (fun e => by have := (hr.lt _ e).1; omega))
      have hB1 := hB.grown hg1 hB.size (fun j hj => by cases hj; exact Nat.le_refl _)
      have hroom := hG1.out.room
      rw [List.length_append] at hroom
      simp at hroom
      obtain ⟨tk, ty, tn⟩ := t
      obtain ⟨cn, hcn⟩ : ∃ cn, getT (tk, ty, tn) l = cn := ⟨_, rfl⟩
      rw [hcn] at hG1 hen
      simp only [rsV] at hen
      have HR1 := hide hr1
      have HB1 := hide hB1
      have HRG := hide hrg1
      have HRG0 := hide hrg
      have hlo := hr1.lt
      have hz1 := hB1.size
      have hm1 : m.length + 1 ≤ 1000 := by omega
      clear hr hr1 hB hB1 hrg hrg1 hkx hcy hat hG hlx hg1
      obtain ⟨wb, hwb⟩ : ∃ wb, w1.alloc (.cells #[.string tk, .int .i64 ty, .string tn] 81) = wb := ⟨_, rfl⟩
      have hsb : wb.heap.size = w1.heap.size + 1 := by rw [← hwb]; simp
      have HQB := hide (show wb.heap[w1.heap.size]? = some (.cells #[.string tk, .int .i64 ty, .string tn] 81 (0, 0)) from hwb ▸ heap_alloc_new w1 _)
      rw [hs1] at HQB
      have x0 : wb.cell? ⟨wr.heap.size, 0, none⟩ = some (.string tk) := (block_cell HQB.out 0).trans rfl
      have x1 : wb.cell? ⟨wr.heap.size, 1, none⟩ = some (.int .i64 ty) := (block_cell HQB.out 1).trans rfl
      have x2 : wb.cell? ⟨wr.heap.size, 2, none⟩ = some (.string tn) := (block_cell HQB.out 2).trans rfl
      have HRB := hide (show wb.ownsRow (w.heap.size + 1) 50 4 (.slice vA m.length vc) m.length (m.flatMap Tl.cs) from hwb ▸ HR1.out.alloc _)
      have HBB := hide (show Below w.heap.size w wb from hwb ▸ HB1.out.alloc hz1 _)
      have HGB := hide (show wb.ranges Tryd.prog 81 (plainElem Tryd.prog 3) b w.heap.size n D _ cnt1 from hwb ▸ HRG.out.alloc _)
      have HSB := hide hsb
      have hzb : w.heap.size + 1 ≤ wb.heap.size := by omega
      clear hsb
      go_wp2_with (first | (at_builtin; refine wpList_append_own _ rfl (.tmp 16) (.tmp 25) 39 rfl (w.heap.size + 1) 50 i0 (.agg #[.string ByteArray.empty, .int .i64 0, .string ByteArray.empty, .int .i64 0]) 4 48 Tryd.underlying39 hi0 iz0 iz1 iz2 rfl (by decide) (.slice vA m.length vc) m.length (m.flatMap Tl.cs) rfl (HRB.out.alloc _) ⟨wb.heap.size, 0, none⟩ 1 1 [.string tk, .int .i64 ty, .string tn, .int .i64 cn] rfl rfl (cells_at _ [.string tk, .int .i64 ty, .string tn, .int .i64 cn] _ _ rfl) (by intro u hu; simp at hu; rcases hu with rfl | rfl | rfl | rfl <;> rfl) (by unfold maxLen; omega) (by omega) (by simp; omega) ?_; intro v8 w8 hown8 hg8 _; obtain ⟨A8, c8, rfl⟩ := own_sl hown8; have HO8 := hide hown8; have HB8 := hide ((HBB.out.alloc (by have := HSB.out; omega) _).grown hg8 (by have := HSB.out; simp; omega) (fun j hj => by have := (hlo j hj).1; omega)); have HG8 := hide ((HGB.out.alloc _).kept hg8 (fun e => by have := (hlo b e.symm).1; omega) (fun e => by have := (hlo _ e.symm).1; omega)); clear hown8 hg8) | fail)
      go_roundw
      case rel =>
        refine ⟨_, cnt1, m ++ [mkT (tk, ty, tn) cn], HG8.out, ?_, hG1.out, HB8.out⟩
        rw [List.length_append, List.flatMap_append, List.flatMap_singleton]
        exact HO8.out
      case measure => rw [HG8.out.left_eq, HRG0.out.left_eq]; exact hlt
end Go.Proofs.YtkoijhecahebgaaDoor
