/- History: the steps as they are. -/
import Derived.Test.YtapfcnfmonknjaaGreatDoorBkSp
import Derived.Test.YtapfcnfmonknjaaGreatDoorRbS
import Derived.Test.YtapfcnfmonknjaaGreatDoorBkHi
namespace Go.Proofs.YtapfcnfmonknjaaGreatDoor.Bk
open Go.RowKit Go.Maps Go.Sort
set_option linter.unusedVariables false
set_option linter.unusedSimpArgs false
/-- What a step says. -/
def Stp.key (s : Stp) : Int × Int × Int × List (List UInt8) := (s.kind, s.a, s.b, s.ps)
/-- The first j steps, told. -/
def HsI (w : World) (ss : List Stp) (j : Nat) (v : Value) (wr : World) : Prop := ∃ es : List Stp, wr.ownsRow w.heap.size 49 4 v es.length (es.flatMap Stp.cs) ∧ (∀ s ∈ es, wr.ownsRow w.heap.size 9 1 s.sl s.ps.length (s.ps.map encStr)) ∧ es.map Stp.key = (ss.take j).map Stp.key ∧ Below w.heap.size w wr
theorem HsI.start (w : World) (ss : List Stp) : HsI w ss 0 (.slice none 0 0) w := ⟨[], World.ownsRow_nil _ _ _ _, by simp, by simp, Below.refl _ _⟩
theorem app_keep9 {w w8 : World} {o2 : Obj} {v : Value} (hg8 : (w.alloc o2).grownBy w8 v.ownBlock) : ∀ j o, w.heap[j]? = some o → v.ownBlock ≠ some j → w8.heap[j]? = some o :=
  fun j o e ne => (hg8.block j (by have := lt_of_block e; simp; omega) (fun e2 => ne e2.symm)).trans (block_below e ((Below.refl _ _).alloc (Nat.le_refl _) _))
set_option maxRecDepth 100000 in
set_option maxHeartbeats 8000000 in
theorem History_any {B p mb mn : Nat} {last : Int} {sv : Value} {l : List Pr} {bk : List UInt8 → Nat} {ss : List Stp} {w : World} (h : BS B w p mb mn last sv l bk ss) (hss : ss.length < 400) (hps : ∀ s ∈ ss, s.ps.length ≤ 1000) :
    Calls Tryz.prog 20 #[.pointer (some ⟨p, 0, none⟩)] w fun e w' => ∃ v, e = .returned v ∧ HsI w ss ss.length v w' := by
  obtain ⟨i0, hi0, iz0, iz1, iz2⟩ := info_parts info_step
  obtain ⟨SA, sc, rfl, hsl, _⟩ := sl_of_own (f := Stp.cs) (fun _ => rfl) rfl h.row
  have z2 : w.cell? ⟨p, 2, none⟩ = some (.slice SA ss.length sc) := (block_cell h.bm.box 2).trans rfl
  have HH := hide h
  have HSL := hide hsl
  have HPS := hide hps
  clear h hsl hps
  go_enter Tryz.func20, Tryz.ntmps20
  go_wp2_with (fail)
  go_loopw [3, 11] (fun v ti wr => ∃ j : Nat, j ≤ ss.length ∧ ti = .int .i64 (j : Int) ∧ HsI w ss j v wr) (fun _ ti _ => ss.length - (intOf ti).toNat)
  case atStart => exact ⟨0, Nat.zero_le _, rfl, HsI.start w ss⟩
  case round =>
    obtain ⟨j, hj, rfl, hI⟩ := hrel
    have HI := hide hI
    obtain ⟨es, hr, hps9, hkey, hB⟩ := hI
    have hel : es.length = j := by have := congrArg List.length hkey; simp at this; omega
    rw [hel] at hr
    obtain ⟨xs, hxs⟩ : ∃ xs, es.flatMap Stp.cs = xs := ⟨_, rfl⟩
    rw [hxs] at hr
    have HXS := hide hxs
    have HPE := hide hps9
    have HKEY := hide hkey
    have HEL := hide hel
    clear hps9 hkey hxs hel
    obtain ⟨vA, vc, rfl⟩ := own_sl hr
    by_cases hjn : j < ss.length
    · obtain ⟨gb, go, st, hA, hgb, hx, hc⟩ := (HSL.out.below hB).at_ hjn
      have hst := List.mem_of_getElem? hx
      have hrow := own_below (HH.out.ps st hst) hB
      have hpl := HPS.out st hst
      have hn : st.n = st.ps.length := by
        obtain ⟨_, _, e⟩ := own_sl hrow
        simp only [Stp.sl, Value.slice.injEq] at e
        exact e.2.1
      obtain ⟨kd, a, b, A, n, c, ps⟩ := st
      have HX := hide hx
      simp only at hn hpl
      subst hn
      have d0 : wr.cell? ⟨gb, go + j * 4, none⟩ = some (.int .i64 kd) := by simpa using hc 0 _ rfl
      have d1 : wr.cell? ⟨gb, go + j * 4 + 1, none⟩ = some (.int .i64 a) := hc 1 _ rfl
      have d2 : wr.cell? ⟨gb, go + j * 4 + 2, none⟩ = some (.int .i64 b) := hc 2 _ rfl
      have d3 : wr.cell? ⟨gb, go + j * 4 + 3, none⟩ = some (.slice A ps.length c) := hc 3 _ rfl
      have hjn' : (j : Int) < (ss.length : Int) := by omega
      obtain ⟨wa, hwa⟩ : ∃ wa, wr.alloc (.cells #[.int .i64 kd, .int .i64 a, .int .i64 b, .slice A ps.length c] 49) = wa := ⟨_, rfl⟩
      have hba : Below wr.heap.size wr wa := hwa ▸ (Below.refl _ _).alloc (Nat.le_refl _) _
      have hna : wa.heap[wr.heap.size]? = some (.cells #[.int .i64 kd, .int .i64 a, .int .i64 b, .slice A ps.length c] 49 (0, 0)) := hwa ▸ heap_alloc_new wr _
      have HCL := hide (Clone_any A ps.length c ps wa (rowS (own_below hrow hba) rfl) (by omega))
      have HNA := hide hna
      have HBA := hide (hB.trans (hba.mono hB.size))
      have HRA := hide (own_below hr hba)
      have hza := lt_of_block hna
      have hzr := hB.size
      have hlo := hr.lt
      have x3 : wa.cell? ⟨wr.heap.size, 3, none⟩ = some (.slice A ps.length c) := (block_cell hna 3).trans rfl

      obtain ⟨q, hq⟩ : ∃ q, wr.heap.size = q := ⟨_, rfl⟩
      rw [hq] at hza hzr x3 HNA
      have HQ := hide hq
      have HBR := hide hB
      clear hc hx hrow hB hr hna hba
      subst hA
      go_wp2_with (fail)
      (try rw [hq])
      refine HCL.out.mono ?_
      rintro e w4 ⟨v4, rfl, hr4, hb4⟩
      obtain ⟨A4, c4, rfl⟩ := own_sl hr4
      have hn4 := block_below HNA.out hb4
      have y0 : w4.cell? ⟨q, 0, none⟩ = some (.int .i64 kd) := (block_cell hn4 0).trans rfl
      have y1 : w4.cell? ⟨q, 1, none⟩ = some (.int .i64 a) := (block_cell hn4 1).trans rfl
      have y2 : w4.cell? ⟨q, 2, none⟩ = some (.int .i64 b) := (block_cell hn4 2).trans rfl
      have y3 : w4.cell? ⟨q, 3, none⟩ = some (.slice A ps.length c) := (block_cell hn4 3).trans rfl
      have f3 : w4.frozen? ⟨q, 3, none⟩ = false := block_free hn4 3
      have HB4 := hide ((HBA.out.trans (hb4.mono HBA.out.size)).setCell (p := ⟨q, 3, none⟩) (by omega) (.slice A4 ps.length c4))
      have HR4 := hide (show (w4.setCell ⟨q, 3, none⟩ (.slice A4 ps.length c4)).ownsRow w.heap.size 49 4 (.slice vA j vc) j xs from own_stayB (own_below HRA.out hb4) fun k o e eo => block_set_other eo _ _ (show k ≠ q from fun e2 => by have := (hlo k e).2; have := HQ.out; omega))
      have hz4 := hb4.size
      have HB44 := hide hb4
      have HS4 := hide (show w4.ownsRow wa.heap.size 9 1 (.slice A4 ps.length c4) ps.length (ps.map encStr) from hr4)
      have HN4 := hide hn4
      have HWA := hide hwa
      clear hr4 hb4 hn4 HCL x3 hwa hq
      go_wp2_with (first | (at_builtin; refine wpList_append_own _ rfl (.tmp 19) (.tmp 21) 27 rfl w.heap.size 49 i0 (.agg #[.int .i64 0, .int .i64 0, .int .i64 0, .slice none 0 0]) 4 48 Tryz.underlying27 hi0 iz0 iz1 iz2 rfl (by decide) (.slice vA j vc) j xs rfl (HR4.out.alloc _) ⟨w4.heap.size, 0, none⟩ 1 1 [.int .i64 kd, .int .i64 a, .int .i64 b, .slice A4 ps.length c4] (by go_simp) rfl (by first | exact cells_at _ [.int .i64 kd, .int .i64 a, .int .i64 b, .slice A4 ps.length c4] _ _ (by simp) | skip) (by intro u hu; simp at hu; rcases hu with rfl | rfl | rfl | rfl <;> rfl) (by unfold maxLen; omega) (by omega) (by simp; omega) ?_; intro v8 w8 hown8 hg8 _; obtain ⟨A8, c8, rfl⟩ := own_sl hown8; have HO8 := hide hown8; have HB8 := hide ((HB4.out.alloc (by simp; omega) _).grown hg8 (by simp; omega) (fun j hj => (hlo j hj).1)); have HG8 := hide (app_keep9 hg8); clear hown8 hg8))
      go_roundw
      case rel =>
        refine ⟨j + 1, by omega, by go_num, es ++ [⟨kd, a, b, A4, ps.length, c4, ps⟩], ?_, fun s hs => ?_, ?_, HB8.out⟩
        · rw [List.length_append, List.length_singleton, HEL.out, List.flatMap_append, HXS.out]
          exact HO8.out
        · have h88 : ∀ (B : Nat) (v' : Value) (n' : Nat) (xs' : List Value), w4.ownsRow B 9 1 v' n' xs' → w8.ownsRow B 9 1 v' n' xs' := fun B v' n' xs' ho => own_stayB ho fun k o e eo => HG8.out k o (block_set_other eo _ _ (show k ≠ q from fun e2 => own_other' ho HN4.out (by decide) (by rw [e, e2]))) fun e2 => by
            obtain ⟨c9, q9⟩ := row_blkB ho e
            obtain ⟨c7, q7⟩ := row_blkB HR4.out e2
            have q6 := block_set_other q9 ⟨q, 3, none⟩ (.slice A4 ps.length c4) (show k ≠ q from fun e3 => own_other' ho HN4.out (by decide) (by rw [e, e3]))
            rw [q6] at q7
            cases q7
          rcases List.mem_append.1 hs with hs | hs
          · refine h88 _ _ _ _ (own_below ?_ HB44.out)
            rw [← HWA.out]
            exact (HPE.out s hs).alloc _
          · rw [List.mem_singleton.1 hs]
            exact h88 _ _ _ _ (World.ownsRow.mono HS4.out (by omega))
        · rw [List.map_append, HKEY.out, take_succ_get HX.out, List.map_append]
          rfl
      case measure => simp [intOf]; omega
    · have hje : j = ss.length := by omega
      subst hje
      clear hB hr
      go_wp2_with (fail)
      go_ret
      exact ⟨_, rfl, HI.out⟩
end Go.Proofs.YtapfcnfmonknjaaGreatDoor.Bk
