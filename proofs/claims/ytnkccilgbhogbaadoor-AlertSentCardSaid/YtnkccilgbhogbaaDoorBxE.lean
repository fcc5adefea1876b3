/- A box of posts: made; its lost posts told. -/
import Derived.Test.YtnkccilgbhogbaaDoorBxD
import Derived.Lib.Hide
namespace Go.Proofs.YtnkccilgbhogbaaDoor
open Go.RowKit Go.Maps
open Bk (ptE ptV MapK Got ptE_mk wpList_lookup_some wpList_lookup_none)
set_option linter.unusedVariables false
set_option linter.unusedSimpArgs false
def planP (mo wa ag tr : Int) : Pln := ⟨mo.toNat, wa, ag, tr⟩
theorem plan_ok {mo wa ag tr : Int} (h : planErr mo wa ag tr = 0) : (planP mo wa ag tr).ok ∧ ((planP mo wa ag tr).mo : Int) = mo := by
  unfold planErr at h
  split at h
  · cases h
  · rename_i h1
    simp [outsideB] at h1
    obtain ⟨⟨a1, a2⟩, ⟨b1, b2⟩, ⟨c1, c2⟩, d1, d2⟩ := h1
    have e : ((mo.toNat : Nat) : Int) = mo := by omega
    exact ⟨⟨by show 1 ≤ mo.toNat; omega, by show mo.toNat ≤ 100; omega, b1, b2, c1, c2, d1, d2⟩, e⟩
set_option maxRecDepth 100000 in
set_option maxHeartbeats 4000000 in
theorem NewBox_any (mo wa ag tr : Int) (w : World) :
    Calls Tryd.prog 5 #[.agg #[.int .i64 mo, .int .i64 wa, .int .i64 ag, .int .i64 tr]] w fun e w' => Below w.heap.size w w' ∧
      ((planErr mo wa ag tr ≠ 0 ∧ e = .returned (.tuple #[.pointer none, .int .i64 (planErr mo wa ag tr)])) ∨
       (planErr mo wa ag tr = 0 ∧ ∃ p F, e = .returned (.tuple #[.pointer (some ⟨p, 0, none⟩), .int .i64 0]) ∧ BX w.heap.size (planP mo wa ag tr) p emptyX 0 F w')) := by
  have hmm := @run_makeMap Tryd.prog
  have HB0 := hide (show Below w.heap.size w (w.alloc (.cells #[.int .i64 mo, .int .i64 wa, .int .i64 ag, .int .i64 tr] 23)) from (Below.refl _ _).alloc (Nat.le_refl _) _)
  have HM0 := hide (heap_alloc_new w (.cells #[.int .i64 mo, .int .i64 wa, .int .i64 ag, .int .i64 tr] 23))
  have CP := hide (fun W => CheckPlan_any mo wa ag tr W)
  by_cases he : planErr mo wa ag tr = 0
  · obtain ⟨hok, hmo⟩ := plan_ok he
    have HOK := hide hok
    have HMO := hide hmo
    rw [he] at CP ⊢
    clear he hok hmo
    go_enter Tryd.func5, Tryd.ntmps5
    go_wp2_with (first | (go_at_call 24; refine (CP.out _).mono ?_; rintro e w1 ⟨rfl, hb⟩; have HB1 := hide (HB0.out.trans (hb.mono HB0.out.size)); have hm1 := block_below HM0.out hb; have d0 : w1.cell? ⟨w.heap.size, 0, none⟩ = some (.int .i64 mo) := (block_cell hm1 0).trans rfl; have d1 : w1.cell? ⟨w.heap.size, 1, none⟩ = some (.int .i64 wa) := (block_cell hm1 1).trans rfl; have d2 : w1.cell? ⟨w.heap.size, 2, none⟩ = some (.int .i64 ag) := (block_cell hm1 2).trans rfl; have d3 : w1.cell? ⟨w.heap.size, 3, none⟩ = some (.int .i64 tr) := (block_cell hm1 3).trans rfl; have hz1 := HB1.out.size; clear hb hm1))
    refine bodyPost_ret (by simp [results, Tryd.results5, go_sem]; try rfl) rfl ?_
    have hsz : (w1.alloc (.map #[] 0)).heap.size = w1.heap.size + 1 := by simp
    have hbe : Below w.heap.size w ((w1.alloc (.map #[] 0)).alloc (.cells #[.int .i64 mo, .int .i64 wa, .int .i64 ag, .int .i64 tr, .map (some w1.heap.size), .int .i64 0, .slice none 0 0, .int .i64 0, .int .i64 0, .int .i64 0] 57)) := (HB1.out.alloc hz1 _).alloc (by omega) _
    refine ⟨hbe, .inr ⟨trivial, w1.heap.size + 1, fun k => k = w1.heap.size ∨ k = w1.heap.size + 1, rfl, BxOk.empty _, w1.heap.size, 0, .map [], [], fun _ => 0, fun _ => .slice none 0 0, .slice none 0 0, ?_, Nat.le_refl _, ?_, ?_⟩⟩
    · refine ⟨?_, (map_madeX w1 _ rfl).alloc _, MapK.empty _ _, by simp, fun no => ?_, by simp, fun no q hq => ?_, by simp, fun a b qa qb ha => ?_, World.ownsRow_nil _ _ _ _, by simp, by omega, by omega, by simp⟩
      · have h9 := heap_alloc_new (w1.alloc (.map #[] 0)) (.cells #[.int .i64 mo, .int .i64 wa, .int .i64 ag, .int .i64 tr, .map (some w1.heap.size), .int .i64 0, .slice none 0 0, .int .i64 0, .int .i64 0, .int .i64 0] 57)
        rw [hsz] at h9
        rw [h9]
        unfold boxA
        rw [HMO.out]
        rfl
      · constructor
        · intro h; cases h
        · rintro ⟨q, hq, _⟩; obtain ⟨a, b, c⟩ := atNo_some hq; simp [emptyX] at b
      · obtain ⟨a, b, c⟩ := atNo_some hq; simp [emptyX] at b
      · obtain ⟨a, b, c⟩ := atNo_some ha; simp [emptyX] at b
    · rintro k (rfl | rfl | ⟨no, hi, _⟩ | ⟨no, q, hq, _, _⟩ | e)
      · exact .inr rfl
      · exact .inl rfl
      · cases hi
      · obtain ⟨a, b, c⟩ := atNo_some hq; simp [emptyX] at b
      · cases e
    · rintro k (rfl | rfl)
      · exact ⟨hz1, by simp; omega⟩
      · exact ⟨by omega, by simp⟩
  · obtain ⟨x, hx⟩ : ∃ x, planErr mo wa ag tr = x := ⟨_, rfl⟩
    rw [hx] at CP he ⊢
    have he' : (x == 0) = false := by simpa using he
    clear hx
    go_enter Tryd.func5, Tryd.ntmps5
    go_wp2_with (first | (go_at_call 24; refine (CP.out _).mono ?_; rintro e w1 ⟨rfl, hb⟩; have HB1 := hide (HB0.out.trans (hb.mono HB0.out.size)); clear hb))
    refine bodyPost_ret (by simp [results, Tryd.results5, go_sem]; try rfl) rfl ?_
    exact ⟨HB1.out, .inl ⟨he, rfl⟩⟩
theorem lost_poL {s : Bx} (hlo : ∀ k ∈ s.lo, ∃ p, s.ps[k]? = some p ∧ p.lost = true ∧ p.cl = true) : poL (lostL s) = s.lo.map fun (k : Nat) => poN s ((k : Int) + 1) := by
  unfold lostL poL
  generalize s.lo = lo at hlo
  induction lo with
  | nil => rfl
  | cons k l ih =>
    obtain ⟨q, e1, _, _⟩ := hlo k (by simp)
    have h1 := ih fun j hj => hlo j (by simp [hj])
    rw [List.filterMap_cons, e1]
    simp only [Option.map_some, List.map_cons]
    rw [h1, poN_some (q := q) (by rw [atNo_nat]; exact e1)]
section
variable {B p N : Nat} {P : Pln} {s : Bx} {F : Nat → Prop} {w : World}
theorem po_step {w5 w8 : World} {lo n c5 c8 vc : Nat} {es : List Po} {l : List Nt} {no tr nx : Int} {A5 A8 vA : Option Addr} {o8 : Obj} {r : Option Nat}
    (hpo : PoIn lo w5 (.slice vA es.length vc) es) (ho5 : w5.ownsRow lo 51 4 (.slice A5 n c5) n (l.flatMap Nt.cs)) (hnl : l.length = n)
    (hown : w8.ownsRow lo 41 4 (.slice A8 (es.length + 1) c8) (es.length + 1) (es.flatMap Po.cs ++ [.int .i64 no, .slice A5 n c5, .int .i64 tr, .int .i64 nx])) (hg : (w5.alloc o8).grownBy w8 (Value.slice vA es.length vc).ownBlock) :
    PoIn lo w8 (.slice A8 (es.length + 1) c8) (es ++ [⟨no, A5, n, c5, tr, nx, l⟩]) := by
  have hba : Below w5.heap.size w5 (w5.alloc o8) := (Below.refl _ _).alloc (Nat.le_refl _) _
  have hzz : (w5.alloc o8).heap.size = w5.heap.size + 1 := by simp
  have hkeep : ∀ k o, w5.heap[k]? = some o → (Value.slice vA es.length vc).ownBlock ≠ some k → w8.heap[k]? = some o := fun k o e ne => (hg.block k (by have := lt_of_block e; omega) (fun e2 => ne e2.symm)).trans (block_below e hba)
  have hsub : ∀ {v : Value} {nn : Nat} {xs : List Value}, w5.ownsRow lo 51 4 v nn xs → w8.ownsRow lo 51 4 v nn xs := fun hr => own_stayC hr fun k o e eo => hkeep k o eo fun e2 => by
    obtain ⟨c2, h2⟩ := row_blkC hpo.row e2
    obtain ⟨c1, h1⟩ := row_blkC hr e
    rw [h1] at h2
    exact absurd (ty_eq h2) (by decide)
  refine ⟨?_, fun e he => ?_⟩
  · rw [List.flatMap_append, List.flatMap_singleton, List.length_append, List.length_singleton]; exact hown
  · rcases List.mem_append.1 he with he | he
    · exact ⟨(hpo.sub e he).1, hsub (hpo.sub e he).2⟩
    · obtain rfl := List.mem_singleton.1 he
      exact ⟨hnl.symm, hsub ho5⟩
set_option maxRecDepth 100000 in
set_option maxHeartbeats 8000000 in
theorem Lost_any (hP : P.ok) (h : BX B P p s N F w) (hln : s.lo.length ≤ 1000000) : Calls Tryd.prog 20 #[.pointer (some ⟨p, 0, none⟩)] w fun e w' => ∃ v es, e = .returned v ∧ Below w.heap.size w w' ∧ PoIn w.heap.size w' v es ∧ es.map Po.of = poL (lostL s) := by
  obtain ⟨hok, mb, mn, D, is, gk, gv, lv, hbp, hmn, hF, hFl⟩ := h
  obtain ⟨i0, hi0, iz0, iz1, iz2⟩ := info_parts9 info_pst
  rw [lost_poL hok.lo]
  obtain ⟨x0, x1, x2, x3, x4, x5, x6, x7, x8, x9⟩ := hbp.cells
  have hm2 := hP.m2
  have hlr := hbp.lrow
  obtain ⟨LA, LC, rfl⟩ := own_sl hlr
  have HSL := hide (show Sl w w.heap.size (lostC s.ps gv) 4 LA s.lo.length s.lo by
    obtain ⟨A', c', e9, s9, _⟩ := sl_of_own (f := lostC s.ps gv) (lostC_len s.ps gv) rfl hlr
    cases e9
    exact s9)
  have HBP := hide hbp
  have HOK := hide hok
  obtain ⟨M, hM⟩ : ∃ M, s.lo.length = M := ⟨_, rfl⟩
  rw [hM] at x6 hln HSL
  have HM := hide hM
  clear hok hbp hF hFl hlr hM
  go_enter Tryd.func20, Tryd.ntmps20
  go_wp2_with (fail)
  go_loopw [3, 11] (fun v3 v11 wr => ∃ (es : List Po) (A : Option Addr) (c : Nat), v3 = .slice A es.length c ∧ v11 = .int .i64 (es.length : Int) ∧ es.length ≤ M ∧ Below w.heap.size w wr ∧ PoIn w.heap.size wr (.slice A es.length c) es ∧ es.map Po.of = (s.lo.take es.length).map fun (k : Nat) => poN s ((k : Int) + 1)) (fun _ v11 _ => M - (intOf v11).toNat)
  case atStart => exact ⟨[], none, 0, rfl, rfl, Nat.zero_le _, Below.refl _ _, ⟨World.ownsRow_nil _ _ _ _, by simp⟩, rfl⟩
  case round =>
    obtain ⟨es, vA, vc, rfl, rfl, hjM, hB, hpo, heq⟩ := hrel
    have HB := hide hB
    have HPO := hide hpo
    have HEQ := hide heq
    have hz := hB.size
    by_cases hlt : es.length < M
    · have hlt' : (es.length : Int) < (M : Int) := by omega
      obtain ⟨lb, oo, k, rfl, hbb, hx, hc⟩ := (HSL.out.below hB).at_ hlt
      obtain ⟨q, hq, hql, hqc⟩ := HOK.out.lo k (List.mem_of_getElem? hx)
      have hat : atNo s.ps ((k : Int) + 1) = some q := by rw [atNo_nat]; exact hq
      have hrw := (HBP.out.below hB).row _ q hat (by cases e : q.gone with | false => rfl | true => exact (HOK.out.ps.ex q (List.mem_of_getElem? hq) e hql).elim)
      have hqn := (HOK.out.ps.len q (List.mem_of_getElem? hq)).2
      obtain ⟨A, cc, hv⟩ := own_sl hrw
      rw [hv] at hrw
      obtain ⟨n, hn⟩ : ∃ n, q.nts.length = n := ⟨_, rfl⟩
      obtain ⟨l, hl⟩ : ∃ l, q.nts = l := ⟨_, rfl⟩
      obtain ⟨tr, htr⟩ : ∃ tr, q.tr = tr := ⟨_, rfl⟩
      obtain ⟨nx, hnx⟩ : ∃ nx, q.nx = nx := ⟨_, rfl⟩
      have HPN := hide (show poN s ((k : Int) + 1) = ((k : Int) + 1, l, tr, nx) by rw [poN_some hat, hl, htr, hnx])
      have hcs : lostC s.ps gv k = [.int .i64 ((k : Int) + 1), .slice A n cc, .int .i64 tr, .int .i64 nx] := by rw [lostC_at, hat]; simp only; rw [hv, hn, htr, hnx]
      have HNL := hide (show l.length = n by rw [← hl]; exact hn)
      have hql2 : n ≤ 100 := by omega
      rw [hn, hl] at hrw
      have c0 : wr.cell? ⟨lb, oo + es.length * 4, none⟩ = some (.int .i64 ((k : Int) + 1)) := by have := hc 0 _ (by rw [hcs]; rfl); simpa using this
      have c1 : wr.cell? ⟨lb, oo + es.length * 4 + 1, none⟩ = some (.slice A n cc) := hc 1 _ (by rw [hcs]; rfl)
      have c2 : wr.cell? ⟨lb, oo + es.length * 4 + 2, none⟩ = some (.int .i64 tr) := hc 2 _ (by rw [hcs]; rfl)
      have c3 : wr.cell? ⟨lb, oo + es.length * 4 + 3, none⟩ = some (.int .i64 nx) := hc 3 _ (by rw [hcs]; rfl)
      obtain ⟨kk, hkk⟩ : ∃ kk, (k : Int) + 1 = kk := ⟨_, rfl⟩
      rw [hkk] at c0 HPN
      have HKK := hide hkk
      obtain ⟨wa, hwa⟩ : ∃ wa, wr.alloc (.cells #[.int .i64 kk, .slice A n cc, .int .i64 tr, .int .i64 nx] 41) = wa := ⟨_, rfl⟩
      have hba : Below wr.heap.size wr wa := hwa ▸ (Below.refl _ _).alloc (Nat.le_refl _) _
      have hma : wa.heap[wr.heap.size]? = some (.cells #[.int .i64 kk, .slice A n cc, .int .i64 tr, .int .i64 nx] 41 (0, 0)) := hwa ▸ heap_alloc_new wr _
      have HBA := hide (HB.out.trans (hba.mono hz))
      have HPA := hide (HPO.out.below hba)
      have CP := hide (copy_any (w := wa) (b := wr.heap.size) (o := 0) (n := n) (c := cc) (A := A) (l := l) (no := kk) (tr := tr) (nx := nx) (by omega) (by obtain ⟨A', c', e9, s9, _⟩ := sl_of_own (f := Nt.cs) (fun _ => rfl) HNL.out (own_below hrw hba); cases e9; exact s9) (lt_of_block hma) ((block_cell hma 0).trans rfl) ((block_cell hma 1).trans rfl) ((block_cell hma 2).trans rfl) ((block_cell hma 3).trans rfl))
      have HWA := hide hwa
      have HTK := hide (show s.lo.take (es.length + 1) = s.lo.take es.length ++ [k] by rw [List.take_add_one, hx]; rfl)
      have hzA := HBA.out.size
      clear hx hc hq hql hqc hat hrw hqn hv hn hl htr hnx hcs hkk hwa hba hma hB hpo heq
      go_wp2_with (fail)
      rw [HWA.out]
      refine CP.out.mono ?_
      rintro e w5 ⟨v5, rfl, hown5, hb5⟩
      obtain ⟨A5, c5, rfl⟩ := own_sl hown5
      have HB5 := hide (HBA.out.trans (hb5.mono hzA))
      have HPO5 := hide (HPA.out.below hb5)
      have HOW5 := hide (own_base9 (b' := w.heap.size) hown5 hzA)
      have hz5 := HB5.out.size
      clear hown5 hb5
      go_wp2_with (first | (at_builtin; refine wpList_append_own_at _ rfl (.tmp 15) (.tmp 17) 36 rfl w.heap.size 41 i0 (.agg #[.int .i64 0, .slice none 0 0, .int .i64 0, .int .i64 0]) 4 48 Tryd.underlying36 hi0 iz0 iz1 iz2 rfl (by decide) (.slice vA es.length vc) es.length (es.flatMap Po.cs) rfl (HPO5.out.row.alloc _) ⟨w5.heap.size, 0, none⟩ 1 1 [.int .i64 kk, .slice A5 n c5, .int .i64 tr, .int .i64 nx] rfl rfl (cells_at _ [.int .i64 kk, .slice A5 n c5, .int .i64 tr, .int .i64 nx] _ _ rfl) (by intro u hu; simp at hu; rcases hu with rfl | rfl | rfl | rfl <;> rfl) (by unfold maxLen; omega) (by omega) (by simp; omega) ?_; intro v8 w8 hown8 hg8 _ hat8; obtain ⟨A8, c8, rfl⟩ := own_sl hown8; have HREL := hide (po_step (r := none) HPO5.out HOW5.out HNL.out hown8 hg8); have HB8 := hide ((HB5.out.alloc hz5 _).grown hg8 (by simp; omega) (fun j hj => (HPO5.out.row.lt j hj).1)); clear hown8 hg8 hat8))
      go_roundw
      case rel => exact ⟨es ++ [⟨kk, A5, n, c5, tr, nx, l⟩], A8, c8, by rw [List.length_append]; rfl, by rw [List.length_append]; go_num, by rw [List.length_append]; exact hlt, HB8.out, by rw [List.length_append]; exact HREL.out, by
        rw [List.length_append, List.length_singleton, HTK.out, List.map_append, List.map_append, HEQ.out, List.map_singleton, List.map_singleton, HKK.out, HPN.out]
        rfl⟩
      case measure => simp [intOf]; omega
    · obtain rfl : M = es.length := by omega
      have hlt' : ¬ (es.length : Int) < (es.length : Int) := by omega
      go_wp2_with (fail)
      go_ret
      refine ⟨.slice vA es.length vc, rfl, HB.out, es, HPO.out, ?_⟩
      rw [HEQ.out, ← HM.out, List.take_length]
end
end Go.Proofs.YtnkccilgbhogbaaDoor
