/- posts of a box, walked with each of its tests (printed by gen_bxp.py). -/
import Derived.Test.YtnkccilgbhogbaaDoorBxPl
import Derived.Laws.EntriesVeiled
import Derived.Maps.RangeWalk
namespace Go.Proofs.YtnkccilgbhogbaaDoor
open Go.RowKit Go.Maps
open Bk (ptE ptV MapK Got ptE_mk ptE_inv wpList_lookup_some wpList_lookup_none)
set_option linter.unusedVariables false
set_option linter.unusedSimpArgs false
theorem ptE_inv2 {v : Value} {y : DataW Unit × List MemPlace} (h : ptE v = some y) : ∃ q, v = ptV q := by obtain ⟨q, e, _⟩ := ptE_inv h; exact ⟨q, e⟩
/-- What posts answers. -/
def PsA (f : Pst → Bool) (s : Bx) (e : Ending) (w w' : World) : Prop := ∃ v es, e = .returned v ∧ Below w.heap.size w w' ∧ PoIn w.heap.size w' v es ∧ es.map Po.of = poL (selP f s.ps)
/-- What the loop of posts keeps. -/
def PsR (w : World) (mb mn : Nat) (D : DataW Unit) (is : List Int) (f : Pst → Bool) (s : Bx) (v : Value) (wr : World) : Prop :=
  ∃ (left : Lit → Bool) (cnt : Nat) (ts : List Int) (es : List Po), wr.ranges Tryd.prog 3 ptE mb w.heap.size mn D left cnt ∧ Got (Lit.int .i64) is ts left ∧ Below w.heap.size w wr ∧ w.heap.size + 1 ≤ wr.heap.size ∧ PoIn (w.heap.size + 1) wr v es ∧ es.length ≤ ts.length ∧ es.map Po.of = (ts.filter (tstN s f)).map (poN s)
theorem rng_below {w w' : World} {mb R mn cnt : Nat} {D : DataW Unit} {left : Lit → Bool} (h : w.ranges Tryd.prog 3 ptE mb R mn D left cnt) (hb : Below w.heap.size w w') : w'.ranges Tryd.prog 3 ptE mb R mn D left cnt := by
  obtain ⟨es, clock, since, seen, c0, hb1, F, hs', hD, hr, rest⟩ := h
  exact ⟨es, clock, since, seen, c0, block_below hb1 hb, F, hs', hD, block_below hr hb, rest⟩
theorem ps_step {w w5 w8 : World} {mb mn n c5 c8 vc : Nat} {D : DataW Unit} {left : Lit → Bool} {cnt : Nat} {es : List Po} {l : List Nt} {no tr nx : Int} {A5 A8 vA : Option Addr} {o8 : Obj}
    (hpo : PoIn (w.heap.size + 1) w5 (.slice vA es.length vc) es) (ho5 : w5.ownsRow (w.heap.size + 1) 51 4 (.slice A5 n c5) n (l.flatMap Nt.cs)) (hnl : l.length = n)
    (hown : w8.ownsRow (w.heap.size + 1) 41 4 (.slice A8 (es.length + 1) c8) (es.length + 1) (es.flatMap Po.cs ++ [.int .i64 no, .slice A5 n c5, .int .i64 tr, .int .i64 nx])) (hg : (w5.alloc o8).grownBy w8 (Value.slice vA es.length vc).ownBlock)
    (hB : Below w.heap.size w w5) (hz : w.heap.size + 1 ≤ w5.heap.size) (hrg : w5.ranges Tryd.prog 3 ptE mb w.heap.size mn D left cnt) :
    Below w.heap.size w w8 ∧ w.heap.size + 1 ≤ w8.heap.size ∧ PoIn (w.heap.size + 1) w8 (.slice A8 (es.length + 1) c8) (es ++ [⟨no, A5, n, c5, tr, nx, l⟩]) ∧ w8.ranges Tryd.prog 3 ptE mb w.heap.size mn D left cnt := by
  have hlo := hpo.row.lt
  have hba : Below w5.heap.size w5 (w5.alloc o8) := (Below.refl _ _).alloc (Nat.le_refl _) _
  have hzz : (w5.alloc o8).heap.size = w5.heap.size + 1 := by simp
  have hz8 := hg.size
  have hkeep : ∀ k o, w5.heap[k]? = some o → (Value.slice vA es.length vc).ownBlock ≠ some k → w8.heap[k]? = some o := fun k o e ne => (hg.block k (by have := lt_of_block e; omega) (fun e2 => ne e2.symm)).trans (block_below e hba)
  have hsub : ∀ {v : Value} {nn : Nat} {xs : List Value}, w5.ownsRow (w.heap.size + 1) 51 4 v nn xs → w8.ownsRow (w.heap.size + 1) 51 4 v nn xs := fun hr => own_stayC hr fun k o e eo => hkeep k o eo fun e2 => by
    obtain ⟨c2, h2⟩ := row_blkC hpo.row e2
    obtain ⟨c1, h1⟩ := row_blkC hr e
    rw [h1] at h2
    exact absurd (ty_eq h2) (by decide)
  refine ⟨(hB.alloc (by have := hB.size; omega) o8).grown hg (by have := hB.size; omega) (fun j hj => by have := (hlo j hj).1; omega), by omega, ⟨?_, fun e he => ?_⟩, ?_⟩
  · rw [List.flatMap_append, List.flatMap_singleton, List.length_append, List.length_singleton]; exact hown
  · rcases List.mem_append.1 he with he | he
    · exact ⟨(hpo.sub e he).1, hsub (hpo.sub e he).2⟩
    · obtain rfl := List.mem_singleton.1 he
      exact ⟨hnl.symm, hsub ho5⟩
  · obtain ⟨es', clock, since, seen, c0, hb1, F, hs', hD, hr, rest⟩ := hrg
    have hne : ∀ k, (∀ cur t, w5.heap[k]? ≠ some (.cells cur t (0, 0))) → (Value.slice vA es.length vc).ownBlock ≠ some k := fun k hk e => by
      obtain ⟨c2, h2⟩ := row_blkC hpo.row e
      exact hk _ _ h2
    exact ⟨es', clock, since, seen, c0, hkeep _ _ hb1 (hne _ fun cur t e => by rw [hb1] at e; cases e), F, hs', hD, hkeep _ _ hr (hne _ fun cur t e => by rw [hr] at e; cases e), rest⟩
section
variable {B p mb mn : Nat} {P : Pln} {s : Bx} {D : DataW Unit} {is : List Int} {gk : Int → Nat} {gv : Int → Value} {lv : Value} {w : World}
set_option maxRecDepth 100000 in
set_option maxHeartbeats 8000000 in
theorem postsO_any (hP : P.ok) (hb : BxOk P s) (h : BP B P p mb s mn D is gk gv lv w) :
    Calls Tryd.prog 33 #[.pointer (some ⟨p, 0, none⟩), .func (.func 39) #[] #[]] w fun e w' => PsA Pst.op s e w w' := by
  obtain ⟨i0, hi0, iz0, iz1, iz2⟩ := info_parts9 info_pst
  obtain ⟨x0, x1, x2, x3, x4, x5, x6, x7, x8, x9⟩ := h.cells
  have HH := hide h
  have HBX := hide hb
  have hlp := h.len
  have hop := hb.op
  have hmbl : mb < w.heap.size := h.map.lt
  have hlen : is.length ≤ 500 := by omega
  have hm2 := hP.m2
  have HOF : Hid (∀ q : Pst, (Pst.op) q = true → q.op = true) := hide (by intro q; exact id)
  clear h hb hlp hop
  go_enter Tryd.func33, Tryd.ntmps33
  go_wp2_with (first
    | (at_range; refine wpList_range_own _ rfl _ 55 rfl 3 63 law_i Tryd.underlying55 _ mb mn _ rfl HH.out.map ?_; intro w0 hrg0 hg0 hs0)
    | go_in)
  try go_frame
  go_loopw [5] (fun v wr => PsR w mb mn D is (Pst.op) s v wr) (fun _ wr => wr.rangeLeft mb w.heap.size)
  case atStart =>
    exact ⟨_, _, [], [], hrg0, Got.start HH.out.mp, (Below.refl _ _).grown hg0 (Nat.le_refl _) (fun j hj => by cases hj), by omega, ⟨World.ownsRow_nil _ _ _ _, by simp⟩, by simp, rfl⟩
  case round =>
    obtain ⟨left2, cnt2, ts, es, hrg2, hGt2, hB2, hz2, hpo, hle, heq⟩ := hrel
    clear hrg0 hg0 hs0
    obtain ⟨vA, vc, rfl⟩ := own_sl hpo.row
    have htl := hGt2.room HH.out.nd
    go_wp2_with (first
      | (at_next; refine wpList_next_ranges _ rfl _ rfl 3 law_i ptE (Value.int .i64) ptV (fun key kl hk => by obtain ⟨x, e, _⟩ := keyOf_int_inv Tryd.underlying3 hk; exact ⟨x, e⟩) (fun v y hv => ptE_inv2 hv) mb w.heap.size mn _ _ _ rfl hrg2 ?_ ?_)
      | go_in)
    · intro hc0 hl2
      have HPm := hide (hGt2.done hl2 HH.out.nd)
      have HPO := hide hpo
      have HEQ := hide heq
      have HB2 := hide hB2
      have HEL := hide (show es.length ≤ 1000 by omega)
      have HND := hide (show (es.map Po.no).Nodup by
        have e1 : es.map Po.no = ts.filter (tstN s (Pst.op)) := by
          have := congrArg (List.map Prod.fst) heq
          rw [List.map_map, List.map_map] at this
          have e2 : (ts.filter (tstN s (Pst.op))).map (Prod.fst ∘ poN s) = ts.filter (tstN s (Pst.op)) := by
            refine (List.map_congr_left fun a _ => ?_).trans (List.map_id _)
            show (poN s a).1 = a
            unfold poN
            cases atNo s.ps a <;> rfl
          rw [e2] at this
          exact this
        rw [e1]
        exact hGt2.nd.filter _)
      clear hGt2 hpo heq hB2 hrg2 hle
      go_wp2_with (first | (go_at_call 47; refine (SortP_any HPO.out.row HEL.out HND.out).mono ?_; rintro e w7 ⟨rfl, ⟨es7, hp7, hs7, hr7⟩, hg7⟩))
      go_ret
      refine ⟨_, es7, rfl, ?_, ⟨?_, fun e he => ?_⟩, posts_of HH.out.mem HOF.out HPm.out HEQ.out hp7 hs7⟩
      · exact HB2.out.grown hg7 HB2.out.size (fun j hj => by have := (HPO.out.row.lt j hj).1; omega)
      · rw [hp7.length_eq]; exact own_base9 hr7 (by omega)
      · obtain ⟨s1, s2⟩ := HPO.out.sub e (hp7.mem_iff.1 he)
        refine ⟨s1, own_base9 (s2.kept hg7 ?_) (by omega)⟩
        cases e5 : e.sl.ownBlock with
        | none => exact .inl rfl
        | some x =>
          refine .inr fun e6 => ?_
          obtain ⟨c1, h1⟩ := row_blkC s2 e5
          obtain ⟨c2, h2⟩ := row_blkC HPO.out.row e6.symm
          rw [h1] at h2
          exact absurd (ty_eq h2) (by decide)
    · intro no c kl y1 y2 w3 cnt3 hkx hlx hcy hat hrg3 hlt hg3 hs3 hen
      obtain ⟨i2, e1, rfl, _⟩ := keyOf_int_inv Tryd.underlying3 hkx
      obtain rfl : no = i2 := by cases e1; rfl
      obtain ⟨hin, hnot⟩ := (hGt2.lf _).1 hlx
      have ec : c = some (gk no) := by
        have h1 := hat (.lit (.int .i64 0))
        rw [ptE_mk] at hcy
        rw [HH.out.mp.in_ no hin] at h1
        have h2 := congrArg Prod.fst (Option.some.inj hcy)
        simp only at h2
        rw [← h1] at h2
        simp only [DataW.lit.injEq, Lit.int.injEq, true_and] at h2
        exact Bk.ptI_inj h2
      subst ec
      simp only [ptV] at hen
      obtain ⟨q, hq, ho⟩ := (HH.out.mem no).1 hin
      have hB3 := hB2.grown hg3 hB2.size (fun j hj => by cases hj; exact Nat.le_refl _)
      have hz3 : w.heap.size + 1 ≤ w3.heap.size := by omega
      have hpo3 : PoIn (w.heap.size + 1) w3 (.slice vA es.length vc) es := hpo.keep fun k o hk ek => (hg3.block k (lt_of_block ek) (fun e => by cases e; omega)).trans ek
      have h3 := HH.out.below hB3
      have hcl := h3.cell no q hin hq
      have hrw := h3.row no q hq (op_not ho).1
      have hql := (HBX.out.ps.len q (List.mem_of_getElem? (atNo_some hq).2.1)).2
      have hgo := (op_not ho).1
      obtain ⟨A, cc, hv⟩ := own_sl hrw
      rw [hv] at hrw
      obtain ⟨k, hk⟩ : ∃ k, gk no = k := ⟨_, rfl⟩
      have hkl : k < w.heap.size := hk ▸ lt_of_block (HH.out.cell no q hin hq)
      rw [hk] at hen hcl
      have HGS := hide (hGt2.step Bk.enc_int trivial hlx)
      have hroom := HGS.out.room HH.out.nd
      rw [List.length_append, List.length_singleton] at hroom
      have HCL := hide (show w3.heap[k]? = some (.cells #[.int .i64 no, .slice A q.nts.length cc, .int .i64 q.tr, .int .i64 q.nx] 41 (0, 0)) from by rw [hv] at hcl; exact hcl)
      have HSLR := hide hrw
      have HPO3 := hide hpo3
      have HB3 := hide hB3
      have HRG3 := hide hrg3
      have HRG2 := hide hrg2
      have HEQ := hide heq
      have HPN := hide (poN_some hq)
      have HTN := hide (tstN_some (f := (Pst.op)) hq)
      obtain ⟨n, hn⟩ : ∃ n, q.nts.length = n := ⟨_, rfl⟩
      obtain ⟨l, hl⟩ : ∃ l, q.nts = l := ⟨_, rfl⟩
      obtain ⟨tr, htr⟩ : ∃ tr, q.tr = tr := ⟨_, rfl⟩
      obtain ⟨nx, hnx⟩ : ∃ nx, q.nx = nx := ⟨_, rfl⟩
      have HNL := hide (show l.length = n by rw [← hl]; exact hn)
      have hql2 : n ≤ 100 := by omega
      have HOP := hide ho
      rw [hn, hl] at HSLR
      rw [hn, htr, hnx] at HCL
      rw [hl, htr, hnx] at HPN
      clear hkx hcy hat hlx hnot hg3 hrg3 hrg2 hB2 hB3 hpo hpo3 hGt2 hcl hrw h3 heq hql hn hl htr hnx hs3 hz2 hk hv hq ho hgo
      go_wp2_with (first | (go_at_call 39; refine (openT_any _ _).mono ?_; rintro e w4 ⟨rfl, hh⟩; have hb4 : Below w3.heap.size w3 w4 := hh ▸ Below.refl _ _; have hz41 : w.heap.size + 1 ≤ w4.heap.size := (by have := hb4.size; omega); have HB4 := hide (HB3.out.trans (hb4.mono HB3.out.size)); have HPO4 := hide (HPO3.out.below hb4); have HRG4 := hide (rng_below HRG3.out hb4); have HCL4 := hide (block_below HCL.out hb4); have HSL4 := hide (own_below HSLR.out hb4); clear hb4; clear hh))
      have hz4 := HB4.out.size
      have hc4 := HCL4.out
      have k0 : w4.cell? ⟨k, 0, none⟩ = some (.int .i64 no) := (block_cell hc4 0).trans rfl
      have k1 : w4.cell? ⟨k, 0 + 1, none⟩ = some (.slice A n cc) := (block_cell hc4 1).trans rfl
      have k2 : w4.cell? ⟨k, 0 + 2, none⟩ = some (.int .i64 tr) := (block_cell hc4 2).trans rfl
      have k3 : w4.cell? ⟨k, 0 + 3, none⟩ = some (.int .i64 nx) := (block_cell hc4 3).trans rfl
      have hk4 : k < w4.heap.size := lt_of_block hc4
      have CP := hide (copy_any (w := w4) (by omega) (by obtain ⟨A', c', e9, s9, _⟩ := sl_of_own (f := Nt.cs) (fun _ => rfl) HNL.out HSL4.out; cases e9; exact s9) hk4 k0 k1 k2 k3)
      clear hc4 k0 k1 k2 k3 hk4
      refine CP.out.mono ?_
      rintro e w5 ⟨v5, rfl, hown5, hb5⟩
      obtain ⟨A5, c5, rfl⟩ := own_sl hown5
      have HB5 := hide (HB4.out.trans (hb5.mono hz4))
      have HPO5 := hide (HPO4.out.below hb5)
      have HRG5 := hide (rng_below HRG4.out hb5)
      have HOW5 := hide (own_base9 (b' := w.heap.size + 1) hown5 (by omega))
      have hz5 := HB5.out.size
      have hz51 : w.heap.size + 1 ≤ w5.heap.size := by have := hb5.size; omega
      clear hown5 hb5
      go_wp2_with (first | (at_builtin; refine wpList_append_own_at _ rfl (.tmp 20) (.tmp 23) 36 rfl (w.heap.size + 1) 41 i0 (.agg #[.int .i64 0, .slice none 0 0, .int .i64 0, .int .i64 0]) 4 48 Tryd.underlying36 hi0 iz0 iz1 iz2 rfl (by decide) (.slice vA es.length vc) es.length (es.flatMap Po.cs) rfl (HPO5.out.row.alloc _) ⟨w5.heap.size, 0, none⟩ 1 1 [.int .i64 no, .slice A5 n c5, .int .i64 tr, .int .i64 nx] rfl rfl (cells_at _ [.int .i64 no, .slice A5 n c5, .int .i64 tr, .int .i64 nx] _ _ rfl) (by intro u hu; simp at hu; rcases hu with rfl | rfl | rfl | rfl <;> rfl) (by unfold maxLen; omega) (by omega) (by simp; omega) ?_; intro v8 w8 hown8 hg8 _ hat8; obtain ⟨A8, c8, rfl⟩ := own_sl hown8; have HREL := hide (ps_step HPO5.out HOW5.out HNL.out hown8 hg8 HB5.out hz51 HRG5.out); clear hown8 hg8 hat8))
      go_roundw
      case rel => exact ⟨_, _, ts ++ [no], es ++ [⟨no, A5, n, c5, tr, nx, l⟩], HREL.out.2.2.2, HGS.out, HREL.out.1, HREL.out.2.1, HREL.out.2.2.1, by simp; omega, by
        have hfl : (ts ++ [no]).filter (tstN s Pst.op) = ts.filter (tstN s Pst.op) ++ [no] := by rw [List.filter_append]; congr 1; simp [List.filter_cons, HTN.out, HOP.out]
        rw [List.map_append, HEQ.out, hfl, List.map_append, List.map_singleton, List.map_singleton, HPN.out]
        rfl⟩
      case measure => rw [HREL.out.2.2.2.left_eq, HRG2.out.left_eq]; exact hlt
end
section
variable {B p mb mn : Nat} {P : Pln} {s : Bx} {D : DataW Unit} {is : List Int} {gk : Int → Nat} {gv : Int → Value} {lv : Value} {w : World}
set_option maxRecDepth 100000 in
set_option maxHeartbeats 8000000 in
theorem postsD_any (hP : P.ok) (hb : BxOk P s) (h : BP B P p mb s mn D is gk gv lv w) {k1 k2 : Nat} {t : Int} (hk1 : k1 < w.heap.size) (hk2 : k2 < w.heap.size) (a1 : w.cell? ⟨k1, 0, none⟩ = some (.pointer (some ⟨p, 0, none⟩))) (a2 : w.cell? ⟨k2, 0, none⟩ = some (.int .i64 t)) :
    Calls Tryd.prog 33 #[.pointer (some ⟨p, 0, none⟩), .func (.func 34) #[] #[.pointer (some ⟨k1, 0, none⟩), .pointer (some ⟨k2, 0, none⟩)]] w fun e w' => PsA (fun q => q.op && q.cl && decide (q.nx ≤ t)) s e w w' := by
  obtain ⟨i0, hi0, iz0, iz1, iz2⟩ := info_parts9 info_pst
  obtain ⟨x0, x1, x2, x3, x4, x5, x6, x7, x8, x9⟩ := h.cells
  have HH := hide h
  have HBX := hide hb
  have hlp := h.len
  have hop := hb.op
  have hmbl : mb < w.heap.size := h.map.lt
  have hlen : is.length ≤ 500 := by omega
  have hm2 := hP.m2
  have HOF : Hid (∀ q : Pst, ((fun q => q.op && q.cl && decide (q.nx ≤ t))) q = true → q.op = true) := hide (by intro q; intro hh; have hh' : (q.op && q.cl && decide (q.nx ≤ t)) = true := hh; rw [Bool.and_eq_true, Bool.and_eq_true] at hh'; exact hh'.1.1)
  clear h hb hlp hop
  go_enter Tryd.func33, Tryd.ntmps33
  go_wp2_with (first
    | (at_range; refine wpList_range_own _ rfl _ 55 rfl 3 63 law_i Tryd.underlying55 _ mb mn _ rfl HH.out.map ?_; intro w0 hrg0 hg0 hs0)
    | go_in)
  try go_frame
  go_loopw [5] (fun v wr => PsR w mb mn D is ((fun q => q.op && q.cl && decide (q.nx ≤ t))) s v wr) (fun _ wr => wr.rangeLeft mb w.heap.size)
  case atStart =>
    exact ⟨_, _, [], [], hrg0, Got.start HH.out.mp, (Below.refl _ _).grown hg0 (Nat.le_refl _) (fun j hj => by cases hj), by omega, ⟨World.ownsRow_nil _ _ _ _, by simp⟩, by simp, rfl⟩
  case round =>
    obtain ⟨left2, cnt2, ts, es, hrg2, hGt2, hB2, hz2, hpo, hle, heq⟩ := hrel
    clear hrg0 hg0 hs0
    obtain ⟨vA, vc, rfl⟩ := own_sl hpo.row
    have htl := hGt2.room HH.out.nd
    go_wp2_with (first
      | (at_next; refine wpList_next_ranges _ rfl _ rfl 3 law_i ptE (Value.int .i64) ptV (fun key kl hk => by obtain ⟨x, e, _⟩ := keyOf_int_inv Tryd.underlying3 hk; exact ⟨x, e⟩) (fun v y hv => ptE_inv2 hv) mb w.heap.size mn _ _ _ rfl hrg2 ?_ ?_)
      | go_in)
    · intro hc0 hl2
      have HPm := hide (hGt2.done hl2 HH.out.nd)
      have HPO := hide hpo
      have HEQ := hide heq
      have HB2 := hide hB2
      have HEL := hide (show es.length ≤ 1000 by omega)
      have HND := hide (show (es.map Po.no).Nodup by
        have e1 : es.map Po.no = ts.filter (tstN s ((fun q => q.op && q.cl && decide (q.nx ≤ t)))) := by
          have := congrArg (List.map Prod.fst) heq
          rw [List.map_map, List.map_map] at this
          have e2 : (ts.filter (tstN s ((fun q => q.op && q.cl && decide (q.nx ≤ t))))).map (Prod.fst ∘ poN s) = ts.filter (tstN s ((fun q => q.op && q.cl && decide (q.nx ≤ t)))) := by
            refine (List.map_congr_left fun a _ => ?_).trans (List.map_id _)
            show (poN s a).1 = a
            unfold poN
            cases atNo s.ps a <;> rfl
          rw [e2] at this
          exact this
        rw [e1]
        exact hGt2.nd.filter _)
      clear hGt2 hpo heq hB2 hrg2 hle
      go_wp2_with (first | (go_at_call 47; refine (SortP_any HPO.out.row HEL.out HND.out).mono ?_; rintro e w7 ⟨rfl, ⟨es7, hp7, hs7, hr7⟩, hg7⟩))
      go_ret
      refine ⟨_, es7, rfl, ?_, ⟨?_, fun e he => ?_⟩, posts_of HH.out.mem HOF.out HPm.out HEQ.out hp7 hs7⟩
      · exact HB2.out.grown hg7 HB2.out.size (fun j hj => by have := (HPO.out.row.lt j hj).1; omega)
      · rw [hp7.length_eq]; exact own_base9 hr7 (by omega)
      · obtain ⟨s1, s2⟩ := HPO.out.sub e (hp7.mem_iff.1 he)
        refine ⟨s1, own_base9 (s2.kept hg7 ?_) (by omega)⟩
        cases e5 : e.sl.ownBlock with
        | none => exact .inl rfl
        | some x =>
          refine .inr fun e6 => ?_
          obtain ⟨c1, h1⟩ := row_blkC s2 e5
          obtain ⟨c2, h2⟩ := row_blkC HPO.out.row e6.symm
          rw [h1] at h2
          exact absurd (ty_eq h2) (by decide)
    · intro no c kl y1 y2 w3 cnt3 hkx hlx hcy hat hrg3 hlt hg3 hs3 hen
      obtain ⟨i2, e1, rfl, _⟩ := keyOf_int_inv Tryd.underlying3 hkx
      obtain rfl : no = i2 := by cases e1; rfl
      obtain ⟨hin, hnot⟩ := (hGt2.lf _).1 hlx
      have ec : c = some (gk no) := by
        have h1 := hat (.lit (.int .i64 0))
        rw [ptE_mk] at hcy
        rw [HH.out.mp.in_ no hin] at h1
        have h2 := congrArg Prod.fst (Option.some.inj hcy)
        simp only at h2
        rw [← h1] at h2
        simp only [DataW.lit.injEq, Lit.int.injEq, true_and] at h2
        exact Bk.ptI_inj h2
      subst ec
      simp only [ptV] at hen
      obtain ⟨q, hq, ho⟩ := (HH.out.mem no).1 hin
      have hB3 := hB2.grown hg3 hB2.size (fun j hj => by cases hj; exact Nat.le_refl _)
      have hz3 : w.heap.size + 1 ≤ w3.heap.size := by omega
      have hpo3 : PoIn (w.heap.size + 1) w3 (.slice vA es.length vc) es := hpo.keep fun k o hk ek => (hg3.block k (lt_of_block ek) (fun e => by cases e; omega)).trans ek
      have h3 := HH.out.below hB3
      have hcl := h3.cell no q hin hq
      have hrw := h3.row no q hq (op_not ho).1
      have hql := (HBX.out.ps.len q (List.mem_of_getElem? (atNo_some hq).2.1)).2
      have hgo := (op_not ho).1
      obtain ⟨A, cc, hv⟩ := own_sl hrw
      rw [hv] at hrw
      obtain ⟨k, hk⟩ : ∃ k, gk no = k := ⟨_, rfl⟩
      have hkl : k < w.heap.size := hk ▸ lt_of_block (HH.out.cell no q hin hq)
      rw [hk] at hen hcl
      have HGS := hide (hGt2.step Bk.enc_int trivial hlx)
      have hroom := HGS.out.room HH.out.nd
      rw [List.length_append, List.length_singleton] at hroom
      have HCL := hide (show w3.heap[k]? = some (.cells #[.int .i64 no, .slice A q.nts.length cc, .int .i64 q.tr, .int .i64 q.nx] 41 (0, 0)) from by rw [hv] at hcl; exact hcl)
      have HSLR := hide hrw
      have HPO3 := hide hpo3
      have HB3 := hide hB3
      have HRG3 := hide hrg3
      have HRG2 := hide hrg2
      have HEQ := hide heq
      have HPN := hide (poN_some hq)
      have HTN := hide (tstN_some (f := ((fun q => q.op && q.cl && decide (q.nx ≤ t)))) hq)
      obtain ⟨n, hn⟩ : ∃ n, q.nts.length = n := ⟨_, rfl⟩
      obtain ⟨l, hl⟩ : ∃ l, q.nts = l := ⟨_, rfl⟩
      obtain ⟨tr, htr⟩ : ∃ tr, q.tr = tr := ⟨_, rfl⟩
      obtain ⟨nx, hnx⟩ : ∃ nx, q.nx = nx := ⟨_, rfl⟩
      have HNL := hide (show l.length = n by rw [← hl]; exact hn)
      have hql2 : n ≤ 100 := by omega
      have hgi := gatI_iff HBX.out.ps hq
      have HDT := hide (show dueT (gatI s.ps) t no q.nx = (q.op && q.cl && decide (q.nx ≤ t)) by
        unfold dueT
        rw [ho]
        by_cases e : no = gatI s.ps
        · rw [hgi.1 e]; simp [e]
        · have : q.cl = true := by
            cases e2 : q.cl with
            | true => rfl
            | false => exact absurd (hgi.2 e2) e
          simp [e, this])
      rw [hnx] at HDT
      have HTN := hide (HTN.out.trans (show (fun q => q.op && q.cl && decide (q.nx ≤ t)) q = (q.op && q.cl && decide (nx ≤ t)) by rw [← hnx]))
      have CT := hide (dueT_any (w := w3) (t := t) ((block_cell HCL.out 0).trans rfl) ((block_cell HCL.out 3).trans rfl) ((hB3.cell (p := ⟨p, 5, none⟩) (lt_of_block HH.out.box)).trans x5) ((hB3.cell (p := ⟨k1, 0, none⟩) hk1).trans a1) ((hB3.cell (p := ⟨k2, 0, none⟩) hk2).trans a2))
      rw [hnx, HDT.out] at CT
      clear hgi HDT
      obtain ⟨tb, htb⟩ : ∃ tb, (q.op && q.cl && decide (nx ≤ t)) = tb := ⟨_, rfl⟩
      rw [htb] at CT HTN
      clear htb
      rw [hn, hl] at HSLR
      rw [hn, htr, hnx] at HCL
      rw [hl, htr, hnx] at HPN
      clear hkx hcy hat hlx hnot hg3 hrg3 hrg2 hB2 hB3 hpo hpo3 hGt2 hcl hrw h3 heq hql hn hl htr hnx hs3 hz2 hk hv hq ho hgo
      cases tb with
      | true =>
        go_wp2_with (first | (go_at_call 34; refine CT.out.mono ?_; rintro e w4 ⟨rfl, hb4⟩; have hz41 : w.heap.size + 1 ≤ w4.heap.size := (by have := hb4.size; omega); have HB4 := hide (HB3.out.trans (hb4.mono HB3.out.size)); have HPO4 := hide (HPO3.out.below hb4); have HRG4 := hide (rng_below HRG3.out hb4); have HCL4 := hide (block_below HCL.out hb4); have HSL4 := hide (own_below HSLR.out hb4); clear hb4))
        have hz4 := HB4.out.size
        have hc4 := HCL4.out
        have k0 : w4.cell? ⟨k, 0, none⟩ = some (.int .i64 no) := (block_cell hc4 0).trans rfl
        have k1 : w4.cell? ⟨k, 0 + 1, none⟩ = some (.slice A n cc) := (block_cell hc4 1).trans rfl
        have k2 : w4.cell? ⟨k, 0 + 2, none⟩ = some (.int .i64 tr) := (block_cell hc4 2).trans rfl
        have k3 : w4.cell? ⟨k, 0 + 3, none⟩ = some (.int .i64 nx) := (block_cell hc4 3).trans rfl
        have hk4 : k < w4.heap.size := lt_of_block hc4
        have CP := hide (copy_any (w := w4) (by omega) (by obtain ⟨A', c', e9, s9, _⟩ := sl_of_own (f := Nt.cs) (fun _ => rfl) HNL.out HSL4.out; cases e9; exact s9) hk4 k0 k1 k2 k3)
        clear hc4 k0 k1 k2 k3 hk4
        refine CP.out.mono ?_
        rintro e w5 ⟨v5, rfl, hown5, hb5⟩
        obtain ⟨A5, c5, rfl⟩ := own_sl hown5
        have HB5 := hide (HB4.out.trans (hb5.mono hz4))
        have HPO5 := hide (HPO4.out.below hb5)
        have HRG5 := hide (rng_below HRG4.out hb5)
        have HOW5 := hide (own_base9 (b' := w.heap.size + 1) hown5 (by omega))
        have hz5 := HB5.out.size
        have hz51 : w.heap.size + 1 ≤ w5.heap.size := by have := hb5.size; omega
        clear hown5 hb5
        go_wp2_with (first | (at_builtin; refine wpList_append_own_at _ rfl (.tmp 20) (.tmp 23) 36 rfl (w.heap.size + 1) 41 i0 (.agg #[.int .i64 0, .slice none 0 0, .int .i64 0, .int .i64 0]) 4 48 Tryd.underlying36 hi0 iz0 iz1 iz2 rfl (by decide) (.slice vA es.length vc) es.length (es.flatMap Po.cs) rfl (HPO5.out.row.alloc _) ⟨w5.heap.size, 0, none⟩ 1 1 [.int .i64 no, .slice A5 n c5, .int .i64 tr, .int .i64 nx] rfl rfl (cells_at _ [.int .i64 no, .slice A5 n c5, .int .i64 tr, .int .i64 nx] _ _ rfl) (by intro u hu; simp at hu; rcases hu with rfl | rfl | rfl | rfl <;> rfl) (by unfold maxLen; omega) (by omega) (by simp; omega) ?_; intro v8 w8 hown8 hg8 _ hat8; obtain ⟨A8, c8, rfl⟩ := own_sl hown8; have HREL := hide (ps_step HPO5.out HOW5.out HNL.out hown8 hg8 HB5.out hz51 HRG5.out); clear hown8 hg8 hat8))
        go_roundw
        case rel => exact ⟨_, _, ts ++ [no], es ++ [⟨no, A5, n, c5, tr, nx, l⟩], HREL.out.2.2.2, HGS.out, HREL.out.1, HREL.out.2.1, HREL.out.2.2.1, by simp; omega, by
          have hfl : (ts ++ [no]).filter (tstN s (fun q => q.op && q.cl && decide (q.nx ≤ t))) = ts.filter (tstN s (fun q => q.op && q.cl && decide (q.nx ≤ t))) ++ [no] := by rw [List.filter_append]; congr 1; simp [List.filter_cons, HTN.out]
          rw [List.map_append, HEQ.out, hfl, List.map_append, List.map_singleton, List.map_singleton, HPN.out]
          rfl⟩
        case measure => rw [HREL.out.2.2.2.left_eq, HRG2.out.left_eq]; exact hlt
      | false =>
        go_wp2_with (first | (go_at_call 34; refine CT.out.mono ?_; rintro e w4 ⟨rfl, hb4⟩; have hz41 : w.heap.size + 1 ≤ w4.heap.size := (by have := hb4.size; omega); have HB4 := hide (HB3.out.trans (hb4.mono HB3.out.size)); have HPO4 := hide (HPO3.out.below hb4); have HRG4 := hide (rng_below HRG3.out hb4); have HCL4 := hide (block_below HCL.out hb4); have HSL4 := hide (own_below HSLR.out hb4); clear hb4))
        go_roundw
        case rel => exact ⟨_, _, ts ++ [no], es, HRG4.out, HGS.out, HB4.out, by have := HB4.out.size; omega, HPO4.out, by simp; omega, by
          have hfl : (ts ++ [no]).filter (tstN s (fun q => q.op && q.cl && decide (q.nx ≤ t))) = ts.filter (tstN s (fun q => q.op && q.cl && decide (q.nx ≤ t))) := by rw [List.filter_append]; simp [List.filter_cons, HTN.out]
          rw [HEQ.out, hfl]⟩
        case measure => rw [HRG4.out.left_eq, HRG2.out.left_eq]; exact hlt
end
end Go.Proofs.YtnkccilgbhogbaaDoor
