/- The reference's book: Groups. -/
import Derived.Test.YtapfcnfmonknjaaGreatDoorRbS
import Derived.Test.YtapfcnfmonknjaaGreatDoorRegChain
import Derived.Deep.Onto
import Derived.ProofKit
import Derived.BigRegion
namespace Go.Proofs.YtapfcnfmonknjaaGreatDoor.Bk
open Go.RowKit Go.Maps Go.Sort
set_option linter.unusedVariables false
set_option linter.unusedSimpArgs false
/-- What the outer loop keeps: groups 1 .. j are told. -/
def RgE (w : World) (lr : List Pr) (j : Nat) (es : List Ge) (v : Value) (wr : World) : Prop := wr.ownsRow w.heap.size 44 6 v es.length (es.flatMap Ge.cs) ∧ (es.map fun e => grO e.id lr) = grsF lr j ∧
  (∀ e ∈ es, e.ev = (grO e.id lr).ev ∧ e.wt = (grO e.id lr).wt ∧ e.fi = (grO e.id lr).fi ∧ e.la = (grO e.id lr).la) ∧ (∀ e ∈ es, wr.ownsRow w.heap.size 9 1 e.sl (grO e.id lr).ps.length ((grO e.id lr).ps.map encStr)) ∧ es.length ≤ j ∧ Below w.heap.size w wr
def RgO (w : World) (lr : List Pr) (j : Nat) (v : Value) (wr : World) : Prop := ∃ es : List Ge, RgE w lr j es v wr
/-- What the inner loop keeps: the group of what came. -/
def RgI (wo : World) (id : Int) (lr : List Pr) (i : Nat) (wr : World) : Prop := ∃ v, wr.heap[wo.heap.size]? = some (.cells ((rawG id (lr.take i)).arr v) 44 (0, 0)) ∧
  wr.ownsRow wo.heap.size 9 1 v (rawG id (lr.take i)).ps.length ((rawG id (lr.take i)).ps.map encStr) ∧ Below wo.heap.size wo wr
section
variable {w wo wr : World} {lr : List Pr} {j : Nat} {v : Value}
theorem RgO.below (h : RgO w lr j v wo) (hb : Below wo.heap.size wo wr) : RgO w lr j v wr := by
  obtain ⟨es, h1, h2, h3, h4, h5, h6⟩ := h
  exact ⟨es, own_below h1 hb, h2, h3, fun e he => own_below (h4 e he) hb, h5, h6.trans (hb.mono h6.size)⟩
theorem RgO.skip (h : RgO w lr j v wo) (hn : (rawG ((j : Int) + 1) lr).ps = []) : RgO w lr (j + 1) v wo := by
  obtain ⟨es, h1, h2, h3, h4, h5, h6⟩ := h
  exact ⟨es, h1, by rw [grsF_succ, if_pos (show pid ((j : Int) + 1) lr = [] from hn), List.append_nil]; exact h2, h3, h4, by omega, h6⟩
theorem Up.grO (h : Up lr) (id : Int) : grO id lr = rawG id lr := by
  have e : srtP (rawG id lr).ps = (rawG id lr).ps := (h.pid id).symm
  show ({ rawG id lr with ps := srtP (rawG id lr).ps } : Gr) = _
  rw [e]
theorem RgE.push {es : List Ge} (h : RgE w lr j es v wo) (hu : Up lr) {A : Option Addr} {n c : Nat} {G : Gr} (hG : rawG ((j : Int) + 1) lr = G) (hne : G.ps ≠ []) {w8 : World} {o8 : Obj} {v8 : Value}
    (hrow : wo.ownsRow w.heap.size 9 1 (.slice A n c) G.ps.length (G.ps.map encStr)) (hg : (wo.alloc o8).grownBy w8 v.ownBlock)
    (hown : w8.ownsRow w.heap.size 44 6 v8 (es.length + 1) (es.flatMap Ge.cs ++ [.int .i64 G.id, .slice A n c, .int .i64 G.ev, .int .i64 G.wt, .int .i64 G.fi, .int .i64 G.la])) : RgO w lr (j + 1) v8 w8 := by
  obtain ⟨h1, h2, h3, h4, h5, h6⟩ := h
  have hz := hg.size
  have hzz : (wo.alloc o8).heap.size = wo.heap.size + 1 := by simp
  have hst : ∀ k o, wo.heap[k]? = some o → v.ownBlock ≠ some k → w8.heap[k]? = some o := fun k o e ne => (hg.block k (by have := lt_of_block e; omega) (fun e2 => ne e2.symm)).trans (block_below e ((Below.refl _ _).alloc (Nat.le_refl _) o8))
  have hne2 : ∀ (A' : Value) (n' : Nat) (xs' : List Value), wo.ownsRow w.heap.size 9 1 A' n' xs' → w8.ownsRow w.heap.size 9 1 A' n' xs' := fun A' n' xs' ho => own_stayB ho fun k o e eo => hst k o eo fun e2 => by
    obtain ⟨c1, q1⟩ := row_blkB ho e
    obtain ⟨c2, q2⟩ := row_blkB h1 e2
    rw [q1] at q2
    cases q2
  have hid : G.id = (j : Int) + 1 := by rw [← hG]; rfl
  have hgO : grO G.id lr = G := by rw [hid, hu.grO, hG]
  refine ⟨es ++ [⟨G.id, A, n, c, G.ev, G.wt, G.fi, G.la⟩], ?_, ?_, fun e he => ?_, fun e he => ?_, by simp; omega, ?_⟩
  · rw [List.length_append, List.length_singleton, List.flatMap_append, List.flatMap_singleton]
    exact hown
  · rw [List.map_append, h2, grsF_succ, if_neg (show ¬ pid ((j : Int) + 1) lr = [] from fun e => hne (by rw [← hG]; exact e)), List.map_singleton]
    show grsF lr j ++ [grO G.id lr] = _
    rw [hgO, hG]
  · rcases List.mem_append.1 he with he | he
    · exact h3 e he
    · rw [List.mem_singleton.1 he]
      show G.ev = (grO G.id lr).ev ∧ G.wt = (grO G.id lr).wt ∧ G.fi = (grO G.id lr).fi ∧ G.la = (grO G.id lr).la
      rw [hgO]
      exact ⟨rfl, rfl, rfl, rfl⟩
  · rcases List.mem_append.1 he with he | he
    · exact hne2 _ _ _ (h4 e he)
    · rw [List.mem_singleton.1 he]
      show w8.ownsRow _ _ _ _ (grO G.id lr).ps.length ((grO G.id lr).ps.map encStr)
      rw [hgO]
      exact hne2 _ _ _ hrow
  · exact (h6.alloc h6.size o8).grown hg (by have := h6.size; omega) (fun k hk => (h1.lt k hk).1)
theorem RgI.start (id : Int) : RgI wo id lr 0 (wo.alloc (.cells #[.int .i64 id, .slice none 0 0, .int .i64 0, .int .i64 0, .int .i64 0, .int .i64 0] 44)) :=
  ⟨.slice none 0 0, heap_alloc_new wo _, World.ownsRow_nil _ _ _ _, (Below.refl _ _).alloc (Nat.le_refl _) _⟩
theorem rawG_no {id : Int} {i : Nat} {r : Pr} (h : lr[i]? = some r) (hr : r.g ≠ id) : rawG id (lr.take (i + 1)) = rawG id (lr.take i) := by rw [take_succ_get h, rawG_other _ hr]
theorem pid_no9 {id : Int} {m : List Pr} (h : (rawG id m).ps = []) : ¬ ∃ x ∈ m, x.g = id := by
  rintro ⟨x, hx, e⟩
  have h9 : x.p ∈ (rawG id m).ps := List.mem_map.2 ⟨x, List.mem_filter.2 ⟨hx, by simpa using e⟩, rfl⟩
  rw [h] at h9
  simp at h9
theorem rawG_first {i : Nat} {r : Pr} (h : lr[i]? = some r) (hn : (rawG r.g (lr.take i)).ps = []) : rawG r.g (lr.take (i + 1)) = ⟨r.g, [r.p], r.ev, r.wt, r.fi, r.la⟩ ∧ rawG r.g (lr.take i) = ⟨r.g, [], 0, 0, 0, 0⟩ := by
  refine ⟨by rw [take_succ_get h, rawG_new _ _ (pid_no9 hn)], ?_⟩
  simp [rawG, ofG_none (pid_no9 hn), sumL, mnL, mxL]
theorem rawG_next {i : Nat} {r : Pr} (h : lr[i]? = some r) (hn : (rawG r.g (lr.take i)).ps ≠ []) : rawG r.g (lr.take (i + 1)) = addG (rawG r.g (lr.take i)) r := by
  have hm : ∃ x ∈ lr.take i, x.g = r.g := by
    obtain ⟨s, hs⟩ := List.exists_mem_of_ne_nil _ hn
    obtain ⟨x, hx, _⟩ := List.mem_map.1 hs
    obtain ⟨h1, h2⟩ := List.mem_filter.1 hx
    exact ⟨x, h1, by simpa using h2⟩
  rw [take_succ_get h, rawG_same _ _ hm]
  rfl
end
theorem app_keep {w w8 : World} {o2 : Obj} {v : Value} (hg8 : (w.alloc o2).grownBy w8 v.ownBlock) : ∀ j o, w.heap[j]? = some o → v.ownBlock ≠ some j → w8.heap[j]? = some o :=
  fun j o e ne => (hg8.block j (by have := lt_of_block e; simp; omega) (fun e2 => ne e2.symm)).trans (block_below e ((Below.refl _ _).alloc (Nat.le_refl _) _))
theorem new_below {w w8 : World} {B : Nat} {o1 o2 : Obj} {v : Value} (hB : B ≤ w.heap.size) (hlo : ∀ j, v.ownBlock = some j → B ≤ j) (hg8 : ((w.alloc o1).alloc o2).grownBy w8 v.ownBlock) : Below B w w8 :=
  (((Below.refl B w).alloc hB o1).alloc (by simp; omega) o2).grown hg8 (by simp; omega) hlo
theorem rgi_fin {wo wr w8 V4 : World} {lr : List Pr} {id : Int} {i n c8 : Nat} {gps : List (List UInt8)} {rp : List UInt8} {A8 : Option Addr} {G : Gr} (hB : Below wo.heap.size wo wr) (hB8 : Below wo.heap.size wr w8) (hR8 : w8.ownsRow wo.heap.size 9 1 (.slice A8 (n + 1) c8) (n + 1) (gps.map encStr ++ [.string ⟨rp.toArray⟩]))
    (hnn : gps.length = n) (hQ8 : ∃ cs, w8.heap[wo.heap.size]? = some (.cells cs 44 (0, 0))) (hQ4 : V4.heap[wo.heap.size]? = some (.cells (G.arr (.slice A8 (n + 1) c8)) 44 (0, 0))) (hO4 : ∀ j o, w8.heap[j]? = some o → j ≠ wo.heap.size → V4.heap[j]? = some o) (hB4 : Below wo.heap.size w8 V4)
    (hG : rawG id (lr.take (i + 1)) = G) (hps : G.ps = gps ++ [rp]) : RgI wo id lr (i + 1) V4 := by
  obtain ⟨cs, hQ8⟩ := hQ8
  refine ⟨.slice A8 (n + 1) c8, by rw [hG]; exact hQ4, ?_, (hB.trans hB8).trans hB4⟩
  rw [hG, hps, List.length_append, List.length_singleton, hnn, List.map_append, List.map_singleton]
  exact own_stayB hR8 fun k o e eo => hO4 k o eo fun e2 => own_other' hR8 hQ8 (by decide) (by rw [e, e2])
set_option maxRecDepth 100000 in
set_option maxHeartbeats 16000000 in
theorem RGroups_any {B q : Nat} {k : Nat} {lv sv : Value} {lr : List Pr} {w : World} (h : RM B w q lv (k : Int) sv lr) (hu : Up lr) (hl : lr.length ≤ 1000) (hk : k ≤ 1000) (hok : ∀ r ∈ lr, PrOk r) (hg : ∀ r ∈ lr, 1 ≤ r.g ∧ r.g ≤ k) :
    Calls Tryz.prog 17 #[.pointer (some ⟨q, 0, none⟩)] w fun e w' => ∃ v es, e = .returned v ∧ GrsIn w.heap.size w' v lr es ∧ Below w.heap.size w w' := by
  obtain ⟨i0, hi0, iz0, iz1, iz2⟩ := info_parts info_strg
  obtain ⟨i1, hi1, iz3, iz4, iz5⟩ := info_parts info_grp
  obtain ⟨LA, lc, rfl, hsl, _⟩ := sl_of_own (f := Rr) (sz := 6) (fun _ => rfl) rfl h.row
  have HH := hide h
  have HSL := hide hsl
  have HU := hide hu
  have HOK := hide hok
  have HG := hide hg
  have hqw := lt_of_block h.box
  clear h hsl hu hok hg
  go_enter Tryz.func17, Tryz.ntmps17
  go_wp2_with (fail)
  go_loopw [3, 4] (fun v ti wr => ∃ j : Nat, j ≤ k ∧ ti = .int .i64 ((j : Int) + 1) ∧ RgO w lr j v wr) (fun _ ti _ => k + 1 - (intOf ti).toNat)
  case atStart => exact ⟨0, Nat.zero_le _, rfl, [], World.ownsRow_nil _ _ _ _, by simp [grsF], by simp, by simp, Nat.le_refl _, Below.refl _ _⟩
  case round =>
    obtain ⟨j, hj, rfl, hO⟩ := hrel
    rename World => wo
    have HO := hide hO
    have hBo : Below w.heap.size w wo := by obtain ⟨_, _, _, _, _, _, hb⟩ := hO; exact hb
    have hzo := hBo.size
    have hM := HH.out.below hBo
    have x0 : wo.cell? ⟨q, 0, none⟩ = some (.slice LA lr.length lc) := (block_cell hM.box 0).trans rfl
    have x1 : wo.cell? ⟨q, 1, none⟩ = some (.int .i64 (k : Int)) := (block_cell hM.box 1).trans rfl
    have HSO := hide (HSL.out.below hBo)
    clear hM hBo hO
    by_cases hjk : j < k
    · have hjk' : ((j : Int) + 1) ≤ (k : Int) := by omega
      have HST := hide (RgI.start (wo := wo) (lr := lr) ((j : Int) + 1))
      go_wp2_with (fail)
      go_loopw [23] (fun ti wr => ∃ i : Nat, i ≤ lr.length ∧ ti = .int .i64 (i : Int) ∧ RgI wo ((j : Int) + 1) lr i wr) (fun ti _ => lr.length - (intOf ti).toNat)
      case atStart => exact ⟨0, Nat.zero_le _, rfl, HST.out⟩
      case round =>
        obtain ⟨i, hi, rfl, v, hbk, hrw, hB⟩ := hrel
        have hz := hB.size
        have hzq := lt_of_block hbk
        by_cases hil : i < lr.length
        · obtain ⟨bb, oo, r, hA, hbb, hx, hc⟩ := (HSO.out.below (hB.mono hzo)).at_ hil
          have c0 : wr.cell? ⟨bb, oo + i * 6, none⟩ = some (.string ⟨r.p.toArray⟩) := by simpa using hc 0 _ rfl
          have c1 : wr.cell? ⟨bb, oo + i * 6 + 1, none⟩ = some (.int .i64 r.ev) := hc 1 _ rfl
          have c2 : wr.cell? ⟨bb, oo + i * 6 + 2, none⟩ = some (.int .i64 r.wt) := hc 2 _ rfl
          have c3 : wr.cell? ⟨bb, oo + i * 6 + 3, none⟩ = some (.int .i64 r.fi) := hc 3 _ rfl
          have c4 : wr.cell? ⟨bb, oo + i * 6 + 4, none⟩ = some (.int .i64 r.la) := hc 4 _ rfl
          have c5 : wr.cell? ⟨bb, oo + i * 6 + 5, none⟩ = some (.int .i64 r.g) := hc 5 _ rfl
          have hil' : (i : Int) < (lr.length : Int) := by omega
          have HX := hide hx
          have HB := hide hB
          have HBK := hide hbk
          have HRW := hide hrw
          have hrl := lr.take i
          have hrm := List.mem_of_getElem? hx
          have hok := HOK.out r hrm
          have hpl := rawG_len ((j : Int) + 1) (lr.take i)
          have hrg := rawG_rng (m := lr.take i) (fun y hy => HOK.out y (List.mem_of_mem_take hy)) (by rw [List.length_take]; omega) ((j : Int) + 1)
          rw [List.length_take] at hpl
          have hev := hok.ev
          have hwt := hok.wt
          clear hc hx hB hbk hrw hrm hrl hok
          subst hA
          obtain ⟨rp, rg, rv, rw_, rf, rl⟩ := r
          simp only at hev hwt c0 c1 c2 c3 c4 c5
          by_cases hI : rg = (j : Int) + 1
          · subst hI
            obtain ⟨A, c, rfl⟩ := own_sl HRW.out
            obtain ⟨G, hG⟩ : ∃ G, rawG ((j : Int) + 1) (lr.take i) = G := ⟨_, rfl⟩
            have HFIR := hide (rawG_first (lr := lr) HX.out)
            have HNXT := hide (rawG_next (lr := lr) HX.out)
            have hid : G.id = (j : Int) + 1 := by rw [← hG]; rfl
            simp only at HFIR HNXT
            rw [hG] at HRW HBK hpl hrg HFIR HNXT
            obtain ⟨gi, gps, ge, gw, gf, gl⟩ := G
            simp only at hid hrg hpl HRW HFIR HNXT
            subst hid
            obtain ⟨nn, hnn⟩ : ∃ nn, gps.length = nn := ⟨_, rfl⟩
            rw [hnn] at HRW HBK hpl
            have hkq : wr.heap.size ≠ wo.heap.size := by omega
            have hkq2 : wo.heap.size ≠ wr.heap.size := by omega
            have HBK := hide (show wr.heap[wo.heap.size]? = some (.cells #[.int .i64 ((j : Int) + 1), .slice A nn c, .int .i64 ge, .int .i64 gw, .int .i64 gf, .int .i64 gl] 44 (0, 0)) from HBK.out)
            have g1 : wr.cell? ⟨wo.heap.size, 1, none⟩ = some (.slice A nn c) := (block_cell HBK.out 1).trans rfl
            have HSQ := hide (own_other' HRW.out HBK.out (by decide))
            have HNN := hide hnn
            have hnl : nn ≤ 1000 := by omega
            clear hG hnn
            by_cases hn0 : nn = 0
            · subst hn0
              have f4 : wr.frozen? ⟨wo.heap.size, 4, none⟩ = false := block_free HBK.out 4
              have f5 : wr.frozen? ⟨wo.heap.size, 5, none⟩ = false := block_free HBK.out 5
              have g4 : wr.cell? ⟨wo.heap.size, 4, none⟩ = some (.int .i64 gf) := (block_cell HBK.out 4).trans rfl
              have g5 : wr.cell? ⟨wo.heap.size, 5, none⟩ = some (.int .i64 gl) := (block_cell HBK.out 5).trans rfl
              go_wp2_with (fail)
              have HSS := hide (show ∀ V : World, V.heap[wr.heap.size]? = some (.cells #[.string ⟨rp.toArray⟩, .int .i64 rv, .int .i64 rw_, .int .i64 rf, .int .i64 rl, .int .i64 ((j : Int) + 1)] 64 (0, 0)) → (fun V => V.cell? ⟨wr.heap.size, 3, none⟩ = some (.int .i64 rf) ∧ V.cell? ⟨wr.heap.size, 4, none⟩ = some (.int .i64 rl)) V from fun V h9 => ⟨(block_cell h9 3).trans rfl, (block_cell h9 4).trans rfl⟩)
              obtain ⟨V0, hV0⟩ : ∃ V0, wr.alloc (.cells #[.string ⟨rp.toArray⟩, .int .i64 rv, .int .i64 rw_, .int .i64 rf, .int .i64 rl, .int .i64 ((j : Int) + 1)] 64) = V0 := ⟨_, rfl⟩
              have HK0 : V0.heap[wr.heap.size]? = some (.cells #[.string ⟨rp.toArray⟩, .int .i64 rv, .int .i64 rw_, .int .i64 rf, .int .i64 rl, .int .i64 ((j : Int) + 1)] 64 (0, 0)) := hV0 ▸ heap_alloc_new wr _
              have HQ0 := hide (show V0.heap[wo.heap.size]? = some (.cells #[.int .i64 ((j : Int) + 1), .slice A 0 c, .int .i64 ge, .int .i64 gw, .int .i64 gf, .int .i64 gl] 44 (0, 0)) from hV0 ▸ block_below HBK.out ((Below.refl _ _).alloc (Nat.le_refl _) _))
              have HO0 := hide (show ∀ j o, wr.heap[j]? = some o → V0.heap[j]? = some o from fun j o e => hV0 ▸ block_below e ((Below.refl _ _).alloc (Nat.le_refl _) _))
              have HB0 := hide (show Below wo.heap.size wr V0 from hV0 ▸ (Below.refl _ _).alloc hz _)
              have f4 : V0.frozen? ⟨wo.heap.size, 4, none⟩ = false := block_free HQ0.out 4
              have f5 : V0.frozen? ⟨wo.heap.size, 5, none⟩ = false := block_free HQ0.out 5
              have g4 : V0.cell? ⟨wo.heap.size, 4, none⟩ = some (.int .i64 gf) := (block_cell HQ0.out 4).trans rfl
              have g5 : V0.cell? ⟨wo.heap.size, 5, none⟩ = some (.int .i64 gl) := (block_cell HQ0.out 5).trans rfl
              have g1 : V0.cell? ⟨wo.heap.size, 1, none⟩ = some (.slice A 0 c) := (block_cell HQ0.out 1).trans rfl
              have e0 : V0.cell? ⟨wr.heap.size, 0, none⟩ = some (.string ⟨rp.toArray⟩) := (block_cell HK0 0).trans rfl
              refine wp_region_chain (fun V => V.cell? ⟨wr.heap.size, 3, none⟩ = some (.int .i64 rf) ∧ V.cell? ⟨wr.heap.size, 4, none⟩ = some (.int .i64 rl)) 7 (by as_aux_lemma => kernel_rfl) (N := 8) (by as_aux_lemma => kernel_rfl) ?_; intro hsh
              rw [hV0]
              have HS0 := HSS.out V0.drew HK0
              have HSA := HSS.out ((V0.drew).setCell ⟨wo.heap.size, 4, none⟩ (.int .i64 rf)) (block_set_other HK0 _ _ hkq)
              refine wpAnyC_take0 (i := 0) (k := 7) (v := ?_) (d := some 35) rfl (by rfl) (by as_aux_lemma => kernel_rfl) (by as_aux_lemma => kernel_rfl) (by as_aux_lemma => kernel_rfl) hsh (by decide) (by intro _ _ _ h; exact h) (by assumption) (Or.inl ⟨by rfl, ?hy⟩) ?_; (case hy => (intro W _; go_simp; (try with_reducible rfl))); clear hsh; intro hsh
              refine wpAnyC_take (i := 1) (k := 7) (f := 40) (v := ?_) (d := some 36) rfl (by rfl) (by as_aux_lemma => kernel_rfl) (by as_aux_lemma => kernel_rfl) (by as_aux_lemma => kernel_rfl) hsh (by decide) (by as_aux_lemma => kernel_rfl) (by intro _ _ _ h; exact h) (by assumption) (Or.inl ⟨by rfl, ?hy⟩) ?_; (case hy => (rintro W ⟨b1, b2⟩; go_simp; (try with_reducible rfl))); clear hsh; intro hsh
              refine wpAnyC_take0 (i := 2) (k := 7) (v := ?_) (d := some 37) rfl (by rfl) (by as_aux_lemma => kernel_rfl) (by as_aux_lemma => kernel_rfl) (by as_aux_lemma => kernel_rfl) hsh (by decide) (by intro _ _ _ h; exact h) (by assumption) (Or.inl ⟨by rfl, ?hy⟩) ?_; (case hy => (intro W _; go_simp; (try with_reducible rfl))); clear hsh; intro hsh
              refine wpAnyC_take (i := 3) (k := 7) (f := 40) (v := ?_) (d := some 38) rfl (by rfl) (by as_aux_lemma => kernel_rfl) (by as_aux_lemma => kernel_rfl) (by as_aux_lemma => kernel_rfl) hsh (by decide) (by as_aux_lemma => kernel_rfl) (by intro _ _ _ h; exact h) (by assumption) (Or.inl ⟨by rfl, ?hy⟩) ?_; (case hy => (rintro W ⟨b1, b2⟩; go_simp; (try with_reducible rfl))); clear hsh; intro hsh
              refine wpAnyC_take0 (i := 4) (k := 7) (v := ?_) (d := some 39) rfl (by rfl) (by as_aux_lemma => kernel_rfl) (by as_aux_lemma => kernel_rfl) (by as_aux_lemma => kernel_rfl) hsh (by decide) (by intro _ _ _ h; exact h) (by assumption) (Or.inl ⟨by rfl, ?hy⟩) ?_; (case hy => (intro W _; go_simp; (try with_reducible rfl))); clear hsh; intro hsh
              refine wpAnyC_ready (rs := [5]) (by as_aux_lemma => kernel_rfl) (by simp) ?_; refine AllC.cons (i := 5) rfl (by as_aux_lemma => kernel_rfl) hsh (fun K hK => ?_) AllC.nil
              go_simp
              refine hK _ _ (fun _ => HSA) ?_
              clear hK K hsh
              intro hsh
              refine wpAnyC_take0 (i := 6) (k := 7) (v := ?_) (d := some 40) rfl (by rfl) (by as_aux_lemma => kernel_rfl) (by as_aux_lemma => kernel_rfl) (by as_aux_lemma => kernel_rfl) hsh (by decide) (by intro _ _ _ h; exact h) (by assumption) (Or.inl ⟨by rfl, ?hy⟩) ?_; (case hy => (intro W _; go_simp; (try with_reducible rfl))); clear hsh; intro hsh
              refine wpAnyC_tail (by as_aux_lemma => kernel_rfl) (by simp) (by as_aux_lemma => kernel_rfl) ?_; simp only [List.drop_succ_cons, List.drop_zero]; clear hsh
              go_simp
              clear HS0 HSA
              go_wp2_with (first | (at_builtin; obtain ⟨V1, hV1⟩ : ∃ V, ((V0.setCell ⟨wo.heap.size, 4, none⟩ (.int .i64 rf)).setCell ⟨wo.heap.size, 5, none⟩ (.int .i64 rl)).drew = V := ⟨_, rfl⟩; have hQ1 : V1.heap[wo.heap.size]? = some (.cells #[.int .i64 ((j : Int) + 1), .slice A 0 c, .int .i64 ge, .int .i64 gw, .int .i64 rf, .int .i64 rl] 44 (0, 0)) := hV1 ▸ block_set (block_set HQ0.out _) _; have hO1 : ∀ j o, wr.heap[j]? = some o → j ≠ wo.heap.size → V1.heap[j]? = some o := fun j o e ne => hV1 ▸ block_set_other (block_set_other (HO0.out _ _ e) _ _ ne) _ _ ne; have hK1 : V1.heap[wr.heap.size]? = some (.cells #[.string ⟨rp.toArray⟩, .int .i64 rv, .int .i64 rw_, .int .i64 rf, .int .i64 rl, .int .i64 ((j : Int) + 1)] 64 (0, 0)) := hV1 ▸ block_set_other (block_set_other HK0 _ _ hkq) _ _ hkq; have hB1 : Below wo.heap.size wr V1 := hV1 ▸ (((HB0.out.setCell (p := ⟨wo.heap.size, 4, none⟩) (Nat.le_refl _) _).setCell (p := ⟨wo.heap.size, 5, none⟩) (Nat.le_refl _) _).drew); have hz1 := hB1.size; have hVS : V1.heap.size = V0.heap.size := (by rw [← hV1]; simp); have hR1 : V1.ownsRow wo.heap.size 9 1 (.slice A 0 c) 0 (gps.map encStr) := own_stayB HRW.out fun k o e eo => hO1 k o eo (fun e2 => HSQ.out (by rw [e, e2])); have hr1 := hR1.lt; have HSK1 := hide (own_other' hR1 hK1 (by decide)); rw [show (((V0.setCell ⟨wo.heap.size, 4, none⟩ (.int .i64 rf)).setCell ⟨wo.heap.size, 5, none⟩ (.int .i64 rl)).alloc (.cells #[.string ⟨rp.toArray⟩] 9)).drew = (((V0.setCell ⟨wo.heap.size, 4, none⟩ (.int .i64 rf)).setCell ⟨wo.heap.size, 5, none⟩ (.int .i64 rl)).drew).alloc (.cells #[.string ⟨rp.toArray⟩] 9) from rfl, hV1]; clear hV1; refine wpList_append_own_at _ rfl (.tmp 42) (.tmp 45) 30 rfl wo.heap.size 9 i0 (.string ByteArray.empty) 1 16 Tryz.underlying30 hi0 iz0 iz1 iz2 rfl (by decide) (.slice A 0 c) 0 (gps.map encStr) rfl (hR1.alloc _) ⟨V0.heap.size, 0, none⟩ 1 1 [.string ⟨rp.toArray⟩] (by go_simp) rfl (by have h9 := cell_one_new V1 (.string ⟨rp.toArray⟩) 9; rw [hVS] at h9; simpa using h9) (by intro u hu; simp at hu; subst hu; rfl) (by unfold maxLen; omega) (by omega) (by simp; omega) ?_; intro v8 w8 hown8 hg8 _ hat8; obtain ⟨A8, c8, rfl⟩ := own_sl hown8; have HO8 := hide (app_keep hg8); have HB8 := hide (hB1.trans (((Below.refl wo.heap.size V1).alloc (by omega) _).grown hg8 (by simp; omega) (fun j hj => (hr1 j hj).1))); have HK8 := hide (HO8.out _ _ hK1 HSK1.out); have HQ8 := hide (HO8.out _ _ hQ1 HSQ.out); have HR8 := hide hown8; clear hown8 hg8 hat8 hQ1 hK1 hO1 hR1 hB1 hr1; have f1 : w8.frozen? ⟨wo.heap.size, 1, none⟩ = false := block_free HQ8.out 1; have f2 : w8.frozen? ⟨wo.heap.size, 2, none⟩ = false := block_free HQ8.out 2; have f3 : w8.frozen? ⟨wo.heap.size, 3, none⟩ = false := block_free HQ8.out 3; have g1 : w8.cell? ⟨wo.heap.size, 1, none⟩ = some (.slice A 0 c) := (block_cell HQ8.out 1).trans rfl; have g2 : w8.cell? ⟨wo.heap.size, 2, none⟩ = some (.int .i64 ge) := (block_cell HQ8.out 2).trans rfl; have g3 : w8.cell? ⟨wo.heap.size, 3, none⟩ = some (.int .i64 gw) := (block_cell HQ8.out 3).trans rfl; have e1 : w8.cell? ⟨wr.heap.size, 1, none⟩ = some (.int .i64 rv) := (block_cell HK8.out 1).trans rfl; have e2 : w8.cell? ⟨wr.heap.size, 2, none⟩ = some (.int .i64 rw_) := (block_cell HK8.out 2).trans rfl))
              obtain ⟨V3, hV3⟩ : ∃ V, (((w8.setCell ⟨wo.heap.size, 1, none⟩ (.slice A8 (0 + 1) c8)).setCell ⟨wo.heap.size, 2, none⟩ (.int .i64 (ge + rv))).setCell ⟨wo.heap.size, 3, none⟩ (.int .i64 (gw + rw_))) = V := ⟨_, rfl⟩
              have hQ3 : V3.heap[wo.heap.size]? = some (.cells #[.int .i64 ((j : Int) + 1), .slice A8 (0 + 1) c8, .int .i64 (ge + rv), .int .i64 (gw + rw_), .int .i64 rf, .int .i64 rl] 44 (0, 0)) := hV3 ▸ block_set (block_set (block_set HQ8.out _) _) _
              have hO3 : ∀ j o, w8.heap[j]? = some o → j ≠ wo.heap.size → V3.heap[j]? = some o := fun j o e ne => hV3 ▸ block_set_other (block_set_other (block_set_other e _ _ ne) _ _ ne) _ _ ne
              have hB3 : Below wo.heap.size w8 V3 := hV3 ▸ (((Below.refl _ _).setCell (p := ⟨wo.heap.size, 1, none⟩) (Nat.le_refl _) _).setCell (p := ⟨wo.heap.size, 2, none⟩) (Nat.le_refl _) _).setCell (p := ⟨wo.heap.size, 3, none⟩) (Nat.le_refl _) _
              rw [hV3]
              clear hV3 g1 g2 g3 f1 f2 f3 e1 e2
              have hK3 := hO3 _ _ HK8.out hkq
              have g4 : V3.cell? ⟨wo.heap.size, 4, none⟩ = some (.int .i64 rf) := (block_cell hQ3 4).trans rfl
              have g5 : V3.cell? ⟨wo.heap.size, 5, none⟩ = some (.int .i64 rl) := (block_cell hQ3 5).trans rfl
              have f4 : V3.frozen? ⟨wo.heap.size, 4, none⟩ = false := block_free hQ3 4
              have f5 : V3.frozen? ⟨wo.heap.size, 5, none⟩ = false := block_free hQ3 5
              have e3 : V3.cell? ⟨wr.heap.size, 3, none⟩ = some (.int .i64 rf) := (block_cell hK3 3).trans rfl
              have e4 : V3.cell? ⟨wr.heap.size, 4, none⟩ = some (.int .i64 rl) := (block_cell hK3 4).trans rfl
              have HQ3 := hide hQ3
              have HO3 := hide hO3
              have HB3 := hide hB3
              clear hQ3 hO3 hB3 hK3
              go_wp2_with (go_region)
              go_roundw
              case rel =>
                refine ⟨i + 1, by omega, by go_num, ?_⟩
                have h9 := HFIR.out (List.length_eq_zero_iff.1 HNN.out)
                exact rgi_fin HB.out HB8.out HR8.out HNN.out ⟨_, HQ8.out⟩ (block_set (block_set HQ3.out _) _) (fun k o e ne => block_set_other (block_set_other (HO3.out k o e ne) _ _ ne) _ _ ne) ((HB3.out.setCell (p := ⟨wo.heap.size, 4, none⟩) (Nat.le_refl _) _).setCell (p := ⟨wo.heap.size, 5, none⟩) (Nat.le_refl _) _).drew (G := ⟨(j : Int) + 1, gps ++ [rp], ge + rv, gw + rw_, rf, rl⟩) (by
                  obtain ⟨h8, h7⟩ := h9
                  simp only [Gr.mk.injEq] at h7
                  rw [h8]
                  simp [h7]) rfl
              case measure => simp [intOf]; omega
            · have hn0' : ((nn : Int) == 0) = false := beq_eq_false_iff_ne.2 (by omega)
              go_wp2_with (at_builtin; refine wpList_append_own_at _ rfl (.tmp 42) (.tmp 45) 30 rfl wo.heap.size 9 i0 (.string ByteArray.empty) 1 16 Tryz.underlying30 hi0 iz0 iz1 iz2 rfl (by decide) (.slice A nn c) nn (gps.map encStr) rfl ((HRW.out.alloc _).alloc _) ⟨wr.heap.size + 1, 0, none⟩ 1 1 [.string ⟨rp.toArray⟩] (by go_simp) rfl (by first | exact cell_one_new _ _ _ | (have h9 := cell_one_new (wr.alloc (.cells #[.string ⟨rp.toArray⟩, .int .i64 rv, .int .i64 rw_, .int .i64 rf, .int .i64 rl, .int .i64 ((j : Int) + 1)] 64)) (.string ⟨rp.toArray⟩) 9; simpa using h9)) (by intro u hu; simp at hu; subst hu; rfl) (by unfold maxLen; omega) (by omega) (by simp; omega) ?_; intro v8 w8 hown8 hg8 _ hat8; obtain ⟨A8, c8, rfl⟩ := own_sl hown8; have HO8 := hide (app_keep hg8); have HB8 := hide (new_below (B := wo.heap.size) hz (fun j hj => (HRW.out.lt j hj).1) hg8); have HK0 := heap_alloc_new wr (.cells #[.string ⟨rp.toArray⟩, .int .i64 rv, .int .i64 rw_, .int .i64 rf, .int .i64 rl, .int .i64 ((j : Int) + 1)] 64); have HK8 := hide (HO8.out _ _ HK0 (own_other' (HRW.out.alloc _) HK0 (by decide))); clear HK0; have HQ8 := hide (HO8.out _ _ (block_below HBK.out ((Below.refl _ _).alloc (Nat.le_refl _) _)) HSQ.out); have HR8 := hide hown8; clear hown8 hg8 hat8; have f1 : w8.frozen? ⟨wo.heap.size, 1, none⟩ = false := block_free HQ8.out 1; have f2 : w8.frozen? ⟨wo.heap.size, 2, none⟩ = false := block_free HQ8.out 2; have f3 : w8.frozen? ⟨wo.heap.size, 3, none⟩ = false := block_free HQ8.out 3; have g1 : w8.cell? ⟨wo.heap.size, 1, none⟩ = some (.slice A nn c) := (block_cell HQ8.out 1).trans rfl; have g2 : w8.cell? ⟨wo.heap.size, 2, none⟩ = some (.int .i64 ge) := (block_cell HQ8.out 2).trans rfl; have g3 : w8.cell? ⟨wo.heap.size, 3, none⟩ = some (.int .i64 gw) := (block_cell HQ8.out 3).trans rfl; have e1 : w8.cell? ⟨wr.heap.size, 1, none⟩ = some (.int .i64 rv) := (block_cell HK8.out 1).trans rfl; have e2 : w8.cell? ⟨wr.heap.size, 2, none⟩ = some (.int .i64 rw_) := (block_cell HK8.out 2).trans rfl)
              obtain ⟨V3, hV3⟩ : ∃ V, (((w8.setCell ⟨wo.heap.size, 1, none⟩ (.slice A8 (nn + 1) c8)).setCell ⟨wo.heap.size, 2, none⟩ (.int .i64 (ge + rv))).setCell ⟨wo.heap.size, 3, none⟩ (.int .i64 (gw + rw_))) = V := ⟨_, rfl⟩
              have hQ3 : V3.heap[wo.heap.size]? = some (.cells #[.int .i64 ((j : Int) + 1), .slice A8 (nn + 1) c8, .int .i64 (ge + rv), .int .i64 (gw + rw_), .int .i64 gf, .int .i64 gl] 44 (0, 0)) := hV3 ▸ block_set (block_set (block_set HQ8.out _) _) _
              have hO3 : ∀ j o, w8.heap[j]? = some o → j ≠ wo.heap.size → V3.heap[j]? = some o := fun j o e ne => hV3 ▸ block_set_other (block_set_other (block_set_other e _ _ ne) _ _ ne) _ _ ne
              have hB3 : Below wo.heap.size w8 V3 := hV3 ▸ (((Below.refl _ _).setCell (p := ⟨wo.heap.size, 1, none⟩) (Nat.le_refl _) _).setCell (p := ⟨wo.heap.size, 2, none⟩) (Nat.le_refl _) _).setCell (p := ⟨wo.heap.size, 3, none⟩) (Nat.le_refl _) _
              rw [hV3]
              clear hV3 g1 g2 g3 f1 f2 f3 e1 e2
              have hK3 := hO3 _ _ HK8.out hkq
              have g4 : V3.cell? ⟨wo.heap.size, 4, none⟩ = some (.int .i64 gf) := (block_cell hQ3 4).trans rfl
              have g5 : V3.cell? ⟨wo.heap.size, 5, none⟩ = some (.int .i64 gl) := (block_cell hQ3 5).trans rfl
              have f4 : V3.frozen? ⟨wo.heap.size, 4, none⟩ = false := block_free hQ3 4
              have f5 : V3.frozen? ⟨wo.heap.size, 5, none⟩ = false := block_free hQ3 5
              have e3 : V3.cell? ⟨wr.heap.size, 3, none⟩ = some (.int .i64 rf) := (block_cell hK3 3).trans rfl
              have e4 : V3.cell? ⟨wr.heap.size, 4, none⟩ = some (.int .i64 rl) := (block_cell hK3 4).trans rfl
              have HQ3 := hide hQ3
              have HO3 := hide hO3
              have HB3 := hide hB3
              clear hQ3 hO3 hB3 hK3
              go_wp2_with (go_region)
              go_roundw
              case rel =>
                refine ⟨i + 1, by omega, by go_num, ?_⟩
                have h9 := HNXT.out (fun e => hn0 (by rw [← HNN.out, e]; rfl))
                exact rgi_fin HB.out HB8.out HR8.out HNN.out ⟨_, HQ8.out⟩ (block_set (block_set HQ3.out _) _) (fun k o e ne => block_set_other (block_set_other (HO3.out k o e ne) _ _ ne) _ _ ne) ((HB3.out.setCell (p := ⟨wo.heap.size, 4, none⟩) (Nat.le_refl _) _).setCell (p := ⟨wo.heap.size, 5, none⟩) (Nat.le_refl _) _).drew (G := addG ⟨(j : Int) + 1, gps, ge, gw, gf, gl⟩ ⟨rp, (j : Int) + 1, rv, rw_, rf, rl⟩) h9 rfl
              case measure => simp [intOf]; omega
          · have hIb : (rg == (j : Int) + 1) = false := beq_eq_false_iff_ne.2 hI
            have HNO := hide (rawG_no (lr := lr) HX.out hI)
            go_wp2_with (fail)
            go_roundw
            case rel =>
              refine ⟨i + 1, by omega, by go_num, v, ?_, ?_, HB.out.alloc hz _⟩
              · rw [HNO.out]; exact block_below HBK.out ((Below.refl _ _).alloc (Nat.le_refl _) _)
              · rw [HNO.out]; exact HRW.out.alloc _
            case measure => simp [intOf]; omega
        · have hie : i = lr.length := by omega
          subst hie
          rw [List.take_length] at hbk hrw
          obtain ⟨A, c, rfl⟩ := own_sl hrw
          have hil' : ¬ (lr.length : Int) < (lr.length : Int) := by omega
          obtain ⟨G, hG⟩ : ∃ G, rawG ((j : Int) + 1) lr = G := ⟨_, rfl⟩
          rw [hG] at hbk hrw
          have HB := hide hB
          obtain ⟨es, hes⟩ := HO.out.below hB
          have HO2 := hide hes
          obtain ⟨e1, e2, e3, e4, e5, e6⟩ := hes
          obtain ⟨vA, vc, rfl⟩ := own_sl e1
          have HE1 := hide e1
          have hel : es.length ≤ k := by omega
          have x1 : wr.cell? ⟨q, 1, none⟩ = some (.int .i64 (k : Int)) := (hB.cell (p := ⟨q, 1, none⟩) (show q < _ by omega)).trans x1
          clear e1 e2 e3 e4 e5 e6 hB
          obtain ⟨nn, hnn⟩ : ∃ nn, G.ps.length = nn := ⟨_, rfl⟩
          rw [hnn] at hbk hrw
          have HRW := hide hrw
          have d1 : wr.cell? ⟨wo.heap.size, 1, none⟩ = some (.slice A nn c) := (block_cell hbk 1).trans rfl
          by_cases hn0 : nn = 0
          · have HSK := hide (RgO.skip ⟨es, HO2.out⟩ (by rw [hG]; exact List.length_eq_zero_iff.1 (by rw [hnn, hn0])))
            have hn0' : ¬ (0 : Int) < (nn : Int) := by omega
            clear hbk hrw
            go_wp2_with (fail)
            go_roundw
            case rel => exact ⟨j + 1, by omega, by go_num, HSK.out⟩
            case measure => simp [intOf]; omega
          · have hn0' : (0 : Int) < (nn : Int) := by omega
            have d0 : wr.cell? ⟨wo.heap.size, 0, none⟩ = some (.int .i64 G.id) := (block_cell hbk 0).trans rfl
            have d2 : wr.cell? ⟨wo.heap.size, 2, none⟩ = some (.int .i64 G.ev) := (block_cell hbk 2).trans rfl
            have d3 : wr.cell? ⟨wo.heap.size, 3, none⟩ = some (.int .i64 G.wt) := (block_cell hbk 3).trans rfl
            have d4 : wr.cell? ⟨wo.heap.size, 4, none⟩ = some (.int .i64 G.fi) := (block_cell hbk 4).trans rfl
            have d5 : wr.cell? ⟨wo.heap.size, 5, none⟩ = some (.int .i64 G.la) := (block_cell hbk 5).trans rfl
            have HNN := hide hnn
            have HGE := hide hG
            have HN0 := hide (show G.ps ≠ [] from fun e => hn0 (by rw [← hnn, e]; rfl))
            clear hbk hrw hnn hG hn0
            go_wp2_with (at_builtin; refine wpList_append_own _ rfl (.tmp 77) (.tmp 79) 42 rfl w.heap.size 44 i1 (.agg #[.int .i64 0, .slice none 0 0, .int .i64 0, .int .i64 0, .int .i64 0, .int .i64 0]) 6 64 Tryz.underlying42 hi1 iz3 iz4 iz5 rfl (by decide) (.slice vA es.length vc) es.length (es.flatMap Ge.cs) rfl (HE1.out.alloc _) ⟨wr.heap.size, 0, none⟩ 1 1 [.int .i64 G.id, .slice A nn c, .int .i64 G.ev, .int .i64 G.wt, .int .i64 G.fi, .int .i64 G.la] rfl rfl (cells_at _ [.int .i64 G.id, .slice A nn c, .int .i64 G.ev, .int .i64 G.wt, .int .i64 G.fi, .int .i64 G.la] _ _ rfl) (by intro u hu; simp at hu; rcases hu with rfl | rfl | rfl | rfl | rfl | rfl <;> rfl) (by unfold maxLen; omega) (by omega) (by simp; omega) ?_; intro v8 w8 hown8 hg8 _; obtain ⟨A8, c8, rfl⟩ := own_sl hown8; have HO8 := hide hown8; have HG8 := hide hg8; clear hown8 hg8)
            go_roundw
            case rel =>
              refine ⟨j + 1, by omega, by go_num, ?_⟩
              refine HO2.out.push HU.out HGE.out HN0.out (by rw [HNN.out]; exact World.ownsRow.mono HRW.out hzo) HG8.out HO8.out
            case measure => simp [intOf]; omega
    · have hje : j = k := by omega
      subst hje
      have hjk' : ¬ ((j : Int) + 1) ≤ (j : Int) := by omega
      obtain ⟨es, h1, h2, h3, h4, h5, h6⟩ := HO.out
      have HF := hide (show GrsIn w.heap.size wo u3 lr es ∧ Below w.heap.size w wo from ⟨⟨h1, by rw [h2]; exact isGr_grsF HU.out HG.out, h3, h4⟩, h6⟩)
      clear h1 h2 h3 h4 h5 h6
      go_wp2_with (fail)
      refine bodyPost_ret (by simp [results, Tryz.results17, go_sem]; try rfl) rfl ?_
      exact ⟨_, rfl, ⟨es, HF.out.1⟩, HF.out.2⟩
end Go.Proofs.YtapfcnfmonknjaaGreatDoor.Bk
