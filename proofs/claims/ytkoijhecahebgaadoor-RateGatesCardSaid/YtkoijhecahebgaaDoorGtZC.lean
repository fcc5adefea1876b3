/- GtRta, GtNwR, GtAskQ, GtAskR: texts of one's own, in one file. -/
import Derived.Test.YtkoijhecahebgaaDoorGtTls
import Derived.Test.YtkoijhecahebgaaDoorKeepP
import Derived.Test.YtkoijhecahebgaaDoorGtLim
import Derived.Maps.AppendAt
import Derived.Test.YtkoijhecahebgaaDoorGtZB
import Derived.Test.YtkoijhecahebgaaDoorRegChain
import Derived.Test.YtkoijhecahebgaaDoorGtLev2
/- The reference's tally. -/
namespace Go.Proofs.YtkoijhecahebgaaDoor
open Go.RowKit Go.Maps
set_option linter.unusedVariables false
set_option linter.unusedSimpArgs false
theorem incT_at {t : Tag} : ∀ {l : List Tl} {i : Nat} {x : Tl}, l[i]? = some x → x.tag = t → (∀ j y, j < i → l[j]? = some y → y.tag ≠ t) → incT t l = l.set i (mkT t (x.many + 1))
  | y :: l, 0, x, hx, ht, _ => by
    simp at hx
    subst hx
    unfold incT
    rw [if_pos ht]; rfl
  | y :: l, i + 1, x, hx, ht, hb => by
    have h0 := hb 0 y (by omega) rfl
    unfold incT
    rw [if_neg h0, List.set_cons_succ, incT_at (i := i) (by simpa using hx) ht (fun j z hj hz => hb (j + 1) z (by omega) (by simpa using hz))]
theorem incT_end {t : Tag} : ∀ {l : List Tl}, (∀ y ∈ l, y.tag ≠ t) → incT t l = l ++ [mkT t 1]
  | [], _ => rfl
  | y :: l, h => by
    unfold incT
    rw [if_neg (h y List.mem_cons_self), incT_end (fun z hz => h z (List.mem_cons_of_mem _ hz))]; rfl
theorem cs_mkT (tk tn : ByteArray) (ty c : Int) : (mkT (tk, ty, tn) c).cs = [.string tk, .int .i64 ty, .string tn, .int .i64 c] := rfl
set_option maxRecDepth 100000 in
set_option maxHeartbeats 8000000 in
theorem tally_ok (p B : Nat) (v0 v1 v2 v3 tv : Value) (l : List Tl) (tk tn : ByteArray) (ty : Int) (w : World)
    (hb : w.heap[p]? = some (.cells #[v0, v1, v2, v3, tv] 41 (0, 0))) (hown : w.ownsRow B 50 4 tv l.length (l.flatMap Tl.cs)) (hB : B ≤ p) (hBz : B ≤ w.heap.size) (hn : l.length ≤ 1000) (hmany : ∀ x ∈ l, 0 ≤ x.many ∧ x.many ≤ 1000) :
    Calls Tryd.prog 39 #[.pointer (some ⟨p, 0, none⟩), .string tk, .int .i64 ty, .string tn] w fun e w' => e = .returned (.tuple #[]) ∧ ∃ tv', w'.heap[p]? = some (.cells #[v0, v1, v2, v3, tv'] 41 (0, 0)) ∧
      w'.ownsRow B 50 4 tv' (incT (tk, ty, tn) l).length ((incT (tk, ty, tn) l).flatMap Tl.cs) ∧ Keep B (fun k => k = p ∨ tv.ownBlock = some k) w w' ∧ ∀ k, tv'.ownBlock = some k → tv.ownBlock = some k ∨ w.heap.size ≤ k := by
  obtain ⟨i0, hi0, iz0, iz1, iz2⟩ := info_parts info_tally
  obtain ⟨A, cap, rfl⟩ := own_sl hown
  have hap := own_other' hown hb (by decide)
  have hp := lt_of_block hb
  have HBX := hide hb
  have HOW := hide hown
  have HAP := hide hap
  have HMA := hide hmany
  have c4 : w.cell? ⟨p, 4, none⟩ = some (.slice A l.length cap) := (block_cell hb 4).trans rfl
  clear hb hown hap hmany
  go_enter Tryd.func39, Tryd.ntmps39
  go_wp2_with (fail)
  go_loopw [15] (fun i wr => ∃ k : Nat, i = .int .i64 (k : Int) ∧ k ≤ l.length ∧ Below w.heap.size w wr ∧ ∀ j y, j < k → l[j]? = some y → y.tag ≠ (tk, ty, tn)) (fun i _ => l.length - (intOf i).toNat)
  case atStart => exact ⟨0, rfl, Nat.zero_le _, Below.refl _ _, fun j y hj => by omega⟩
  case round =>
    obtain ⟨k, rfl, hk, hBl, hno⟩ := hrel
    have hz := hBl.size
    by_cases hlt : k < l.length
    · have hki : (k : Int) < (l.length : Int) := by omega
      obtain ⟨x, hx⟩ : ∃ x, l[k]? = some x := ⟨_, List.getElem?_eq_getElem hlt⟩
      have HR := hide (own_below HOW.out hBl)
      obtain ⟨g, cp, cur, ev, hg1, _⟩ := own_blk HR.out (by omega)
      simp at ev
      obtain ⟨rfl, rfl⟩ := ev
      have hgc : ∀ r u, x.cs[r]? = some u → wr.cell? ⟨g, k * 4 + r, none⟩ = some u := fun r u hu => own_cell HR.out (k * 4 + r) u (by
        have hr4 : r < 4 := by have := (List.getElem?_eq_some_iff.1 hu).1; simpa [Tl.cs] using this
        rw [fm_get (f := Tl.cs) (sz := 4) (fun _ => rfl) l k r hr4, hx]; exact hu)
      have x0 : wr.cell? ⟨g, k * 4, none⟩ = some (.string x.key) := by simpa using hgc 0 _ rfl
      have x1 : wr.cell? ⟨g, k * 4 + 1, none⟩ = some (.int .i64 x.why) := by simpa using hgc 1 _ rfl
      have x2 : wr.cell? ⟨g, k * 4 + 2, none⟩ = some (.string x.name) := by simpa using hgc 2 _ rfl
      have x3 : wr.cell? ⟨g, k * 4 + 3, none⟩ = some (.int .i64 x.many) := by simpa using hgc 3 _ rfl
      have HBB := hide (fun ob => hBl.alloc hz ob)
      clear hgc hg1
      by_cases e1 : x.key = tk
      · by_cases e2 : x.why = ty
        · by_cases e3 : x.name = tn
          · have hI := incT_at (t := (tk, ty, tn)) hx (by rw [← e1, ← e2, ← e3]; rfl) hno
            have HI := hide hI
            have hmx := HMA.out x (List.mem_of_getElem? hx)
            have hgp : g ≠ p := fun e => HAP.out (by rw [e]; rfl)
            have HPB := hide (block_below HBX.out hBl)
            have hgl := (HR.out.lt g rfl).2
            have hgB := (HR.out.lt g rfl).1
            have d4 : wr.cell? ⟨p, 4, none⟩ = some (.slice (some ⟨g, 0, none⟩) l.length cap) := (block_cell HPB.out 4).trans rfl
            have hpl := lt_of_block HPB.out
            have fz : wr.frozen? ⟨g, k * 4 + 3, none⟩ = false := own_free HR.out _
            have HX := hide hx
            clear hI hno hx
            go_wp2_with (fail)
            refine bodyPost_ret (by simp [results, Tryd.results39, go_sem]; try rfl) rfl ?_
            refine ⟨rfl, .slice (some ⟨g, 0, none⟩) l.length cap, ?_, ?_, ?_, fun k h => .inl h⟩
            · exact block_below (block_set_other HPB.out _ _ (by show p ≠ g; exact fun e => hgp e.symm)) ((Below.refl _ _).alloc (Nat.le_refl _) _)
            · rw [HI.out, List.length_set, fm_set (f := Tl.cs) (sz := 4) (fun _ => rfl) l k 3 x (mkT (tk, ty, tn) (x.many + 1)) (.int .i64 (x.many + 1)) (by decide) HX.out (by
                show _ = [Value.string x.key, .int .i64 x.why, .string x.name, .int .i64 (x.many + 1)]
                rw [e1, e2, e3]; rfl)]
              exact (own_set HR.out _ _).alloc _
            · have ks := Keep.set (B := B) (P := fun k => k = p ∨ (Value.slice (some ⟨g, 0, none⟩) l.length cap).ownBlock = some k) (c := g) wr (k * 4 + 3) (.int .i64 (x.many + 1)) hgB (.inr rfl)
              refine ((Keep.of_below hBl hBz).trans ks).trans (Keep.of_below ((Below.refl _ _).alloc (Nat.le_refl _) _) (by rw [World.size_setCell]; omega))
          · have hno1 : ∀ j y, j < k + 1 → l[j]? = some y → y.tag ≠ (tk, ty, tn) := fun j y hj hy => by
              rcases Nat.lt_succ_iff_lt_or_eq.1 hj with h | rfl
              · exact hno j y h hy
              · rw [hx] at hy; cases hy
                exact fun e => e3 (congrArg (fun q : Tag => q.2.2) e)
            have HN := hide hno1
            clear hno hno1
            obtain ⟨q1, q2⟩ := str_ne e3
            go_wp2_with (fail)
            go_roundw
            case rel => exact ⟨k + 1, by go_num, by omega, HBB.out _, HN.out⟩
            case measure => simp [intOf]; omega
        · have hno1 : ∀ j y, j < k + 1 → l[j]? = some y → y.tag ≠ (tk, ty, tn) := fun j y hj hy => by
            rcases Nat.lt_succ_iff_lt_or_eq.1 hj with h | rfl
            · exact hno j y h hy
            · rw [hx] at hy; cases hy
              exact fun e => e2 (congrArg (fun q : Tag => q.2.1) e)
          have HN := hide hno1
          clear hno hno1
          go_wp2_with (fail)
          go_roundw
          case rel => exact ⟨k + 1, by go_num, by omega, HBB.out _, HN.out⟩
          case measure => simp [intOf]; omega
      · have hno1 : ∀ j y, j < k + 1 → l[j]? = some y → y.tag ≠ (tk, ty, tn) := fun j y hj hy => by
          rcases Nat.lt_succ_iff_lt_or_eq.1 hj with h | rfl
          · exact hno j y h hy
          · rw [hx] at hy; cases hy
            exact fun e => e1 (congrArg Prod.fst e)
        have HN := hide hno1
        clear hno hno1
        obtain ⟨q1, q2⟩ := str_ne e1
        go_wp2_with (fail)
        go_roundw
        case rel => exact ⟨k + 1, by go_num, by omega, HBB.out _, HN.out⟩
        case measure => simp [intOf]; omega
    · have hki : ¬ (k : Int) < (l.length : Int) := by omega
      obtain rfl : l.length = k := by omega
      have HI := hide (incT_end (t := (tk, ty, tn)) (l := l) (fun y hy => by
        obtain ⟨j, hj⟩ := List.mem_iff_getElem?.1 hy
        exact hno j y (List.getElem?_eq_some_iff.1 hj).1 hj))
      have HR := hide (own_below HOW.out hBl)
      have HPB := hide (block_below HBX.out hBl)
      have HLT := hide HR.out.lt
      have HBW := hide hBl
      have d4 : wr.cell? ⟨p, 4, none⟩ = some (.slice A l.length cap) := (block_cell HPB.out 4).trans rfl
      have hpl := lt_of_block HPB.out
      clear hno hBl
      go_wp2_with (first | (at_builtin; refine wpList_append_own_at _ rfl (.tmp 52) (.tmp 57) 39 rfl B 50 i0 (.agg #[.string ByteArray.empty, .int .i64 0, .string ByteArray.empty, .int .i64 0]) 4 48 Tryd.underlying39 hi0 iz0 iz1 iz2 rfl (by decide) (.slice A l.length cap) l.length (l.flatMap Tl.cs) rfl (HR.out.alloc _) ⟨wr.heap.size, 0, none⟩ 1 1 [.string tk, .int .i64 ty, .string tn, .int .i64 1] rfl rfl (cells_at _ [.string tk, .int .i64 ty, .string tn, .int .i64 1] _ _ rfl) (by intro u hu; simp at hu; rcases hu with rfl | rfl | rfl | rfl <;> rfl) (by unfold maxLen; omega) (by omega) (by simp; omega) ?_; intro v1 w2 hown1 hg1 _ hat1; obtain ⟨ao, cp, rfl⟩ := own_sl hown1; have HLO := hide (show ∀ k, (Value.slice ao (l.length + 1) cp).ownBlock = some k → (Value.slice A l.length cap).ownBlock = some k ∨ w.heap.size ≤ k from fun k hk => by rcases hat1 with h | h; (exact .inl (h.symm.trans hk)); (right; rw [h] at hk; simp at hk; omega)); have HX2 := hide ((hg1.block p (by simp; omega) (fun e => HAP.out e.symm)).trans (block_below HPB.out ((Below.refl _ _).alloc (Nat.le_refl _) _))); have HK2 := hide (Keep.grown (P := fun k => k = p ∨ (Value.slice A l.length cap).ownBlock = some k) hg1 (B := B) (by omega) (fun k hk => ⟨(HLT.out k hk).1, .inr hk⟩)); have e1 : w2.cell? ⟨p, 4, none⟩ = some (.slice A l.length cap) := (block_cell HX2.out 4).trans rfl; have ef1 : w2.frozen? ⟨p, 4, none⟩ = false := block_free HX2.out 4; have HO2 := hide hown1; clear hown1 hg1))
      go_end0
      have hap2 := own_other' HO2.out HX2.out (by decide)
      refine ⟨rfl, .slice ao (l.length + 1) cp, (block_set (i := 4) HX2.out _).trans rfl, ?_, ((Keep.of_below HBW.out hBz).trans HK2.out).trans (Keep.set w2 4 _ hB (.inl rfl)), HLO.out⟩
      rw [HI.out, List.length_append, List.flatMap_append, List.flatMap_singleton]
      exact own_stay HO2.out (fun k o e ho => block_set_other ho _ _ (by show k ≠ p; exact fun e2 => hap2 (by rw [← e2]; exact e)))
end Go.Proofs.YtkoijhecahebgaaDoor

/- NewGate of the reference. -/
namespace Go.Proofs.YtkoijhecahebgaaDoor
open Go.RowKit
set_option linter.unusedVariables false
set_option linter.unusedSimpArgs false
/-- The reference's gate in memory. -/
structure GRm (B : Nat) (W : World) (p n qc lc tc : Nat) (qA lA tA : Option Addr) (rv : Value) (g : Int) (V : List Lv) (TL : List Tl) : Prop where
  box : W.heap[p]? = some (.cells #[.slice qA n qc, rv, .int .i64 g, .slice lA n lc, .slice tA TL.length tc] 41 (0, 0))
  lev : W.ownsRow B 46 3 (.slice lA n lc) n (V.flatMap Lv.cs)
  tal : W.ownsRow B 50 4 (.slice tA TL.length tc) TL.length (TL.flatMap Tl.cs)
  pl : B ≤ p
set_option maxRecDepth 100000 in
set_option maxHeartbeats 8000000 in
theorem NewGateR_any (n qc : Nat) (qA : Option Addr) (rv : Value) (rn rc : Nat) (rA : Option Addr) (hrv : rv = .slice rA rn rc) (Q : List Qt) (t : Int) (w : World) (hn50 : n ≤ 50) (hq : Sl w w.heap.size Qt.cs 5 qA n Q) :
    Calls Tryd.prog 10 #[.slice qA n qc, rv, .int .i64 t] w fun e w' => ∃ p lA lc, e = .returned (.pointer (some ⟨p, 0, none⟩)) ∧ GRm w.heap.size w' p n qc lc 0 qA lA none rv t (Q.map (fullL t)) [] ∧ Below w.heap.size w w' := by
  subst hrv
  have hql := hq.len
  obtain ⟨i0, hi0, iz0, iz1, iz2⟩ := info_parts info_levelN
  have HQ := hide hq
  clear hq
  obtain ⟨p, hp⟩ : ∃ p, w.heap.size = p := ⟨_, rfl⟩
  go_enter Tryd.func10, Tryd.ntmps10
  go_wp2_with (fail)
  obtain ⟨w3, hw3, hb3, hg3⟩ : ∃ w3, w.alloc (.cells #[.slice qA n qc, .slice rA rn rc, .int .i64 t, .slice none 0 0, .slice none 0 0] 41) = w3 ∧ Below w.heap.size w w3 ∧ w3.heap[p]? = some (.cells #[.slice qA n qc, .slice rA rn rc, .int .i64 t, .slice none 0 0, .slice none 0 0] 41 (0, 0)) :=
    ⟨_, rfl, (Below.refl _ _).alloc (Nat.le_refl _) _, hp ▸ heap_alloc_new w _⟩
  rw [hw3]
  have HG3 := hide hg3
  have HB3 := hide hb3
  have hp3 := lt_of_block hg3
  have hz3 := hb3.size
  clear hg3 hb3 hw3
  go_loopw [17] (fun i wr => ∃ (k : Nat) (vA : Option Addr) (vc : Nat), i = .int .i64 (k : Int) ∧ k ≤ n ∧ wr.heap[p]? = some (.cells #[.slice qA n qc, .slice rA rn rc, .int .i64 t, .slice vA k vc, .slice none 0 0] 41 (0, 0)) ∧ wr.ownsRow w3.heap.size 46 3 (.slice vA k vc) k (((Q.take k).map (fullL t)).flatMap Lv.cs) ∧ Keep w.heap.size (fun k => k = p) w3 wr)
    (fun i _ => n - (intOf i).toNat)
  case atStart => exact ⟨0, none, 0, rfl, Nat.zero_le _, HG3.out, World.ownsRow_nil _ _ _ _, Keep.refl _ _ _⟩
  case round =>
    obtain ⟨k, vA, vc, rfl, hk, hbx, hrow, hK⟩ := hrel
    have hzr := hK.be.size
    have hpl := lt_of_block hbx
    have HK := hide hK
    have HBX := hide hbx
    have HROW := hide hrow
    by_cases hlt : k < n
    · have hki : (k : Int) < (n : Int) := by omega
      have hQw : Sl wr w.heap.size Qt.cs 5 qA n Q := (HQ.out.below HB3.out).stay (U := fun k => k ≠ p) (fun k o h u => hK.keep k o h u) (fun h0 b o e => by
        obtain ⟨b', o', e', hl, _⟩ := HQ.out.cells h0
        rw [e] at e'; cases e'
        omega)
      obtain ⟨qb, qo, q, rfl, hqb, hqx, hqc⟩ := hQw.at_ hlt
      have q0 : wr.cell? ⟨qb, qo + k * 5, none⟩ = some (.string q.name) := by simpa using hqc 0 _ rfl
      have q1 : wr.cell? ⟨qb, qo + k * 5 + 1, none⟩ = some (.string q.key) := by simpa using hqc 1 _ rfl
      have q2 : wr.cell? ⟨qb, qo + k * 5 + 2, none⟩ = some (.int .i64 q.s) := by simpa using hqc 2 _ rfl
      have q3 : wr.cell? ⟨qb, qo + k * 5 + 3, none⟩ = some (.int .i64 q.a) := by simpa using hqc 3 _ rfl
      have q4 : wr.cell? ⟨qb, qo + k * 5 + 4, none⟩ = some (.int .i64 q.e) := by simpa using hqc 4 _ rfl
      have HTK := hide (take_succ_get hqx)
      obtain ⟨wq, hwq⟩ : ∃ wq, wr.alloc (.cells #[.string q.name, .string q.key, .int .i64 q.s, .int .i64 q.a, .int .i64 q.e] 58) = wq := ⟨_, rfl⟩
      have hnq : wq.heap[wr.heap.size]? = some (.cells #[.string q.name, .string q.key, .int .i64 q.s, .int .i64 q.a, .int .i64 q.e] 58 (0, 0)) := hwq ▸ heap_alloc_new wr _
      have hbq : Below wr.heap.size wr wq := hwq ▸ (Below.refl _ _).alloc (Nat.le_refl _) _
      have HBQ := hide hbq
      have HSS := hide (show ∀ W', Below wq.heap.size wq W' → (fun W' => W'.cell? ⟨p, 3, none⟩ = some (.slice vA k vc) ∧ W'.cell? ⟨wr.heap.size, 2, none⟩ = some (.int .i64 q.s) ∧ W'.cell? ⟨wr.heap.size, 3, none⟩ = some (.int .i64 q.a) ∧ W'.cell? ⟨wr.heap.size, 4, none⟩ = some (.int .i64 q.e)) W' from fun W' hb => ⟨(block_cell (block_below (block_below hbx hbq) hb) 3).trans rfl, (block_cell (block_below hnq hb) 2).trans rfl, (block_cell (block_below hnq hb) 3).trans rfl, (block_cell (block_below hnq hb) 4).trans rfl⟩)
      clear hqc hqx hQw hnq hbx hrow hK
      go_wp2_with (fail)
      (try rw [hwq])
      refine wp_region_chain (fun W' => W'.cell? ⟨p, 3, none⟩ = some (.slice vA k vc) ∧ W'.cell? ⟨wr.heap.size, 2, none⟩ = some (.int .i64 q.s) ∧ W'.cell? ⟨wr.heap.size, 3, none⟩ = some (.int .i64 q.a) ∧ W'.cell? ⟨wr.heap.size, 4, none⟩ = some (.int .i64 q.e)) 11 (by as_aux_lemma => kernel_rfl) (N := 15) (by as_aux_lemma => kernel_rfl) ?_; intro hsh
      have HS := HSS.out wq.drew (below_drewN (Below.refl _ _) 1)
      refine wpAnyC_take0 (i := 0) (k := 11) (v := ?_) (d := some 21) rfl (by rfl) (by as_aux_lemma => kernel_rfl) (by as_aux_lemma => kernel_rfl) (by as_aux_lemma => kernel_rfl) hsh (by decide) (by intro _ _ _ h; exact h) (by assumption) (Or.inl ⟨by rfl, ?hy⟩) ?_; (case hy => (intro W _; go_simp; (try with_reducible rfl))); clear hsh; intro hsh
      refine wpAnyC_take0 (i := 1) (k := 11) (v := ?_) (d := some 22) rfl (by rfl) (by as_aux_lemma => kernel_rfl) (by as_aux_lemma => kernel_rfl) (by as_aux_lemma => kernel_rfl) hsh (by decide) (by intro _ _ _ h; exact h) (by assumption) (Or.inl ⟨by rfl, ?hy⟩) ?_; (case hy => (intro W _; go_simp; (try with_reducible rfl))); clear hsh; intro hsh
      refine wpAnyC_take0 (i := 2) (k := 11) (v := ?_) (d := some 23) rfl (by rfl) (by as_aux_lemma => kernel_rfl) (by as_aux_lemma => kernel_rfl) (by as_aux_lemma => kernel_rfl) hsh (by decide) (by intro _ _ _ h; exact h) (by assumption) (Or.inl ⟨by rfl, ?hy⟩) ?_; (case hy => (intro W _; go_simp; (try with_reducible rfl))); clear hsh; intro hsh
      refine wpAnyC_take0 (i := 3) (k := 11) (v := ?_) (d := some 24) rfl (by rfl) (by as_aux_lemma => kernel_rfl) (by as_aux_lemma => kernel_rfl) (by as_aux_lemma => kernel_rfl) hsh (by decide) (by intro _ _ _ h; exact h) (by assumption) (Or.inl ⟨by rfl, ?hy⟩) ?_; (case hy => (intro W _; go_simp; (try with_reducible rfl))); clear hsh; intro hsh
      refine wpAnyC_take (i := 4) (k := 11) (f := 40) (v := ?_) (d := some 25) rfl (by rfl) (by as_aux_lemma => kernel_rfl) (by as_aux_lemma => kernel_rfl) (by as_aux_lemma => kernel_rfl) hsh (by decide) (by as_aux_lemma => kernel_rfl) (by intro _ _ _ h; exact h) (by assumption) (Or.inl ⟨by rfl, ?hy⟩) ?_; (case hy => (rintro W ⟨b0, b1, b2, b3⟩; go_simp; (try with_reducible rfl))); clear hsh; intro hsh
      refine wpAnyC_take0 (i := 5) (k := 11) (v := ?_) (d := some 26) rfl (by rfl) (by as_aux_lemma => kernel_rfl) (by as_aux_lemma => kernel_rfl) (by as_aux_lemma => kernel_rfl) hsh (by decide) (by intro _ _ _ h; exact h) (by assumption) (Or.inl ⟨by rfl, ?hy⟩) ?_; (case hy => (intro W _; go_simp; (try with_reducible rfl))); clear hsh; intro hsh
      refine wpAnyC_take0 (i := 6) (k := 11) (v := ?_) (d := some 27) rfl (by rfl) (by as_aux_lemma => kernel_rfl) (by as_aux_lemma => kernel_rfl) (by as_aux_lemma => kernel_rfl) hsh (by decide) (by intro _ _ _ h; exact h) (by assumption) (Or.inl ⟨by rfl, ?hy⟩) ?_; (case hy => (intro W _; go_simp; (try with_reducible rfl))); clear hsh; intro hsh
      refine wpAnyC_take (i := 7) (k := 11) (f := 40) (v := ?_) (d := some 28) rfl (by rfl) (by as_aux_lemma => kernel_rfl) (by as_aux_lemma => kernel_rfl) (by as_aux_lemma => kernel_rfl) hsh (by decide) (by as_aux_lemma => kernel_rfl) (by intro _ _ _ h; exact h) (by assumption) (Or.inl ⟨by rfl, ?hy⟩) ?_; (case hy => (rintro W ⟨b0, b1, b2, b3⟩; go_simp; (try with_reducible rfl))); clear hsh; intro hsh
      refine wpAnyC_take0 (i := 8) (k := 11) (v := ?_) (d := some 29) rfl (by rfl) (by as_aux_lemma => kernel_rfl) (by as_aux_lemma => kernel_rfl) (by as_aux_lemma => kernel_rfl) hsh (by decide) (by intro _ _ _ h; exact h) (by assumption) (Or.inl ⟨by rfl, ?hy⟩) ?_; (case hy => (intro W _; go_simp; (try with_reducible rfl))); clear hsh; intro hsh
      refine wpAnyC_take0 (i := 9) (k := 11) (v := ?_) (d := some 30) rfl (by rfl) (by as_aux_lemma => kernel_rfl) (by as_aux_lemma => kernel_rfl) (by as_aux_lemma => kernel_rfl) hsh (by decide) (by intro _ _ _ h; exact h) (by assumption) (Or.inl ⟨by rfl, ?hy⟩) ?_; (case hy => (intro W _; go_simp; (try with_reducible rfl))); clear hsh; intro hsh
      refine wpAnyC_ready (rs := [10]) (by as_aux_lemma => kernel_rfl) (by simp) ?_; refine AllC.cons (i := 10) rfl (by as_aux_lemma => kernel_rfl) hsh (fun K hK => ?_) AllC.nil
      go_simp
      obtain ⟨w4, hw4, hb4, hs4, hcs⟩ : ∃ w4, (wq.alloc (.cells #[.int .i64 q.s, .int .i64 t, .int .i64 0] 46)).drew = w4 ∧ Below wq.heap.size wq w4 ∧ w4.heap.size = wq.heap.size + 1 ∧ (∀ j u, ([.int .i64 q.s, .int .i64 t, .int .i64 0] : List Value)[j]? = some u → w4.cell? ((⟨wq.heap.size, 0, none⟩ : Addr).add j) = some u) :=
        ⟨_, rfl, below_drewN ((Below.refl _ _).alloc (Nat.le_refl _) _) 1, by show (wq.alloc _).heap.size = _; simp, cells_at wq [.int .i64 q.s, .int .i64 t, .int .i64 0] 46 _ rfl⟩
      rw [hw4]
      refine hK _ _ (fun _ => HSS.out _ hb4) ?_
      clear hK K hsh HS hw4
      intro hsh
      refine wpAnyC_tail (by as_aux_lemma => kernel_rfl) (by simp) (by as_aux_lemma => kernel_rfl) ?_; simp only [List.drop_succ_cons, List.drop_zero]; clear hsh
      have hbr := hbq.trans (hb4.mono hbq.size)
      have HBR := hide hbr
      have hz4 := hbr.size
      have HR4 := hide (own_below HROW.out hbr)
      have HG4 := hide (block_below HBX.out hbr)
      have hlo4 := HR4.out.lt
      have hsq := hbq.size
      have hlo5 := HROW.out.lt
      clear hbr hbq hb4
      go_wp2_with (first | (at_builtin; refine wpList_append_own _ rfl (.tmp 25) (.tmp 31) 38 rfl w3.heap.size 46 i0 (.agg #[.int .i64 0, .int .i64 0, .int .i64 0]) 3 24 Tryd.underlying38 hi0 iz0 iz1 iz2 rfl (by decide) (.slice vA k vc) k (((Q.take k).map (fullL t)).flatMap Lv.cs) (by go_simp) HR4.out ⟨wq.heap.size, 0, none⟩ 1 1 [.int .i64 q.s, .int .i64 t, .int .i64 0] (by go_simp) rfl hcs (by intro u hu; simp at hu; rcases hu with rfl | rfl | rfl <;> rfl) (by unfold maxLen; omega) (by omega) (by omega) ?_; intro v8 w8 hown8 hg8 _; obtain ⟨A8, c8, rfl⟩ := own_sl hown8; have HO8 := hide hown8; have HG8 := hide ((hg8.block p (by omega) (fun e => by have := (hlo4 p e.symm).1; omega)).trans HG4.out); have y1 : w8.cell? ⟨p, 3, none⟩ = some (.slice vA k vc) := (block_cell HG8.out 3).trans rfl; have yf : w8.frozen? ⟨p, 3, none⟩ = false := block_free HG8.out 3; have HX8 := hide hg8; clear hown8 hg8))
      go_roundw
      case rel =>
        refine ⟨k + 1, A8, c8, by go_num, by omega, (block_set (i := 3) HG8.out _).trans rfl, ?_, ?_⟩
        · rw [HTK.out, List.map_append, List.flatMap_append]
          exact own_stay HO8.out (fun k' o e ho => block_set_other ho _ _ (by have := (HO8.out.lt k' e).1; show k' ≠ p; omega))
        · have hbe : Below w.heap.size w4 w8 := (Below.refl w.heap.size w4).grown HX8.out (by omega) (fun j hj => by have := (hlo4 j hj).1; omega)
          refine ⟨(HK.out.be.trans ((HBR.out.mono (by omega)).trans hbe)).setCell (p := ⟨p, 3, none⟩) (by show _ ≤ p; omega) _, fun k' o e ne => ?_⟩
          have hl := lt_of_block e
          have e2 := block_below (HK.out.keep k' o e ne) HBR.out
          exact block_set_other ((HX8.out.block k' (lt_of_block e2) (fun e3 => by have := (hlo4 k' e3.symm).1; omega)).trans e2) _ _ ne
      case measure => simp [intOf]; omega
    · have hki : ¬ (k : Int) < (n : Int) := by omega
      obtain rfl : n = k := by omega
      have HTK := hide (take_len Q (Nat.le_of_eq hql))
      go_wp2_with (fail)
      go_ret
      refine ⟨p, rfl, ⟨vA, vc, hbx, ?_, World.ownsRow_nil _ _ _ _, by omega⟩, by rw [← hp]; exact HB3.out.trans hK.be⟩
      have hTK := HTK.out
      rw [hTK] at hrow
      exact World.ownsRow.mono hrow (by omega)
end Go.Proofs.YtkoijhecahebgaaDoor

/- What the reference's Ask makes of the levels: plain law. -/
namespace Go.Proofs.YtkoijhecahebgaaDoor
open Go.RowKit Go.Maps
set_option linter.unusedVariables false
set_option linter.unusedSimpArgs false
/-- The levels when one is taken of each of the first k that fits. -/
def decV (Q : List Qt) (key : ByteArray) (k : Nat) (W : List Lv) : List Lv := (List.range k).foldl (fun V j => match Q[j]?, V[j]? with
  | some q, some x => if fitsB key q then V.set j x.less else V
  | _, _ => V) W
theorem decV_succ {Q : List Qt} {key : ByteArray} {k : Nat} {W : List Lv} {q : Qt} {x : Lv} (hq : Q[k]? = some q) (hx : (decV Q key k W)[k]? = some x) : decV Q key (k + 1) W = if fitsB key q then (decV Q key k W).set k x.less else decV Q key k W := by
  unfold decV at hx ⊢
  rw [List.range_succ, List.foldl_append]
  simp only [List.foldl_cons, List.foldl_nil, hq, hx]
theorem decV_len (Q : List Qt) (key : ByteArray) : ∀ (k : Nat) (W : List Lv), (decV Q key k W).length = W.length
  | 0, W => rfl
  | k + 1, W => by
    have ih := decV_len Q key k W
    unfold decV at ih ⊢
    rw [List.range_succ, List.foldl_append]
    simp only [List.foldl_cons, List.foldl_nil]
    split
    · split
      · rw [List.length_set]; exact ih
      · exact ih
    · exact ih
theorem decV_at {Q : List Qt} {key : ByteArray} : ∀ (k : Nat) (W : List Lv) (i : Nat) (q : Qt) (x : Lv), Q[i]? = some q → W[i]? = some x → (decV Q key k W)[i]? = some (if i < k ∧ fitsB key q = true then x.less else x)
  | 0, W, i, q, x, hq, hx => by simpa [decV] using hx
  | k + 1, W, i, q, x, hq, hx => by
    have ih := decV_at (key := key) k W i q x hq hx
    by_cases hik : i = k
    · subst hik
      rw [if_neg (by omega)] at ih
      rw [decV_succ hq ih]
      by_cases hf : fitsB key q = true
      · rw [if_pos hf, if_pos ⟨by omega, hf⟩, List.getElem?_set_self (List.getElem?_eq_some_iff.1 ih).1]
      · rw [if_neg hf, if_neg (fun h => hf h.2)]; exact ih
    · have e : (decV Q key (k + 1) W)[i]? = (decV Q key k W)[i]? := by
        cases hqk : Q[k]? with
        | none =>
          unfold decV
          rw [List.range_succ, List.foldl_append]
          simp only [List.foldl_cons, List.foldl_nil, hqk]
        | some q2 =>
          cases hxk : (decV Q key k W)[k]? with
          | none =>
            unfold decV at hxk ⊢
            rw [List.range_succ, List.foldl_append]
            simp only [List.foldl_cons, List.foldl_nil, hqk, hxk]
          | some x2 =>
            rw [decV_succ hqk hxk]
            split
            · rw [List.getElem?_set_ne (Ne.symm hik)]
            · rfl
      rw [e, ih]
      by_cases h : i < k
      · have h2 : i < k + 1 := by omega
        simp [h, h2]
      · have h2 : ¬ i < k + 1 := by omega
        simp [h, h2]
theorem limF_none {Q : List Qt} {V : List Lv} {key : ByteArray} {t : Int} (hV : V.length = Q.length) (h : ∀ (j : Nat) q y, Q[j]? = some q → (poured t Q V)[j]? = some y → fitsB key q = true → y.h ≠ 0) : limF Q V key t = none := by
  unfold limF
  rw [List.find?_eq_none]
  intro i hi hb
  have hf : fitsB key Q[i] = true := by
    unfold fitIx at hi
    exact (List.mem_filter.1 hi).2
  have hq : Q[i.val]? = some Q[i] := List.getElem?_eq_getElem i.isLt
  obtain ⟨x, hx⟩ : ∃ x, V[i.val]? = some x := ⟨_, List.getElem?_eq_getElem (by rw [hV]; exact i.isLt)⟩
  refine h i.val Q[i] _ hq (poured_at hq hx) hf ?_
  unfold noneLeft pourI at hb
  rw [hx] at hb
  simpa using hb
theorem limF_hit {Q : List Qt} {V : List Lv} {key : ByteArray} {t : Int} (hV : V.length = Q.length) {k : Nat} (hk : k < Q.length) (hf : fitsB key Q[k] = true) {y : Lv} (hy : (poured t Q V)[k]? = some y) (h0 : y.h = 0)
    (h : ∀ (j : Nat) q y, j < k → Q[j]? = some q → (poured t Q V)[j]? = some y → fitsB key q = true → y.h ≠ 0) : limF Q V key t = some ⟨k, hk⟩ := by
  have hpe : ∀ (i : Fin Q.length) z, (poured t Q V)[i.val]? = some z → noneLeft Q V t i = (z.h == 0) := fun i z hz => by
    have hq : Q[i.val]? = some Q[i] := List.getElem?_eq_getElem i.isLt
    obtain ⟨x, hx⟩ : ∃ x, V[i.val]? = some x := ⟨_, List.getElem?_eq_getElem (by rw [hV]; exact i.isLt)⟩
    rw [poured_at hq hx] at hz
    obtain rfl := Option.some.inj hz
    unfold noneLeft pourI
    rw [hx]; rfl
  have h1 : fitIx Q key (k + 1) = fitIx Q key k ++ [⟨k, hk⟩] := by rw [fitIx_succ hk, if_pos hf]
  obtain ⟨rest, hr⟩ := fitIx_pre Q key (k + 1)
  unfold limF
  rw [List.find?_eq_some_iff_append]
  refine ⟨by rw [hpe ⟨k, hk⟩ y hy, h0]; rfl, fitIx Q key k, rest, by rw [← hr, h1, List.append_assoc]; rfl, fun i hi => ?_⟩
  unfold fitIx at hi
  obtain ⟨hi1, hi2⟩ := List.mem_filter.1 hi
  have hik : i.val < k := by
    obtain ⟨j, hj⟩ := List.mem_iff_getElem?.1 hi1
    rw [List.getElem?_take] at hj
    split at hj
    · rename_i hjk
      have := (List.getElem?_eq_some_iff.1 hj)
      obtain ⟨hjl, hje⟩ := this
      rw [List.getElem_finRange] at hje
      have : i.val = j := by rw [← hje]; rfl
      omega
    · cases hj
  have hq : Q[i.val]? = some Q[i] := List.getElem?_eq_getElem i.isLt
  obtain ⟨x, hx⟩ : ∃ x, V[i.val]? = some x := ⟨_, List.getElem?_eq_getElem (by rw [hV]; exact i.isLt)⟩
  have hp := poured_at (t := t) hq hx
  rw [hpe i _ hp]
  have := h i.val Q[i] _ hik hq hp hi2
  simpa using this
/-- The reference's levels behind a question. -/
def askVR (Q : List Qt) (RT : List RtK) (V : List Lv) (id key : ByteArray) (t : Int) : List Lv :=
  if hasR key RT = true ∧ sampledB id (getR key RT) = false then V
  else match limF Q V key t with
    | some _ => poured t Q V
    | none => decV Q key Q.length (poured t Q V)
end Go.Proofs.YtkoijhecahebgaaDoor

/- Ask of the reference. -/
namespace Go.Proofs.YtkoijhecahebgaaDoor
open Go.RowKit Go.Maps
set_option linter.unusedVariables false
set_option linter.unusedSimpArgs false
set_option maxRecDepth 100000 in
set_option maxHeartbeats 4000000 in
theorem AskR_err (p : Nat) (g t : Int) (id key : ByteArray) (w : World) (hid : id.size ≤ maxLen) (hkl : key.size ≤ maxLen) (h2 : w.cell? ⟨p, 2, none⟩ = some (.int .i64 g)) (he : askE id key t g ≠ 0) :
    Calls Tryd.prog 12 #[.pointer (some ⟨p, 0, none⟩), .string id, .string key, .int .i64 t] w fun e w' => e = .returned (.tuple #[.int .i64 0, .string ⟨#[]⟩, .int .i64 0, .int .i64 (askE id key t g)]) ∧ w = w' := by
  have CK := hide (WordError_any key w hkl)
  have CM := hide (Moment_any t w)
  by_cases h1 : 200 < id.size
  · have hl : (200 : Int) < (id.size : Int) := by omega
    have E := hide (show askE id key t g = 4 by rw [askE, if_pos h1])
    go_enter Tryd.func12, Tryd.ntmps12
    go_wp2_with (fail)
    refine bodyPost_ret (by simp [results, Tryd.results12, go_sem]; try rfl) rfl ?_
    exact ⟨by rw [E.out], rfl⟩
  · have hl : ¬ (200 : Int) < (id.size : Int) := by omega
    by_cases hk : keyErr key = 0
    · rw [hk] at CK
      have E1 := hide (show askE id key t g = momE t g by rw [askE, if_neg h1, hk]; rfl)
      cases ho : outsideB t 0 3155759999
      · rw [ho] at CM
        have hlt : t < g := by
          have h5 := he
          rw [E1.out, momE, ho, if_neg (by decide)] at h5
          by_cases hc : t < g
          · exact hc
          · rw [if_neg hc] at h5; exact absurd rfl h5
        have E := hide (show askE id key t g = 5 by rw [E1.out, momE, ho, if_neg (by decide), if_pos hlt])
        go_enter Tryd.func12, Tryd.ntmps12
        go_wp2_with (first | (go_at_call 27; refine (CK.out).mono ?_; rintro e w' ⟨rfl, rfl⟩) | (go_at_call 9; refine (CM.out).mono ?_; rintro e w' ⟨rfl, rfl⟩))
        refine bodyPost_ret (by simp [results, Tryd.results12, go_sem]; try rfl) rfl ?_
        exact ⟨by rw [E.out], rfl⟩
      · rw [ho] at CM
        have E := hide (show askE id key t g = 2 by rw [E1.out, momE, ho, if_pos rfl])
        go_enter Tryd.func12, Tryd.ntmps12
        go_wp2_with (first | (go_at_call 27; refine (CK.out).mono ?_; rintro e w' ⟨rfl, rfl⟩) | (go_at_call 9; refine (CM.out).mono ?_; rintro e w' ⟨rfl, rfl⟩))
        refine bodyPost_ret (by simp [results, Tryd.results12, go_sem]; try rfl) rfl ?_
        exact ⟨by rw [E.out], rfl⟩
    · have E := hide (show askE id key t g = keyErr key by rw [askE, if_neg h1, if_neg hk])
      have hne : (keyErr key == 0) = false := by simpa using hk
      go_enter Tryd.func12, Tryd.ntmps12
      go_wp2_with (first | (go_at_call 27; refine (CK.out).mono ?_; rintro e w' ⟨rfl, rfl⟩) | (go_at_call 9; refine (CM.out).mono ?_; rintro e w' ⟨rfl, rfl⟩))
      refine bodyPost_ret (by simp [results, Tryd.results12, go_sem]; try rfl) rfl ?_
      exact ⟨by rw [E.out], rfl⟩
section
variable {B : Nat} {W W' : World} {p n qc lc tc : Nat} {qA lA tA : Option Addr} {rv : Value} {g : Int} {V : List Lv} {TL : List Tl}
theorem GRm.below (h : GRm B W p n qc lc tc qA lA tA rv g V TL) (hb : Below W.heap.size W W') : GRm B W' p n qc lc tc qA lA tA rv g V TL :=
  ⟨block_below h.box hb, own_below h.lev hb, own_below h.tal hb, h.pl⟩
theorem GRm.lne (h : GRm B W p n qc lc tc qA lA tA rv g V TL) {k : Nat} (hk : (Value.slice lA n lc).ownBlock = some k) : k ≠ p ∧ (Value.slice tA TL.length tc).ownBlock ≠ some k := by
  obtain ⟨cur, hc⟩ := row_blk h.lev hk
  refine ⟨fun e => ?_, fun e => ?_⟩
  · rw [e, h.box] at hc; cases hc
  · obtain ⟨cur2, hc2⟩ := row_blk h.tal e
    rw [hc2] at hc; cases hc
theorem GRm.tne (h : GRm B W p n qc lc tc qA lA tA rv g V TL) {k : Nat} (hk : (Value.slice tA TL.length tc).ownBlock = some k) : k ≠ p := by
  obtain ⟨cur, hc⟩ := row_blk h.tal hk
  intro e
  rw [e, h.box] at hc; cases hc
/-- One more is counted. -/
theorem tallyG (h : GRm B W p n qc lc tc qA lA tA rv g V TL) (hBz : B ≤ W.heap.size) (hn : TL.length ≤ 1000) (hm : ∀ x ∈ TL, 0 ≤ x.many ∧ x.many ≤ 1000) (tk tn : ByteArray) (ty : Int) :
    Calls Tryd.prog 39 #[.pointer (some ⟨p, 0, none⟩), .string tk, .int .i64 ty, .string tn] W fun e W' => e = .returned (.tuple #[]) ∧ ∃ tA' tc', GRm B W' p n qc lc tc' qA lA tA' rv g V (incT (tk, ty, tn) TL) ∧ Below B W W' ∧ (∀ k o, W.heap[k]? = some o → k ≠ p → (Value.slice tA TL.length tc).ownBlock ≠ some k → W'.heap[k]? = some o) ∧ (∀ k, (Value.slice tA' (incT (tk, ty, tn) TL).length tc').ownBlock = some k → (Value.slice tA TL.length tc).ownBlock = some k ∨ W.heap.size ≤ k) := by
  refine (tally_ok p B _ _ _ _ _ TL tk tn ty W h.box h.tal h.pl hBz hn hm).mono ?_
  rintro e w' ⟨rfl, tv', h1, h2, h3, h4⟩
  obtain ⟨A', c', rfl⟩ := own_sl h2
  exact ⟨rfl, A', c', ⟨h1, own_stay h.lev (fun k o e ho => h3.keep k o ho (fun e2 => by
    rcases e2 with e2 | e2
    · exact (h.lne e).1 e2
    · exact (h.lne e).2 e2)), h2, h.pl⟩, h3.be, fun k o e n1 n2 => h3.keep k o e (fun e2 => e2.elim n1 n2), h4⟩
end
set_option maxRecDepth 100000 in
set_option maxHeartbeats 16000000 in
theorem AskR_ok {B : Nat} {w : World} {p n qc lc tc rn rc : Nat} {qA lA tA rA : Option Addr} {g : Int} {V : List Lv} {TL : List Tl} {Q : List Qt} {RT : List RtK} (h : GRm B w p n qc lc tc qA lA tA (.slice rA rn rc) g V TL) (t : Int) (id key : ByteArray)
    (hq : Sl w B Qt.cs 5 qA n Q) (hr : Sl w B RtK.cs 2 rA rn RT) (hrn : rn ≤ 200) (hV : V.length = n) (hok : LvsOk Q V) (hn5 : n ≤ 50) (hBz : B ≤ w.heap.size) (hg : ∀ x ∈ V, x.t ≤ g)
    (hun : ∀ (k : Nat) x, RT[k]? = some x → getR x.key RT = x.keep ∧ 0 ≤ x.keep ∧ x.keep ≤ 1000000) (hTn : TL.length ≤ 1000) (hTm : ∀ x ∈ TL, 0 ≤ x.many ∧ x.many ≤ 1000) (hid : id.size ≤ 200) (hke : keyErr key = 0) (hkl : key.size ≤ maxLen) (hE : momE t g = 0) :
    Calls Tryd.prog 12 #[.pointer (some ⟨p, 0, none⟩), .string id, .string key, .int .i64 t] w fun e w' => e = .returned (askV (askO Q RT V TL id key t).1) ∧
      ∃ lA' lc' tA' tc', GRm B w' p n qc lc' tc' qA lA' tA' (.slice rA rn rc) t (askVR Q RT V id key t) (askO Q RT V TL id key t).2.2 ∧ Keep B (fun k => k = p ∨ (Value.slice tA TL.length tc).ownBlock = some k) w w' ∧ (∀ k, (Value.slice tA' (askO Q RT V TL id key t).2.2.length tc').ownBlock = some k → (Value.slice tA TL.length tc).ownBlock = some k ∨ w.heap.size ≤ k) ∧ (∀ k, (Value.slice lA' n lc').ownBlock = some k → (Value.slice lA n lc).ownBlock = some k ∨ w.heap.size ≤ k) := by
  have hql := hq.len
  have hrl := hr.len
  have hid1 : ¬ (200 : Int) < (id.size : Int) := by omega
  have hidm : id.size ≤ maxLen := by unfold maxLen; omega
  have CK := hide (WordError_any key w hkl)
  rw [hke] at CK
  have CM := hide (Moment_any t w)
  have hmo : outsideB t 0 3155759999 = false ∧ ¬ t < g ∧ t ≤ 3155759999 := by
    unfold momE at hE
    split at hE
    · cases hE
    · rename_i ho
      split at hE
      · cases hE
      · rename_i hlt
        have ho' : outsideB t 0 3155759999 = false := by simpa using ho
        exact ⟨ho', hlt, by simp [outsideB] at ho'; omega⟩
  obtain ⟨hm1, hm2, hm3⟩ := hmo
  rw [hm1] at CM
  have hp := lt_of_block h.box
  have c2 : w.cell? ⟨p, 2, none⟩ = some (.int .i64 g) := (block_cell h.box 2).trans rfl
  have f2 : w.frozen? ⟨p, 2, none⟩ = false := block_free h.box 2
  have h1 : GRm B (w.setCell ⟨p, 2, none⟩ (.int .i64 t)) p n qc lc tc qA lA tA (.slice rA rn rc) t V TL :=
    ⟨(block_set h.box _).trans rfl, own_stay h.lev (fun k o e ho => block_set_other ho _ _ (h.lne e).1), own_stay h.tal (fun k o e ho => block_set_other ho _ _ (h.tne e)), h.pl⟩
  have H1 := hide h1
  have HB1 := hide (Keep.set (B := B) (P := fun k => k = p ∨ (Value.slice tA TL.length tc).ownBlock = some k) (c := p) w 2 (.int .i64 t) h.pl (.inl rfl))
  have d1 : (w.setCell ⟨p, 2, none⟩ (.int .i64 t)).cell? ⟨p, 1, none⟩ = some (.slice rA rn rc) := (block_cell h1.box 1).trans rfl
  have HQ := hide hq
  have HR := hide hr
  have HUN := hide hun
  have HTM := hide hTm
  have HOK := hide hok
  have HG := hide hg
  have HS1 := hide (show (w.setCell ⟨p, 2, none⟩ (.int .i64 t)).heap.size = w.heap.size by simp)
  clear h1 h hq hr hun hTm hok hg hke hE
  go_enter Tryd.func12, Tryd.ntmps12
  go_wp2_with (first | (go_at_call 27; refine (CK.out).mono ?_; rintro e w' ⟨rfl, rfl⟩) | (go_at_call 9; refine (CM.out).mono ?_; rintro e w' ⟨rfl, rfl⟩))
  obtain ⟨w1, hw1⟩ : ∃ w1, w.setCell ⟨p, 2, none⟩ (.int .i64 t) = w1 := ⟨_, rfl⟩
  rw [hw1] at H1 HB1 d1 HS1
  (try rw [hw1])
  have hs1 := HS1.out
  go_loopw [13, 48] (fun st i wr => ∃ (k : Nat) (sv : Int), i = .int .i64 (k : Int) ∧ k ≤ rn ∧ st = .int .i64 sv ∧ sv = (if hasR key (RT.take k) = true then 1000000000000 / getR key RT else 1000000) ∧ (∀ (j : Nat) x, j < k → RT[j]? = some x → x.key = key → sampledB id x.keep = true) ∧ Below w1.heap.size w1 wr) (fun _ i _ => rn - (intOf i).toNat)
  case atStart => exact ⟨0, _, rfl, Nat.zero_le _, rfl, rfl, fun j x hj => by omega, Below.refl _ _⟩
  case round =>
    obtain ⟨k, sv, rfl, hk, rfl, hsv, hsm, hB⟩ := hrel
    have HSV := hide hsv
    clear hsv
    have HB := hide hB
    have hzr := hB.size
    have H2 := hide (H1.out.below hB)
    have HBB := hide (HB1.out.trans (Keep.of_below hB (by omega)))
    have HSM := hide hsm
    by_cases hlt : k < rn
    · have hki : (k : Int) < (rn : Int) := by omega
      obtain ⟨bb, oo, x, rfl, hbb, hx, hc⟩ := (HR.out.below HBB.out.be).at_ hlt
      have r0 : wr.cell? ⟨bb, oo + k * 2, none⟩ = some (.string x.key) := by simpa using hc 0 _ rfl
      have r1 := hc 1 _ rfl
      obtain ⟨u0, u1, u2⟩ := HUN.out k x hx
      have HX := hide hx
      have HTK := hide (take_succ_get hx)
      have HAL := hide (hB.alloc hzr (.cells #[.string x.key, .int .i64 x.keep] 73))
      clear hc hx hsm hB
      by_cases hkey : x.key = key
      · have m1 : (x.key.toList == key.toList) = true := by rw [hkey]; simp
        have CS := hide (fun W => SampledAt_any id x.keep W hidm u1 u2)
        cases hsb : sampledB id x.keep
        · rw [hsb] at CS
          have hcond : hasR key RT = true ∧ sampledB id (getR key RT) = false := ⟨by
            unfold hasR
            exact List.any_eq_true.2 ⟨x, List.mem_of_getElem? HX.out, by simpa using hkey⟩, by rw [← hkey, u0]; exact hsb⟩
          have HO := hide (show askO Q RT V TL id key t = ((1, ⟨#[]⟩, 0), V, incT (key, 1, ⟨#[]⟩) TL) by rw [askO, if_pos hcond])
          have HVR := hide (show askVR Q RT V id key t = V by rw [askVR, if_pos hcond])
          have CT := hide (fun W' (hb : Below wr.heap.size wr W') => tallyG (H2.out.below hb) (by have := hb.size; omega) hTn HTM.out key ⟨#[]⟩ 1)
          have HKY := hide hkey
          clear hsb hcond hkey
          go_wp2_with (first | (go_at_call 38; refine (CS.out _).mono ?_; rintro e w' ⟨rfl, rfl⟩) | (go_at_call 39; refine (CT.out _ ((Below.refl _ _).alloc (Nat.le_refl _) _)).mono ?_; rintro e4 w4 ⟨rfl, tA', tc', hg4, hb4, hk4, hl4⟩))
          refine bodyPost_ret (by simp [results, Tryd.results12, go_sem]; try rfl) rfl ?_
          rw [HO.out, HVR.out]
          have hks : Keep B (fun k => k = p ∨ (Value.slice tA TL.length tc).ownBlock = some k) w w4 := (HBB.out.trans (Keep.of_below ((Below.refl _ _).alloc (Nat.le_refl _) _) (by omega))).trans ⟨hb4, fun k o e ne => hk4 k o e (fun e2 => ne (.inl e2)) (fun e2 => ne (.inr e2))⟩
          exact ⟨rfl, lA, lc, tA', tc', hg4, hks, fun k e => (hl4 k e).imp (fun e9 => e9) (fun e2 => by simp at e2; omega), fun k e => .inl e⟩
        · rw [hsb] at CS
          have hpos := sampled_pos hsb
          have hkp := hide (show getR key RT = x.keep by rw [← hkey]; exact u0)
          have hhs := hide (show hasR key (RT.take (k + 1)) = true by
            rw [HTK.out]; unfold hasR; rw [List.any_append]; simp [hkey])
          have HNX := hide (fun (j : Nat) y (hj : j < k + 1) (hy : RT[j]? = some y) (hyk : y.key = key) => show sampledB id y.keep = true by
            rcases Nat.lt_succ_iff_lt_or_eq.1 hj with h9 | rfl
            · exact HSM.out j y h9 hy hyk
            · rw [HX.out] at hy; cases hy; exact hsb)
          have HKY := hide hkey
          clear hsb hkey
          go_wp2_with (first | (go_at_call 38; refine (CS.out _).mono ?_; rintro e w' ⟨rfl, rfl⟩))
          all_goals (try go_region)
          all_goals (try go_wp2_with (fail))
          go_roundw
          case rel => exact ⟨k + 1, _, by go_num, by omega, rfl, by rw [if_pos hhs.out, hkp.out], HNX.out, HAL.out⟩
          case measure => simp [intOf]; omega
      · obtain ⟨m1, m2⟩ := str_ne hkey
        have hhs := hide (show hasR key (RT.take (k + 1)) = hasR key (RT.take k) by
          rw [HTK.out]; unfold hasR; rw [List.any_append]; simp [hkey])
        have HNX := hide (fun (j : Nat) y (hj : j < k + 1) (hy : RT[j]? = some y) (hyk : y.key = key) => show sampledB id y.keep = true by
          rcases Nat.lt_succ_iff_lt_or_eq.1 hj with h9 | rfl
          · exact HSM.out j y h9 hy hyk
          · rw [HX.out] at hy; cases hy; exact absurd hyk hkey)
        clear hkey
        go_wp2_with (fail)
        go_roundw
        case rel => exact ⟨k + 1, sv, by go_num, by omega, rfl, by rw [hhs.out]; exact HSV.out, HNX.out, HAL.out⟩
        case measure => simp [intOf]; omega
    · have hki : ¬ (k : Int) < (rn : Int) := by omega
      have hkl2 : RT.take k = RT := take_len RT (by omega)
      have hpass : ¬ (hasR key RT = true ∧ sampledB id (getR key RT) = false) := fun hc => by
        obtain ⟨y, hy, hyk⟩ := List.any_eq_true.1 hc.1
        have hyk' : y.key = key := by simpa using hyk
        obtain ⟨j, hj⟩ := List.mem_iff_getElem?.1 hy
        have h9 := hsm j y (by have := (List.getElem?_eq_some_iff.1 hj).1; omega) hj hyk'
        rw [← hyk', (HUN.out j y hj).1, h9] at hc
        cases hc.2
      have HSV2 := hide (show sv = if hasR key RT = true then 1000000000000 / getR key RT else 1000000 by rw [HSV.out, hkl2])
      have HPASS := hide hpass
      have hslq : Sl wr wr.heap.size Qt.cs 5 qA n Q := (HQ.out.below HBB.out.be).more (by omega)
      have hslv : Sl wr wr.heap.size Lv.cs 3 lA n V := by
        obtain ⟨A', c, e, hs, _⟩ := sl_of_own (f := Lv.cs) (fun _ => rfl) hV H2.out.lev
        cases e
        exact hs
      have CL := hide (LevelsAt_ok p n qc lc qA lA _ _ _ t Q V wr H2.out.box hslq hslv HOK.out hn5 (fun y hy => by have := HG.out y hy; omega) hm3)
      have HPO := hide (poured_len (t := t) (Q := Q) (V := V) (by omega))
      clear hpass hsm hB hslq hslv hkl2
      go_wp2_with (first | (go_at_call 16; refine CL.out.mono ?_; rintro e4 w4 ⟨v4, rfl, hrow4, hb4⟩; obtain ⟨lA4, lc4, rfl⟩ := own_sl hrow4; have H4 := hide (H2.out.below hb4); have HRW4 := hide hrow4; have HB4 := hide hb4; have HBB4 := hide (HBB.out.trans (Keep.of_below hb4 (by omega))); have e0 : w4.cell? ⟨p, 0, none⟩ = some (.slice qA n qc) := (block_cell H4.out.box 0).trans rfl; have e3 : w4.cell? ⟨p, 3, none⟩ = some (.slice lA n lc) := (block_cell H4.out.box 3).trans rfl; have ef3 : w4.frozen? ⟨p, 3, none⟩ = false := block_free H4.out.box 3; clear hrow4 hb4 CL))
      obtain ⟨w5, hw5, h5, hbb5⟩ : ∃ w5, w4.setCell ⟨p, 3, none⟩ (.slice lA4 n lc4) = w5 ∧ GRm B w5 p n qc lc4 tc qA lA4 tA (.slice rA rn rc) t (poured t Q V) TL ∧ Keep B (fun k => k = p ∨ (Value.slice tA TL.length tc).ownBlock = some k) w w5 :=
        ⟨_, rfl, ⟨(block_set (i := 3) H4.out.box _).trans rfl, own_stay (World.ownsRow.mono HRW4.out (by omega)) (fun k o e ho => block_set_other ho _ _ (by
          have h9 := (HRW4.out.lt k e).1
          have h8 := lt_of_block H2.out.box
          show k ≠ p
          omega)), own_stay H4.out.tal (fun k o e ho => block_set_other ho _ _ (H4.out.tne e)), H4.out.pl⟩, HBB4.out.trans (Keep.set _ _ _ H4.out.pl (.inl rfl))⟩
      (try rw [hw5])
      have H5 := hide h5
      have HBB5 := hide hbb5
      have hz5 := hbb5.be.size
      have HL4 := hide (show ∀ k, (Value.slice lA4 n lc4).ownBlock = some k → w.heap.size ≤ k from fun k e => by have h9 := (HRW4.out.lt k e).1; omega)
      obtain ⟨WP, hWP⟩ : ∃ WP, poured t Q V = WP := ⟨_, rfl⟩
      have HWP := hide hWP
      rw [hWP] at H5 HPO
      have hwpl := HPO.out
      have hpr := HPASS.out
      clear h5 hbb5 hw5 hWP
      go_loopw [79] (fun i wr => ∃ k : Nat, i = .int .i64 (k : Int) ∧ k ≤ n ∧ (∀ (j : Nat) q y, j < k → Q[j]? = some q → WP[j]? = some y → fitsB key q = true → y.h ≠ 0) ∧ Below w5.heap.size w5 wr) (fun i _ => n - (intOf i).toNat)
      case atStart => exact ⟨0, rfl, Nat.zero_le _, fun j q y hj => by omega, Below.refl _ _⟩
      case round =>
        obtain ⟨k, rfl, hk, hno, hB⟩ := hrel
        have HNO := hide hno
        have hzr5 := hB.size
        have H6 := hide (H5.out.below hB)
        have HBB6 := hide (HBB5.out.trans (Keep.of_below hB (by omega)))
        by_cases hlt : k < n
        · obtain ⟨qb, qo, q, rfl, hqb, hqx, hqc⟩ := (HQ.out.below HBB6.out.be).at_ hlt
          have q0 : wr.cell? ⟨qb, qo + k * 5, none⟩ = some (.string q.name) := by simpa using hqc 0 _ rfl
          have q1 : wr.cell? ⟨qb, qo + k * 5 + 1, none⟩ = some (.string q.key) := by simpa using hqc 1 _ rfl
          have q2 : wr.cell? ⟨qb, qo + k * 5 + 2, none⟩ = some (.int .i64 q.s) := by simpa using hqc 2 _ rfl
          have q3 : wr.cell? ⟨qb, qo + k * 5 + 3, none⟩ = some (.int .i64 q.a) := by simpa using hqc 3 _ rfl
          have q4 : wr.cell? ⟨qb, qo + k * 5 + 4, none⟩ = some (.int .i64 q.e) := by simpa using hqc 4 _ rfl
          obtain ⟨y, hvx⟩ : ∃ y, WP[k]? = some y := ⟨_, List.getElem?_eq_getElem (by omega)⟩
          obtain ⟨lb, cp, cur, ev, hlbB, _⟩ := own_blk H6.out.lev (by omega)
          simp at ev
          obtain ⟨rfl, rfl⟩ := ev
          have hgc : ∀ r u, y.cs[r]? = some u → wr.cell? ⟨lb, k * 3 + r, none⟩ = some u := fun r u hu => own_cell H6.out.lev (k * 3 + r) u (by
            have hr3 : r < 3 := by have := (List.getElem?_eq_some_iff.1 hu).1; simpa [Lv.cs] using this
            rw [fm_get (f := Lv.cs) (sz := 3) (fun _ => rfl) _ k r hr3, hvx]; exact hu)
          have y0 : wr.cell? ⟨lb, k * 3, none⟩ = some (.int .i64 y.h) := by simpa using hgc 0 _ rfl
          have p3 : wr.cell? ⟨p, 3, none⟩ = some (.slice (some ⟨lb, 0, none⟩) n lc4) := (block_cell H6.out.box 3).trans rfl
          have hki : (k : Int) < (n : Int) := by omega
          have HQX := hide hqx
          have HVX := hide hvx
          have HAL := hide (hB.alloc hzr5 (.cells #[.string q.name, .string q.key, .int .i64 q.s, .int .i64 q.a, .int .i64 q.e] 58))
          clear hqc hqx hvx hgc hno hB
          by_cases e1 : q.key = ByteArray.empty
          · have HF := hide (show fitsB key q = true by rw [fitsB, e1]; simp [beqT])
            have m0 : q.key.toList = [] := by rw [e1, ByteArray.toList_eq]; rfl
            clear e1
            by_cases hz : y.h = 0
            · have hlm : limF Q V key t = some ⟨k, by omega⟩ := by
                have hqk : Q[k]'(by omega) = q := by
                  have h9 := HQX.out
                  rw [List.getElem?_eq_getElem (by omega)] at h9
                  exact Option.some.inj h9
                refine limF_hit (by omega) (by omega) (by rw [hqk]; exact HF.out) (by rw [HWP.out]; exact HVX.out) hz (fun j q' y' hj hq' hy' hf' => ?_)
                rw [HWP.out] at hy'
                exact HNO.out j q' y' hj hq' hy' hf'
              have hqk : Q[k]'(by omega) = q := by
                have h9 := HQX.out
                rw [List.getElem?_eq_getElem (by omega)] at h9
                exact Option.some.inj h9
              have HO := hide (show askO Q RT V TL id key t = ((2, q.name, 0), V, incT (key, 2, q.name) TL) by
                rw [askO, if_neg HPASS.out, hlm, ← hqk]; rfl)
              have HVR := hide (show askVR Q RT V id key t = WP by rw [askVR, if_neg HPASS.out, hlm]; exact HWP.out)
              have CT := hide (fun W' (hb : Below wr.heap.size wr W') => tallyG (H6.out.below hb) (by have := hb.size; omega) hTn HTM.out key q.name 2)
              have HBN := hide (heap_alloc_new wr (.cells #[.string q.name, .string q.key, .int .i64 q.s, .int .i64 q.a, .int .i64 q.e] 58))
              have hpw := lt_of_block H6.out.box
              clear hlm hqk
              go_wp2_with (first | (go_at_call 39; refine (CT.out _ ((Below.refl _ _).alloc (Nat.le_refl _) _)).mono ?_; rintro e7 w7 ⟨rfl, tA', tc', hg7, hb7, hkp7, hl7⟩; have HG7 := hide hg7; have HL7 := hide hl7; have HB7 := hide ((HBB6.out.trans (Keep.of_below ((Below.refl _ _).alloc (Nat.le_refl _) (.cells #[.string q.name, .string q.key, .int .i64 q.s, .int .i64 q.a, .int .i64 q.e] 58)) (by omega))).trans (⟨hb7, fun k o e ne => hkp7 k o e (fun e2 => ne (.inl e2)) (fun e2 => ne (.inr e2))⟩ : Keep B (fun k => k = p ∨ (Value.slice tA TL.length tc).ownBlock = some k) _ _)); have hn7 := hkp7 _ _ HBN.out (by omega) (fun e => by have := (H6.out.tal.lt _ e).2; omega); have n0 : w7.cell? ⟨wr.heap.size, 0, none⟩ = some (.string q.name) := (block_cell hn7 0).trans rfl; clear hg7 hb7 hkp7 hl7 CT))
              go_region
              all_goals go_wp2_with (fail)
              all_goals refine bodyPost_ret (by simp [results, Tryd.results12, go_sem]; try rfl) rfl ?_
              all_goals rw [HO.out, HVR.out]
              all_goals exact ⟨rfl, some ⟨lb, 0, none⟩, lc4, tA', tc', ⟨HG7.out.box, HG7.out.lev, HG7.out.tal, HG7.out.pl⟩, ⟨below_drewN HB7.out.be 1, HB7.out.keep⟩, fun k e => (HL7.out k e).imp (fun e9 => e9) (fun e2 => by simp at e2; omega), fun k e => .inr (HL4.out k e)⟩
            · have HZ := hide hz
              have HNX := hide (fun (j : Nat) q' y' (hj : j < k + 1) (hq' : Q[j]? = some q') (hy' : WP[j]? = some y') (hf' : fitsB key q' = true) => show y'.h ≠ 0 by
                rcases Nat.lt_succ_iff_lt_or_eq.1 hj with h9 | rfl
                · exact HNO.out j q' y' h9 hq' hy' hf'
                · rw [HQX.out] at hq'; cases hq'
                  rw [HVX.out] at hy'; cases hy'
                  exact HZ.out)
              go_wp2_with (fail)
              go_roundw
              case rel => exact ⟨k + 1, by go_num, by omega, HNX.out, HAL.out⟩
              case measure => simp [intOf]; omega
          · have m1 : q.key.toList.isEmpty = false := by
              obtain ⟨m1, m2⟩ := str_ne e1
              cases h : q.key.toList with
              | nil => exact absurd (by rw [h, ByteArray.toList_eq]; rfl) m2
              | cons a l => rfl
            have m2 : ¬ q.key.toList = [] := by
              intro h; rw [h] at m1; cases m1
            by_cases e2 : q.key = key
            · have HF := hide (show fitsB key q = true by rw [fitsB, e2]; simp [beqT])
              have m3 : (q.key.toList == key.toList) = true := by rw [e2]; simp
              clear e1 e2
              by_cases hz : y.h = 0
              · have hlm : limF Q V key t = some ⟨k, by omega⟩ := by
                  have hqk : Q[k]'(by omega) = q := by
                    have h9 := HQX.out
                    rw [List.getElem?_eq_getElem (by omega)] at h9
                    exact Option.some.inj h9
                  refine limF_hit (by omega) (by omega) (by rw [hqk]; exact HF.out) (by rw [HWP.out]; exact HVX.out) hz (fun j q' y' hj hq' hy' hf' => ?_)
                  rw [HWP.out] at hy'
                  exact HNO.out j q' y' hj hq' hy' hf'
                have hqk : Q[k]'(by omega) = q := by
                  have h9 := HQX.out
                  rw [List.getElem?_eq_getElem (by omega)] at h9
                  exact Option.some.inj h9
                have HO := hide (show askO Q RT V TL id key t = ((2, q.name, 0), V, incT (key, 2, q.name) TL) by
                  rw [askO, if_neg HPASS.out, hlm, ← hqk]; rfl)
                have HVR := hide (show askVR Q RT V id key t = WP by rw [askVR, if_neg HPASS.out, hlm]; exact HWP.out)
                have CT := hide (fun W' (hb : Below wr.heap.size wr W') => tallyG (H6.out.below hb) (by have := hb.size; omega) hTn HTM.out key q.name 2)
                have HBN := hide (heap_alloc_new wr (.cells #[.string q.name, .string q.key, .int .i64 q.s, .int .i64 q.a, .int .i64 q.e] 58))
                have hpw := lt_of_block H6.out.box
                clear hlm hqk
                go_wp2_with (first | (go_at_call 39; refine (CT.out _ ((Below.refl _ _).alloc (Nat.le_refl _) _)).mono ?_; rintro e7 w7 ⟨rfl, tA', tc', hg7, hb7, hkp7, hl7⟩; have HG7 := hide hg7; have HL7 := hide hl7; have HB7 := hide ((HBB6.out.trans (Keep.of_below ((Below.refl _ _).alloc (Nat.le_refl _) (.cells #[.string q.name, .string q.key, .int .i64 q.s, .int .i64 q.a, .int .i64 q.e] 58)) (by omega))).trans (⟨hb7, fun k o e ne => hkp7 k o e (fun e2 => ne (.inl e2)) (fun e2 => ne (.inr e2))⟩ : Keep B (fun k => k = p ∨ (Value.slice tA TL.length tc).ownBlock = some k) _ _)); have hn7 := hkp7 _ _ HBN.out (by omega) (fun e => by have := (H6.out.tal.lt _ e).2; omega); have n0 : w7.cell? ⟨wr.heap.size, 0, none⟩ = some (.string q.name) := (block_cell hn7 0).trans rfl; clear hg7 hb7 hkp7 hl7 CT))
                go_region
                all_goals go_wp2_with (fail)
                all_goals refine bodyPost_ret (by simp [results, Tryd.results12, go_sem]; try rfl) rfl ?_
                all_goals rw [HO.out, HVR.out]
                all_goals exact ⟨rfl, some ⟨lb, 0, none⟩, lc4, tA', tc', ⟨HG7.out.box, HG7.out.lev, HG7.out.tal, HG7.out.pl⟩, ⟨below_drewN HB7.out.be 1, HB7.out.keep⟩, fun k e => (HL7.out k e).imp (fun e9 => e9) (fun e2 => by simp at e2; omega), fun k e => .inr (HL4.out k e)⟩
              · have HZ := hide hz
                have HNX := hide (fun (j : Nat) q' y' (hj : j < k + 1) (hq' : Q[j]? = some q') (hy' : WP[j]? = some y') (hf' : fitsB key q' = true) => show y'.h ≠ 0 by
                  rcases Nat.lt_succ_iff_lt_or_eq.1 hj with h9 | rfl
                  · exact HNO.out j q' y' h9 hq' hy' hf'
                  · rw [HQX.out] at hq'; cases hq'
                    rw [HVX.out] at hy'; cases hy'
                    exact HZ.out)
                go_wp2_with (fail)
                go_roundw
                case rel => exact ⟨k + 1, by go_num, by omega, HNX.out, HAL.out⟩
                case measure => simp [intOf]; omega
            · have HF := hide (show fitsB key q = false by
                rw [fitsB, ← beqT_toList, ← beqT_toList, (str_ne e1).1, (str_ne e2).1]; rfl)
              obtain ⟨m3, m4⟩ := str_ne e2
              clear e1 e2
              have HNX := hide (fun (j : Nat) q' y' (hj : j < k + 1) (hq' : Q[j]? = some q') (hy' : WP[j]? = some y') (hf' : fitsB key q' = true) => show y'.h ≠ 0 by
                rcases Nat.lt_succ_iff_lt_or_eq.1 hj with h9 | rfl
                · exact HNO.out j q' y' h9 hq' hy' hf'
                · rw [HQX.out] at hq'; cases hq'
                  rw [HVX.out] at hy'; cases hy'
                  rw [HF.out] at hf'; cases hf')
              go_wp2_with (fail)
              go_roundw
              case rel => exact ⟨k + 1, by go_num, by omega, HNX.out, HAL.out⟩
              case measure => simp [intOf]; omega
        · have hki : ¬ (k : Int) < (n : Int) := by omega
          have hlm : limF Q V key t = none := limF_none (by omega) (fun j q' y' hq' hy' hf' => by
            rw [HWP.out] at hy'
            exact hno j q' y' (by have := (List.getElem?_eq_some_iff.1 hq').1; omega) hq' hy' hf')
          have HO := hide (show askO Q RT V TL id key t = ((0, ⟨#[]⟩, sv), limV Q V t (fitIx Q key Q.length), incT (key, 0, ⟨#[]⟩) TL) by
            rw [askO, if_neg HPASS.out, hlm, HSV2.out])
          have HVR := hide (show askVR Q RT V id key t = decV Q key n WP by rw [askVR, if_neg HPASS.out, hlm, ← hql, ← HWP.out])
          have b0 : wr.cell? ⟨p, 0, none⟩ = some (.slice qA n qc) := (block_cell H6.out.box 0).trans rfl
          clear hlm hno hB
          go_wp2_with (fail)
          go_loopw [117] (fun i wr => ∃ k : Nat, i = .int .i64 (k : Int) ∧ k ≤ n ∧ GRm B wr p n qc lc4 tc qA lA4 tA (.slice rA rn rc) t (decV Q key k WP) TL ∧ Keep B (fun k => k = p ∨ (Value.slice tA TL.length tc).ownBlock = some k) w wr) (fun i _ => n - (intOf i).toNat)
          case atStart => exact ⟨0, rfl, Nat.zero_le _, H6.out, HBB6.out⟩
          case round =>
            obtain ⟨k, rfl, hk3, hgk, hbk⟩ := hrel
            have H7 := hide hgk
            have HBB7 := hide hbk
            have hz7 := hbk.be.size
            by_cases hlt : k < n
            · have hki : (k : Int) < (n : Int) := by omega
              obtain ⟨qb, qo, q, rfl, hqb, hqx, hqc⟩ := (HQ.out.below HBB7.out.be).at_ hlt
              have q0 : wr.cell? ⟨qb, qo + k * 5, none⟩ = some (.string q.name) := by simpa using hqc 0 _ rfl
              have q1 : wr.cell? ⟨qb, qo + k * 5 + 1, none⟩ = some (.string q.key) := by simpa using hqc 1 _ rfl
              have q2 : wr.cell? ⟨qb, qo + k * 5 + 2, none⟩ = some (.int .i64 q.s) := by simpa using hqc 2 _ rfl
              have q3 : wr.cell? ⟨qb, qo + k * 5 + 3, none⟩ = some (.int .i64 q.a) := by simpa using hqc 3 _ rfl
              have q4 : wr.cell? ⟨qb, qo + k * 5 + 4, none⟩ = some (.int .i64 q.e) := by simpa using hqc 4 _ rfl
              obtain ⟨v9, hv9⟩ : ∃ v, V[k]? = some v := ⟨_, List.getElem?_eq_getElem (by omega)⟩
              have hvw : WP[k]? = some (pourL q t v9) := by rw [← HWP.out]; exact poured_at hqx hv9
              obtain ⟨y, hy⟩ : ∃ y, pourL q t v9 = y := ⟨_, rfl⟩
              rw [hy] at hvw
              have hvx : (decV Q key k WP)[k]? = some y := by rw [decV_at k WP k q y hqx hvw, if_neg (by omega)]
              have hyo := (HOK.out k q v9 hqx hv9).pour (t := t) (by have := HG.out v9 (List.mem_of_getElem? hv9); omega) hm3
              rw [hy] at hyo
              have HYO := hide (show 0 ≤ y.h ∧ y.h ≤ q.s ∧ q.s ≤ 1000000000 from ⟨hyo.h0, hyo.h1, hyo.bk.2.1⟩)
              obtain ⟨lb, cp, cur, ev, hlbB, _⟩ := own_blk hgk.lev (by omega)
              simp at ev
              obtain ⟨rfl, rfl⟩ := ev
              have hgc : ∀ r u, y.cs[r]? = some u → wr.cell? ⟨lb, k * 3 + r, none⟩ = some u := fun r u hu => own_cell hgk.lev (k * 3 + r) u (by
                have hr3 : r < 3 := by have := (List.getElem?_eq_some_iff.1 hu).1; simpa [Lv.cs] using this
                rw [fm_get (f := Lv.cs) (sz := 3) (fun _ => rfl) _ k r hr3, hvx]; exact hu)
              have y0 : wr.cell? ⟨lb, k * 3, none⟩ = some (.int .i64 y.h) := by simpa using hgc 0 _ rfl
              have yf : wr.frozen? ⟨lb, k * 3, none⟩ = false := own_free hgk.lev _
              have p3 : wr.cell? ⟨p, 3, none⟩ = some (.slice (some ⟨lb, 0, none⟩) n lc4) := (block_cell hgk.box 3).trans rfl
              have hlp := (hgk.lne (k := lb) rfl).1
              have hpw := lt_of_block hgk.box
              have HQX := hide hqx
              have HVX := hide hvx
              have h8 : GRm B (wr.setCell ⟨lb, k * 3, none⟩ (.int .i64 (y.h - 1))) p n qc lc4 tc (some ⟨qb, qo, none⟩) (some ⟨lb, 0, none⟩) tA (.slice rA rn rc) t ((decV Q key k WP).set k y.less) TL := by
                refine ⟨block_set_other hgk.box _ _ (fun e => hlp e.symm), ?_, own_stay hgk.tal (fun k' o e ho => block_set_other ho _ _ (fun e2 => (hgk.lne (k := lb) rfl).2 (by rw [← show k' = lb from e2]; exact e))), hgk.pl⟩
                rw [fm_set (f := Lv.cs) (sz := 3) (fun _ => rfl) (decV Q key k WP) k 0 y y.less (.int .i64 (y.h - 1)) (by decide) hvx rfl]
                exact own_set hgk.lev _ _
              have HGS := hide (h8.below ((Below.refl _ _).alloc (Nat.le_refl _) (.cells #[.string q.name, .string q.key, .int .i64 q.s, .int .i64 q.a, .int .i64 q.e] 58)))
              have HBS := hide (show Keep B (fun k => k = p ∨ (Value.slice tA TL.length tc).ownBlock = some k) w ((wr.setCell ⟨lb, k * 3, none⟩ (.int .i64 (y.h - 1))).alloc (.cells #[.string q.name, .string q.key, .int .i64 q.s, .int .i64 q.a, .int .i64 q.e] 58)) from ⟨(below_set (i := k * 3) hbk.be hlbB (.int .i64 (y.h - 1))).alloc (by rw [World.size_setCell]; omega) (.cells #[.string q.name, .string q.key, .int .i64 q.s, .int .i64 q.a, .int .i64 q.e] 58), fun k' o e ne => block_below (block_set_other (hbk.keep k' o e ne) _ _ (by have h9 := HL4.out lb rfl; have h8 := lt_of_block e; show k' ≠ lb; omega)) ((Below.refl _ _).alloc (Nat.le_refl _) (.cells #[.string q.name, .string q.key, .int .i64 q.s, .int .i64 q.a, .int .i64 q.e] 58))⟩)
              have HGA := hide (hgk.below ((Below.refl _ _).alloc (Nat.le_refl _) (.cells #[.string q.name, .string q.key, .int .i64 q.s, .int .i64 q.a, .int .i64 q.e] 58)))
              have HAL := hide (hbk.trans (Keep.of_below ((Below.refl _ _).alloc (Nat.le_refl _) (.cells #[.string q.name, .string q.key, .int .i64 q.s, .int .i64 q.a, .int .i64 q.e] 58)) (by omega)))
              clear hqc hqx hvx hgc hgk hbk h8 hv9 hvw hy hyo
              by_cases e1 : q.key = ByteArray.empty
              · have HF := hide (show fitsB key q = true by rw [fitsB, e1]; simp [beqT])
                have m0 : q.key.toList = [] := by rw [e1, ByteArray.toList_eq]; rfl
                clear e1
                have hyb := HYO.out
                obtain ⟨yb1, yb2, yb3⟩ := hyb
                have hdk := hide (show decV Q key (k + 1) WP = (decV Q key k WP).set k y.less by rw [decV_succ HQX.out HVX.out, if_pos HF.out])
                go_wp2_with (fail)
                go_roundw
                case rel => exact ⟨k + 1, by go_num, by omega, by rw [hdk.out]; exact HGS.out, HBS.out⟩
                case measure => simp [intOf]; omega
              · have m1 : q.key.toList.isEmpty = false := by
                  obtain ⟨m1, m2⟩ := str_ne e1
                  cases h : q.key.toList with
                  | nil => exact absurd (by rw [h, ByteArray.toList_eq]; rfl) m2
                  | cons a l => rfl
                have m2 : ¬ q.key.toList = [] := by
                  intro h; rw [h] at m1; cases m1
                by_cases e2 : q.key = key
                · have HF := hide (show fitsB key q = true by rw [fitsB, e2]; simp [beqT])
                  have m3 : (q.key.toList == key.toList) = true := by rw [e2]; simp
                  clear e1 e2
                  have hyb := HYO.out
                  obtain ⟨yb1, yb2, yb3⟩ := hyb
                  have hdk := hide (show decV Q key (k + 1) WP = (decV Q key k WP).set k y.less by rw [decV_succ HQX.out HVX.out, if_pos HF.out])
                  go_wp2_with (fail)
                  go_roundw
                  case rel => exact ⟨k + 1, by go_num, by omega, by rw [hdk.out]; exact HGS.out, HBS.out⟩
                  case measure => simp [intOf]; omega
                · have HF := hide (show fitsB key q = false by
                    rw [fitsB, ← beqT_toList, ← beqT_toList, (str_ne e1).1, (str_ne e2).1]; rfl)
                  obtain ⟨m3, m4⟩ := str_ne e2
                  clear e1 e2
                  have hdk := hide (show decV Q key (k + 1) WP = decV Q key k WP by rw [decV_succ HQX.out HVX.out, if_neg (by rw [HF.out]; decide)])
                  go_wp2_with (fail)
                  go_roundw
                  case rel => exact ⟨k + 1, by go_num, by omega, by rw [hdk.out]; exact HGA.out, HAL.out⟩
                  case measure => simp [intOf]; omega
            · have hki : ¬ (k : Int) < (n : Int) := by omega
              obtain rfl : n = k := by omega
              have CT := hide (tallyG H7.out (by omega) hTn HTM.out key ⟨#[]⟩ 0)
              clear hgk hbk
              go_wp2_with (first | (go_at_call 39; refine CT.out.mono ?_; rintro e7 w7 ⟨rfl, tA', tc', hg7, hb7, hkp7, hl7⟩; have HG7 := hide hg7; have HL7 := hide hl7; have HB7 := hide (HBB7.out.trans (⟨hb7, fun k o e ne => hkp7 k o e (fun e2 => ne (.inl e2)) (fun e2 => ne (.inr e2))⟩ : Keep B (fun k => k = p ∨ (Value.slice tA TL.length tc).ownBlock = some k) _ _)); clear hg7 hb7 hkp7 hl7 CT))
              refine bodyPost_ret (by simp [results, Tryd.results12, go_sem]; try rfl) rfl ?_
              rw [HO.out, HVR.out]
              exact ⟨rfl, lA4, lc4, tA', tc', HG7.out, HB7.out, fun k e => (HL7.out k e).imp (fun e9 => e9) (fun e2 => by omega), fun k e => .inr (HL4.out k e)⟩
end Go.Proofs.YtkoijhecahebgaaDoor
