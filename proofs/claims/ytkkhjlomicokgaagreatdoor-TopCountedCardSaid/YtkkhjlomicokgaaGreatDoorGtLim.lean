/- limit: 1 is taken of all quotas that fit a key; otherwise the first that has none. -/
import Derived.Test.YtkkhjlomicokgaaGreatDoorGtLimP
namespace Go.Proofs.YtkkhjlomicokgaaGreatDoor
open Go.RowKit Go.Shelf
set_option linter.unusedVariables false
set_option linter.unusedSimpArgs false
attribute [local go_sem] Oper.semAt_some
theorem info_levelT : (Tryz.prog.info? 76).map (fun i => (i.zero, i.size, i.bytes)) = some (some (.agg #[.int .i64 0, .int .i64 0, .int .i64 0]), 3, 24) := by kernel_rfl
theorem block_put {w : World} {k l : Nat} {o : Obj} (h : w.heap[k]? = some o) (hne : l ≠ k) (o' : Obj) : (w.putObj l o').heap[k]? = some o :=
  (World.grownBy.block (grownBy_putObj' w l o') k (lt_of_block h) (fun e => hne (by cases e; rfl))).trans h
theorem own_stay {w w' : World} {base sz n : Nat} {e : TypeId} {v : Value} {xs : List Value} (ho : w.ownsRow base e sz v n xs) (h : ∀ k o, v.ownBlock = some k → w.heap[k]? = some o → w'.heap[k]? = some o) : w'.ownsRow base e sz v n xs := by
  refine ⟨ho.1, ?_⟩
  rcases ho.2 with h1 | ⟨g, cap, cur, q1, q2, q3, q4⟩
  · exact .inl h1
  · exact .inr ⟨g, cap, cur, q1, q2, h g _ (by rw [q1]; rfl) q3, q4⟩
theorem keeps_below {W W' : World} (n : Nat) (h : Below W.heap.size W W') : KeepsFrom n W W' := ⟨h.size, fun k o _ hk _ => block_below hk h⟩
theorem five (w : World) (o1 o2 o3 o4 o5 : Obj) : ∃ w5, ((((w.alloc o1).alloc o2).alloc o3).alloc o4).alloc o5 = w5 ∧ Below w.heap.size w w5 ∧ w5.heap.size = w.heap.size + 5 ∧ w5.heap[w.heap.size]? = some o1 ∧ w5.heap[w.heap.size + 1]? = some o2 ∧
    w5.heap[w.heap.size + 2]? = some o3 ∧ w5.heap[w.heap.size + 3]? = some o4 ∧ w5.heap[w.heap.size + 4]? = some o5 := by
  have b (W : World) (o : Obj) : Below W.heap.size W (W.alloc o) := (Below.refl _ _).alloc (Nat.le_refl _) _
  have n1 := heap_alloc_new w o1
  have n2 := heap_alloc_new (w.alloc o1) o2
  have n3 := heap_alloc_new ((w.alloc o1).alloc o2) o3
  have n4 := heap_alloc_new (((w.alloc o1).alloc o2).alloc o3) o4
  have n5 := heap_alloc_new ((((w.alloc o1).alloc o2).alloc o3).alloc o4) o5
  simp only [World.size_alloc] at n2 n3 n4 n5
  refine ⟨_, rfl, ((((((Below.refl _ w).alloc (Nat.le_refl _) o1).alloc (by simp) o2).alloc (by simp; omega) o3).alloc (by simp; omega) o4).alloc (by simp; omega) o5), by simp, ?_, ?_, ?_, ?_, n5⟩
  · exact block_below (block_below (block_below (block_below n1 (b _ _)) (b _ _)) (b _ _)) (b _ _)
  · exact block_below (block_below (block_below n2 (b _ _)) (b _ _)) (b _ _)
  · exact block_below (block_below n3 (b _ _)) (b _ _)
  · exact block_below n4 (b _ _)
set_option maxRecDepth 100000 in
set_option maxHeartbeats 8000000 in
theorem limit_ok (p n qc lc B : Nat) (qA lA : Option Addr) (m tl : Value) (g t : Int) (key : ByteArray) (Q : List Qt) (V : List Lv) (w : World) (hn : Q.length = n) (hV : V.length = n)
    (hbx : w.heap[p]? = some (.cells #[.slice qA n qc, .slice lA n lc, m, .int .i64 g, tl] 72 (0, 0)))
    (hq : Sl w w.heap.size Qt.cs 5 qA n Q) (hv : w.ownsRow B 76 3 (.slice lA n lc) n (V.flatMap Lv.cs)) (hpl : ∀ k, (Value.slice lA n lc).ownBlock = some k → k ≠ p ∧ (0 < n → ∀ b o, qA = some ⟨b, o, none⟩ → b ≠ k))
    (hok : LvsOk Q V) (hn5 : n ≤ 50) (hBz : B ≤ w.heap.size) (hg : ∀ x ∈ V, x.t ≤ t) (ht : t ≤ 3155759999) :
    Calls Tryz.prog 30 #[.pointer (some ⟨p, 0, none⟩), .string key, .int .i64 t] w fun e w' =>
      ((∃ i, limF Q V key t = some i ∧ e = .returned (.int .i64 (i.val : Int)) ∧ Below w.heap.size w w') ∨
       (limF Q V key t = none ∧ e = .returned (.int .i64 (-1)) ∧ w'.ownsRow B 76 3 (.slice lA n lc) n ((limV Q V t (fitIx Q key Q.length)).flatMap Lv.cs) ∧ Keep B (fun k => (Value.slice lA n lc).ownBlock = some k) w w')) := by
  subst hn
  have hp := lt_of_block hbx
  refine callsIn_wide (n := 9).1 ?_
  refine callsIn_of_wp_marks Tryz.func30 rfl trivial ?_ rfl
  simp only [Tryz.ntmps30, List.size_toArray, List.length_cons, List.length_nil, Nat.reduceAdd, Nat.reduceSub, Array.replicate_succ, Array.replicate_zero, List.push_toArray, List.append_toArray, List.nil_append, List.cons_append]
  gi_wp2_with (refine ⟨trivial, ?_⟩; gi_at_call 51; refine (fitting_in _ _ _ _).mono ?_; rintro e w' ⟨rfl, rfl⟩)
  obtain ⟨w5, hw5, hB5, hz5, h51, h52, h53, h54, h55⟩ := five w (.cells #[.pointer (some ⟨p, 0, none⟩)] 26) (.cells #[.int .i64 t] 3) (.cells #[.int .i64 0] 3) (.cells #[.pointer (some ⟨p, 0, none⟩)] 26) (.cells #[.string key] 9)
  rw [hw5]
  have HBX5 := hide (block_below hbx hB5)
  have HQ5 := hide (hq.below hB5)
  have HV5 := hide (own_below hv hB5)
  have hqb : 0 < Q.length → ∀ b o, qA = some ⟨b, o, none⟩ → b < w.heap.size + 5 := fun h0 b o e => by
    obtain ⟨b', o', e', hlt, _⟩ := hq.cells h0
    rw [e] at e'; cases e'
    omega
  refine wpIn_rangeFunc_ownG rfl (by decide) (gf := 69) (lb := #[.pointer (some ⟨w.heap.size + 3, 0, none⟩), .pointer (some ⟨w.heap.size + 4, 0, none⟩)]) rfl trivial (enters_of Tryz.func69 (by kernel_rfl) rfl)
    (fit1_stops 8 (by decide) (w.heap.size + 3) (w.heap.size + 4) p qc w.heap.size qA _ _ _ _ Q key hn5 (fun k => k < w.heap.size + 5) (by omega) (by omega) (by omega) hqb w5 h54 h55 HBX5.out HQ5.out (by omega)) Stay.trans
    (fun W l o o' hl h h1 h2 => Stay.put (n₀ := w.heap.size + 5) (fun k h => h) (Nat.le_of_eq hz5.symm) W l o o' hl h h1 h2) (Below.refl _ _) (fun _ => rfl)
    (fun pre W => Below w5.heap.size w5 W ∧ ∀ i ∈ pre, noneLeft Q V t i = false)
    (fun c pre W => c = .ret ∧ ∃ pre' i, pre = pre' ++ [i] ∧ noneLeft Q V t i = true ∧ (∀ j ∈ pre', noneLeft Q V t j = false) ∧ W.heap[w.heap.size + 2]? = some (.cells #[.int .i64 (i.val : Int)] 3 (0, 0)) ∧ Below w.heap.size w W)
    (OwnFrom.and (ownFrom_below (Nat.le_refl _) (Nat.le_refl _)) (ownFrom_pure _ _))
    ?hIx ⟨Below.refl _ _, fun i hi => by cases hi⟩ ?a1 ?assign ?body ?done ?stop
  case assign =>
    intro l x W K hK
    gi_wp2
    exact hK
  case hIx =>
    rintro c s A B' row ⟨h1, pre', i, h2, h3, h4, h5, h6⟩ hg' hr
    exact ⟨h1, pre', i, h2, h3, h4, (hg'.block _ (lt_of_block h5) (fun e => by have := (hr _ e.symm).1; omega)).trans h5, h6.grown hg' h6.size (fun k e => by have := (hr k e).1; omega)⟩
  case body =>
    rintro l pre ⟨k, hlt⟩ W ⟨hBW, hno⟩ hlen
    have hki : (k : Int) < (Q.length : Int) := by omega
    have hW5 := hBW.size
    obtain ⟨qb, qo, q, rfl, hqb', hqx, _⟩ := (HQ5.out.below (hBW.mono (by omega))).at_ hlt
    obtain ⟨lb, cp, cur, ev, _, _⟩ := own_blk HV5.out (by omega)
    simp at ev
    obtain ⟨rfl, rfl⟩ := ev
    obtain ⟨x, hvx⟩ : ∃ x, V[k]? = some x := ⟨_, List.getElem?_eq_getElem (by omega)⟩
    have hxo := hok k q x hqx hvx
    have hxt : x.t ≤ t := hg x (List.mem_of_getElem? hvx)
    have CP := hide (fun W => pour_any q.s q.a q.e x.h x.t x.r t W hxo.err hxt ht)
    have hqk : Q[k] = q := by rw [List.getElem?_eq_getElem hlt] at hqx; exact Option.some.inj hqx
    have HNL := hide (show noneLeft Q V t ⟨k, hlt⟩ = (pH q.s q.a q.e x.h x.t x.r t == 0) by
      show ((pourL Q[k] t (V[k]?.getD lv0)).h == 0) = _
      rw [hqk, hvx]; rfl)
    have HNO := hide hno
    have HBW := hide hBW
    have HSS := hide (show ∀ W', Below W.heap.size W W' → (fun W' : World => W'.cell? ⟨w.heap.size, 0, none⟩ = some (.pointer (some ⟨p, 0, none⟩)) ∧ W'.cell? ⟨w.heap.size + 1, 0, none⟩ = some (.int .i64 t) ∧ W'.cell? ⟨p, 0, none⟩ = some (.slice (some ⟨qb, qo, none⟩) Q.length qc) ∧
        (W'.cell? ⟨qb, qo + k * 5 + 2, none⟩ = some (.int .i64 q.s) ∧ W'.cell? ⟨qb, qo + k * 5 + 3, none⟩ = some (.int .i64 q.a) ∧ W'.cell? ⟨qb, qo + k * 5 + 4, none⟩ = some (.int .i64 q.e)) ∧
        W'.cell? ⟨p, 1, none⟩ = some (.slice (some ⟨lb, 0, none⟩) Q.length lc) ∧ W'.cell? ⟨lb, k * 3, none⟩ = some (.int .i64 x.h) ∧ W'.cell? ⟨lb, k * 3 + 1, none⟩ = some (.int .i64 x.t) ∧ W'.cell? ⟨lb, k * 3 + 2, none⟩ = some (.int .i64 x.r)) W' from fun W' hb => by
      have hb5 : Below w5.heap.size w5 W' := HBW.out.trans (hb.mono hW5)
      obtain ⟨qb', qo', q', e', _, hqx', hqc⟩ := (HQ5.out.below (hb5.mono (by omega))).at_ hlt
      simp at e'
      obtain ⟨rfl, rfl⟩ := e'
      rw [hqx] at hqx'
      obtain rfl := Option.some.inj hqx'
      have hv5 := own_below HV5.out hb5
      have hgc : ∀ r u, x.cs[r]? = some u → W'.cell? ⟨lb, k * 3 + r, none⟩ = some u := fun r u hu => own_cell hv5 (k * 3 + r) u (by
        have hr3 : r < 3 := by have := (List.getElem?_eq_some_iff.1 hu).1; simpa [Lv.cs] using this
        rw [fm_get (f := Lv.cs) (sz := 3) (fun _ => rfl) V k r hr3, hvx]; exact hu)
      exact ⟨(block_cell (block_below h51 hb5) 0).trans rfl, (block_cell (block_below h52 hb5) 0).trans rfl, (block_cell (block_below HBX5.out hb5) 0).trans rfl, ⟨hqc 2 _ rfl, hqc 3 _ rfl, hqc 4 _ rfl⟩, (block_cell (block_below HBX5.out hb5) 1).trans rfl,
        by simpa using hgc 0 _ rfl, by simpa using hgc 1 _ rfl, by simpa using hgc 2 _ rfl⟩)
    clear hno hBW hqk hvx hqx
    gi_wp2
    refine wpIn_region_chain (fun W' => W'.cell? ⟨w.heap.size, 0, none⟩ = some (.pointer (some ⟨p, 0, none⟩)) ∧ W'.cell? ⟨w.heap.size + 1, 0, none⟩ = some (.int .i64 t) ∧ W'.cell? ⟨p, 0, none⟩ = some (.slice (some ⟨qb, qo, none⟩) Q.length qc) ∧ (W'.cell? ⟨qb, qo + k * 5 + 2, none⟩ = some (.int .i64 q.s) ∧ W'.cell? ⟨qb, qo + k * 5 + 3, none⟩ = some (.int .i64 q.a) ∧ W'.cell? ⟨qb, qo + k * 5 + 4, none⟩ = some (.int .i64 q.e)) ∧ W'.cell? ⟨p, 1, none⟩ = some (.slice (some ⟨lb, 0, none⟩) Q.length lc) ∧ W'.cell? ⟨lb, k * 3, none⟩ = some (.int .i64 x.h) ∧ W'.cell? ⟨lb, k * 3 + 1, none⟩ = some (.int .i64 x.t) ∧ W'.cell? ⟨lb, k * 3 + 2, none⟩ = some (.int .i64 x.r)) 18 (by as_aux_lemma => kernel_rfl) (by rintro ⟨_, _, h⟩; exact h) (by as_aux_lemma => kernel_rfl) (N := 19) (by as_aux_lemma => kernel_rfl) ?_; intro hsh
    have HS := HSS.out W.drew (below_drewN (Below.refl _ _) 1)
    refine wpAnyC_take (i := 0) (k := 18) (f := 40) (v := ?_) (d := some 14) rfl (by rfl) (by as_aux_lemma => kernel_rfl) (by as_aux_lemma => kernel_rfl) (by as_aux_lemma => kernel_rfl) hsh (by decide) (by as_aux_lemma => kernel_rfl) (by intro _ _ _ h; exact h) (by assumption) (Or.inl ⟨by rfl, ?hy⟩) ?_; (case hy => (rintro W ⟨b0, b1, b2, ⟨a2, a3, a4⟩, c1, l0, l1, l2⟩; go_simp; (try with_reducible rfl))); clear hsh; intro hsh
    refine wpAnyC_take0 (i := 1) (k := 18) (v := ?_) (d := some 15) rfl (by rfl) (by as_aux_lemma => kernel_rfl) (by as_aux_lemma => kernel_rfl) (by as_aux_lemma => kernel_rfl) hsh (by decide) (by intro _ _ _ h; exact h) (by assumption) (Or.inl ⟨by rfl, ?hy⟩) ?_; (case hy => (intro W _; go_simp; (try with_reducible rfl))); clear hsh; intro hsh
    refine wpAnyC_take0 (i := 2) (k := 18) (v := ?_) (d := some 16) rfl (by rfl) (by as_aux_lemma => kernel_rfl) (by as_aux_lemma => kernel_rfl) (by as_aux_lemma => kernel_rfl) hsh (by decide) (by intro _ _ _ h; exact h) (by assumption) (Or.inl ⟨by rfl, ?hy⟩) ?_; (case hy => (intro W _; go_simp; (try with_reducible rfl))); clear hsh; intro hsh
    refine wpAnyC_take (i := 3) (k := 18) (f := 40) (v := ?_) (d := some 17) rfl (by rfl) (by as_aux_lemma => kernel_rfl) (by as_aux_lemma => kernel_rfl) (by as_aux_lemma => kernel_rfl) hsh (by decide) (by as_aux_lemma => kernel_rfl) (by intro _ _ _ h; exact h) (by assumption) (Or.inl ⟨by rfl, ?hy⟩) ?_; (case hy => (rintro W ⟨b0, b1, b2, ⟨a2, a3, a4⟩, c1, l0, l1, l2⟩; go_simp; (try with_reducible rfl))); clear hsh; intro hsh
    refine wpAnyC_take0 (i := 4) (k := 18) (v := ?_) (d := some 18) rfl (by rfl) (by as_aux_lemma => kernel_rfl) (by as_aux_lemma => kernel_rfl) (by as_aux_lemma => kernel_rfl) hsh (by decide) (by intro _ _ _ h; exact h) (by assumption) (Or.inl ⟨by rfl, ?hy⟩) ?_; (case hy => (intro W _; go_simp; (try with_reducible rfl))); clear hsh; intro hsh
    refine wpAnyC_take0 (i := 5) (k := 18) (v := ?_) (d := some 19) rfl (by rfl) (by as_aux_lemma => kernel_rfl) (by as_aux_lemma => kernel_rfl) (by as_aux_lemma => kernel_rfl) hsh (by decide) (by intro _ _ _ h; exact h) (by assumption) (Or.inl ⟨by rfl, ?hy⟩) ?_; (case hy => (intro W _; go_simp; (try with_reducible rfl))); clear hsh; intro hsh
    refine wpAnyC_take0 (i := 6) (k := 18) (v := ?_) (d := some 20) rfl (by rfl) (by as_aux_lemma => kernel_rfl) (by as_aux_lemma => kernel_rfl) (by as_aux_lemma => kernel_rfl) hsh (by decide) (by intro _ _ _ h; exact h) (by assumption) (Or.inl ⟨by rfl, ?hy⟩) ?_; (case hy => (intro W _; go_simp; (try with_reducible rfl))); clear hsh; intro hsh
    refine wpAnyC_take (i := 7) (k := 18) (f := 40) (v := ?_) (d := some 21) rfl (by rfl) (by as_aux_lemma => kernel_rfl) (by as_aux_lemma => kernel_rfl) (by as_aux_lemma => kernel_rfl) hsh (by decide) (by as_aux_lemma => kernel_rfl) (by intro _ _ _ h; exact h) (by assumption) (Or.inl ⟨by rfl, ?hy⟩) ?_; (case hy => (rintro W ⟨b0, b1, b2, ⟨a2, a3, a4⟩, c1, l0, l1, l2⟩; go_simp; (try with_reducible rfl))); clear hsh; intro hsh
    refine wpAnyC_take (i := 8) (k := 18) (f := 40) (v := ?_) (d := some 22) rfl (by rfl) (by as_aux_lemma => kernel_rfl) (by as_aux_lemma => kernel_rfl) (by as_aux_lemma => kernel_rfl) hsh (by decide) (by as_aux_lemma => kernel_rfl) (by intro _ _ _ h; exact h) (by assumption) (Or.inl ⟨by rfl, ?hy⟩) ?_; (case hy => (rintro W ⟨b0, b1, b2, ⟨a2, a3, a4⟩, c1, l0, l1, l2⟩; go_simp; (try with_reducible rfl))); clear hsh; intro hsh
    refine wpAnyC_take0 (i := 9) (k := 18) (v := ?_) (d := some 23) rfl (by rfl) (by as_aux_lemma => kernel_rfl) (by as_aux_lemma => kernel_rfl) (by as_aux_lemma => kernel_rfl) hsh (by decide) (by intro _ _ _ h; exact h) (by assumption) (Or.inl ⟨by rfl, ?hy⟩) ?_; (case hy => (intro W _; go_simp; (try with_reducible rfl))); clear hsh; intro hsh
    refine wpAnyC_take0 (i := 10) (k := 18) (v := ?_) (d := some 24) rfl (by rfl) (by as_aux_lemma => kernel_rfl) (by as_aux_lemma => kernel_rfl) (by as_aux_lemma => kernel_rfl) hsh (by decide) (by intro _ _ _ h; exact h) (by assumption) (Or.inl ⟨by rfl, ?hy⟩) ?_; (case hy => (intro W _; go_simp; (try with_reducible rfl))); clear hsh; intro hsh
    refine wpAnyC_take (i := 11) (k := 18) (f := 40) (v := ?_) (d := some 25) rfl (by rfl) (by as_aux_lemma => kernel_rfl) (by as_aux_lemma => kernel_rfl) (by as_aux_lemma => kernel_rfl) hsh (by decide) (by as_aux_lemma => kernel_rfl) (by intro _ _ _ h; exact h) (by assumption) (Or.inl ⟨by rfl, ?hy⟩) ?_; (case hy => (rintro W ⟨b0, b1, b2, ⟨a2, a3, a4⟩, c1, l0, l1, l2⟩; go_simp; (try with_reducible rfl))); clear hsh; intro hsh
    refine wpAnyC_take0 (i := 12) (k := 18) (v := ?_) (d := some 26) rfl (by rfl) (by as_aux_lemma => kernel_rfl) (by as_aux_lemma => kernel_rfl) (by as_aux_lemma => kernel_rfl) hsh (by decide) (by intro _ _ _ h; exact h) (by assumption) (Or.inl ⟨by rfl, ?hy⟩) ?_; (case hy => (intro W _; go_simp; (try with_reducible rfl))); clear hsh; intro hsh
    refine wpAnyC_take0 (i := 13) (k := 18) (v := ?_) (d := some 27) rfl (by rfl) (by as_aux_lemma => kernel_rfl) (by as_aux_lemma => kernel_rfl) (by as_aux_lemma => kernel_rfl) hsh (by decide) (by intro _ _ _ h; exact h) (by assumption) (Or.inl ⟨by rfl, ?hy⟩) ?_; (case hy => (intro W _; go_simp; (try with_reducible rfl))); clear hsh; intro hsh
    refine wpAnyC_take (i := 14) (k := 18) (f := 40) (v := ?_) (d := some 28) rfl (by rfl) (by as_aux_lemma => kernel_rfl) (by as_aux_lemma => kernel_rfl) (by as_aux_lemma => kernel_rfl) hsh (by decide) (by as_aux_lemma => kernel_rfl) (by intro _ _ _ h; exact h) (by assumption) (Or.inl ⟨by rfl, ?hy⟩) ?_; (case hy => (rintro W ⟨b0, b1, b2, ⟨a2, a3, a4⟩, c1, l0, l1, l2⟩; go_simp; (try with_reducible rfl))); clear hsh; intro hsh
    refine wpAnyC_take (i := 15) (k := 18) (f := 40) (v := ?_) (d := some 29) rfl (by rfl) (by as_aux_lemma => kernel_rfl) (by as_aux_lemma => kernel_rfl) (by as_aux_lemma => kernel_rfl) hsh (by decide) (by as_aux_lemma => kernel_rfl) (by intro _ _ _ h; exact h) (by assumption) (Or.inl ⟨by rfl, ?hy⟩) ?_; (case hy => (rintro W ⟨b0, b1, b2, ⟨a2, a3, a4⟩, c1, l0, l1, l2⟩; go_simp; (try with_reducible rfl))); clear hsh; intro hsh
    unfold pourV at CP
    unfold v3 at CP
    have key : pH q.s q.a q.e x.h x.t x.r t ≠ 0 → ∀ W', Below W.heap.size W W' → (KeepsFrom w5.heap.size W W' ∧ Stay (fun k => k < w.heap.size + 5) W W' ∧ Below w5.heap.size w5 W' ∧ ∀ i ∈ pre ++ [⟨k, hlt⟩], noneLeft Q V t i = false) := fun hz W' h =>
      ⟨keeps_below _ h, fun k o e _ => block_below e h, HBW.out.trans (h.mono hW5), fun i hi => by
        rcases List.mem_append.1 hi with h1 | h1
        · exact HNO.out i h1
        · rw [List.mem_singleton.1 h1, HNL.out]; simpa using hz⟩
    have KEY := hide key
    have key2 : pH q.s q.a q.e x.h x.t x.r t = 0 → ∀ W' : World, KeepsFrom w5.heap.size W W' → W'.heap[w.heap.size + 2]? = some (.cells #[.int .i64 (k : Int)] 3 (0, 0)) → Below w.heap.size w W' →
        (KeepsFrom w5.heap.size W W' ∧ ∃ pre' i, pre ++ [⟨k, hlt⟩] = pre' ++ [i] ∧ noneLeft Q V t i = true ∧ (∀ j ∈ pre', noneLeft Q V t j = false) ∧
          W'.heap[w.heap.size + 2]? = some (.cells #[.int .i64 (i.val : Int)] 3 (0, 0)) ∧ Below w.heap.size w W') := fun hz W' h1 h2 h3 =>
      ⟨h1, pre, ⟨k, hlt⟩, rfl, by rw [HNL.out, hz]; rfl, HNO.out, h2, h3⟩
    have KEY2 := hide key2
    clear key key2
    have hBwW : Below w.heap.size w W := hB5.trans (HBW.out.mono (by omega))
    refine wpAnyC_ready (rs := [16, 17]) (by as_aux_lemma => kernel_rfl) (by simp) ?_
    refine AllC.cons (i := 16) rfl (by as_aux_lemma => kernel_rfl) hsh (fun K hK => ?_) (AllC.cons (i := 17) rfl (by as_aux_lemma => kernel_rfl) hsh (fun K hK => ?_) AllC.nil)
    · go_simp
      go_at_call 52
      refine (CP.out W.drew).mono ?_
      rintro e w3 ⟨rfl, hb3⟩
      have hb3' : Below W.heap.size W w3 := (below_drewN (Below.refl _ _) 1).trans hb3
      try go_simp
      refine hK _ _ (fun _ => HSS.out w3 hb3') ?_
      clear hK K hsh HS hb3
      intro hsh
      refine wpAnyC_ready (rs := [17]) (by as_aux_lemma => kernel_rfl) (by simp) ?_; refine AllC.cons (i := 17) rfl (by as_aux_lemma => kernel_rfl) hsh (fun K hK => ?_) AllC.nil
      go_simp
      refine hK _ _ (fun _ => HSS.out _ (hb3'.alloc hb3'.size _)) ?_
      clear hK K hsh
      intro hsh
      refine wpAnyC_tail (by as_aux_lemma => kernel_rfl) (by simp) (by as_aux_lemma => kernel_rfl) ?_; simp only [List.drop_succ_cons, List.drop_zero]; clear hsh
      have H53 := hide (block_below h53 (HBW.out.trans (hb3'.mono hW5)))
      have c53 : w3.cell? ⟨w.heap.size + 1 + 1, 0, none⟩ = some (.int .i64 0) := (block_cell H53.out 0).trans rfl
      have f53 : w3.frozen? ⟨w.heap.size + 1 + 1, 0, none⟩ = false := block_free H53.out 0
      have hs3 := hb3'.size
      have HB30 := hide hb3'
      have hkf := (keeps_below w5.heap.size hb3').trans ((KeepsOthers.setCell w3 ⟨w.heap.size + 1 + 1, 0, none⟩ (.int .i64 (k : Int))).from _)
      have hbk := below_set (b := w.heap.size + 1 + 1) (i := 0) (hBwW.trans (hb3'.mono hBwW.size)) (by omega) (.int .i64 (k : Int))
      have HKF := hide hkf
      have HBK := hide hbk
      clear hkf hbk
      have HB3 := hide (hb3'.alloc hs3 (.cells #[.int .i64 (pH q.s q.a q.e x.h x.t x.r t), .int .i64 t, .int .i64 (pR q.e x.t x.r t)] 76))
      clear hb3'
      by_cases hz0 : pH q.s q.a q.e x.h x.t x.r t = 0
      · go_wp2_with (fail)
        gi_wp2
        have r := KEY2.out hz0 _ (HKF.out.trans ((KeepsOthers.alloc _ (.cells #[.int .i64 0, .int .i64 t, .int .i64 (pR q.e x.t x.r t)] 76)).from _)) (block_below ((block_set (i := 0) H53.out (.int .i64 (k : Int))).trans rfl) ((Below.refl _ _).alloc (Nat.le_refl _) _)) (HBK.out.alloc HBK.out.size _)
        exact ⟨r.1, rfl, r.2⟩
      · go_wp2_with (fail)
        gi_wp2
        exact KEY.out hz0 _ (HB3.out)
    · go_simp
      obtain ⟨wb, hwb⟩ : ∃ wb, W.alloc (.cells #[.int .i64 0, .int .i64 0, .int .i64 0] 76) = wb := ⟨_, rfl⟩
      have hnb : wb.heap[W.heap.size]? = some (.cells #[.int .i64 0, .int .i64 0, .int .i64 0] 76 (0, 0)) := hwb ▸ heap_alloc_new W _
      have hbb : Below W.heap.size W wb := hwb ▸ (Below.refl _ _).alloc (Nat.le_refl _) _
      try rw [hwb]
      refine hK _ _ (fun _ => HSS.out _ (hbb.trans ((below_drewN (Below.refl _ _) 1).mono hbb.size))) ?_
      clear hK K hsh HS
      intro hsh
      refine wpAnyC_ready (rs := [16]) (by as_aux_lemma => kernel_rfl) (by simp) ?_; refine AllC.cons (i := 16) rfl (by as_aux_lemma => kernel_rfl) hsh (fun K hK => ?_) AllC.nil
      go_simp
      go_at_call 52
      refine (CP.out wb.drew).mono ?_
      rintro e w3 ⟨rfl, hb3⟩
      have hb3w : Below wb.heap.size wb w3 := (below_drewN (Below.refl _ _) 1).trans hb3
      have hb3' : Below W.heap.size W w3 := hbb.trans (hb3w.mono hbb.size)
      try go_simp
      refine hK _ _ (fun _ => HSS.out w3 hb3') ?_
      clear hK K hsh hb3
      intro hsh
      refine wpAnyC_tail (by as_aux_lemma => kernel_rfl) (by simp) (by as_aux_lemma => kernel_rfl) ?_; simp only [List.drop_succ_cons, List.drop_zero]; clear hsh
      have H53 := hide (block_below h53 (HBW.out.trans (hb3'.mono hW5)))
      have c53 : w3.cell? ⟨w.heap.size + 1 + 1, 0, none⟩ = some (.int .i64 0) := (block_cell H53.out 0).trans rfl
      have f53 : w3.frozen? ⟨w.heap.size + 1 + 1, 0, none⟩ = false := block_free H53.out 0
      have HNB := hide (block_below hnb hb3w)
      have n0 : w3.cell? ⟨W.heap.size, 0, none⟩ = some (.int .i64 0) := (block_cell HNB.out 0).trans rfl
      have n1 : w3.cell? ⟨W.heap.size, 1, none⟩ = some (.int .i64 0) := (block_cell HNB.out 1).trans rfl
      have n2 : w3.cell? ⟨W.heap.size, 2, none⟩ = some (.int .i64 0) := (block_cell HNB.out 2).trans rfl
      have m0 := block_free HNB.out 0
      have m1 := block_free HNB.out 1
      have m2 := block_free HNB.out 2
      have hs3 := hb3'.size
      have HB3 := hide hb3'
      clear hb3' hwb hbb hnb hb3w
      by_cases hz0 : pH q.s q.a q.e x.h x.t x.r t = 0
      · go_wp2_with (fail)
        gi_wp2
        have b3 := fun u0 u1 u2 => below_set (i := 2) (below_set (i := 1) (below_set (b := W.heap.size) (i := 0) HB3.out (Nat.le_refl _) u0) (Nat.le_refl _) u1) (Nat.le_refl _) u2
        have o3 := fun u0 u1 u2 => block_set_other (block_set_other (block_set_other H53.out ⟨W.heap.size, 0, none⟩ u0 (by show _ ≠ W.heap.size; omega)) ⟨W.heap.size, 1, none⟩ u1 (by show _ ≠ W.heap.size; omega)) ⟨W.heap.size, 2, none⟩ u2 (by show _ ≠ W.heap.size; omega)
        have r := KEY2.out hz0 _ ((keeps_below w5.heap.size (b3 (.int .i64 0) (.int .i64 t) (.int .i64 (pR q.e x.t x.r t)))).trans ((KeepsOthers.setCell _ ⟨w.heap.size + 1 + 1, 0, none⟩ (.int .i64 (k : Int))).from _)) ((block_set (i := 0) (o3 (.int .i64 0) (.int .i64 t) (.int .i64 (pR q.e x.t x.r t))) _).trans rfl) (below_set (hBwW.trans ((b3 (.int .i64 0) (.int .i64 t) (.int .i64 (pR q.e x.t x.r t))).mono hBwW.size)) (by omega) _)
        exact ⟨r.1, rfl, r.2⟩
      · go_wp2_with (fail)
        gi_wp2
        exact KEY.out hz0 _ (below_set (below_set (below_set HB3.out (Nat.le_refl _) _) (Nat.le_refl _) _) (Nat.le_refl _) _)
  case done =>
    rintro D ys W hD rfl ⟨hBW, hno⟩ hK
    have g3 : W.cell? ⟨w.heap.size, 0, none⟩ = some (.pointer (some ⟨p, 0, none⟩)) := (block_cell (block_below h51 hBW) 0).trans rfl
    gi_wp2_with (refine ⟨trivial, ?_⟩; gi_at_call 51; refine (fitting_in _ _ _ _).mono ?_; rintro e w' ⟨rfl, rfl⟩)
    have hzW := hBW.size
    have HF0 := hide (show limF Q V key t = none from List.find?_eq_none.2 (fun i hi => by rw [hno i hi]; decide))
    obtain ⟨w7, hw7, hB7, hz7, h71, h72⟩ : ∃ w7, (W.alloc (.cells #[.pointer (some ⟨p, 0, none⟩)] 26)).alloc (.cells #[.string key] 9) = w7 ∧ Below W.heap.size W w7 ∧ w7.heap.size = W.heap.size + 2 ∧ w7.heap[W.heap.size]? = some (.cells #[.pointer (some ⟨p, 0, none⟩)] 26 (0, 0)) ∧ w7.heap[W.heap.size + 1]? = some (.cells #[.string key] 9 (0, 0)) :=
      ⟨_, rfl, ((Below.refl _ _).alloc (Nat.le_refl _) _).alloc (by simp) _, by simp, block_below (heap_alloc_new W _) ((Below.refl _ _).alloc (Nat.le_refl _) _), by
        have h := heap_alloc_new (W.alloc (.cells #[.pointer (some ⟨p, 0, none⟩)] 26)) (.cells #[.string key] 9)
        rw [World.size_alloc] at h; exact h⟩
    rw [hw7]
    have hB57 : Below w5.heap.size w5 w7 := hBW.trans (hB7.mono hzW)
    have k51 := block_below h51 hB57
    have k52 := block_below h52 hB57
    have k53 := block_below h53 hB57
    have KBX := hide (block_below HBX5.out hB57)
    have KQ := hide (HQ5.out.below (hB57.mono (by omega)))
    have KV := hide (own_below HV5.out hB57)
    have kD := block_below hK hB7
    have HB07 := hide (hB5.trans (hB57.mono (by omega)))
    have hlbw : ∀ k, (Value.slice lA Q.length lc).ownBlock = some k → B ≤ k ∧ k < w.heap.size := hv.lt
    have hVW : ∀ (i : Nat) q x, Q[i]? = some q → V[i]? = some x → LvW 0 t q x := fun i q x hq hx => by
      have h := hok i q x hq hx
      exact ⟨h.b, by have := h.h0; omega, h.h1, h.t0, hg x (List.mem_of_getElem? hx), h.r0, h.r1⟩
    have HVW := hide hVW
    clear hVW hBW g3 hw7 hB57 hK
    refine wpIn_rangeFunc_ownG rfl (by decide) (gf := 69) (lb := #[.pointer (some ⟨W.heap.size, 0, none⟩), .pointer (some ⟨W.heap.size + 1, 0, none⟩)]) rfl trivial (enters_of Tryz.func69 (by kernel_rfl) rfl)
      (fit1_stops 8 (by decide) W.heap.size (W.heap.size + 1) p qc w.heap.size qA _ _ _ _ Q key hn5 (fun k => k < w7.heap.size ∧ ¬ (Value.slice lA Q.length lc).ownBlock = some k) ⟨by omega, fun e => (hpl _ e).1 rfl⟩ ⟨by omega, fun e => by have := hlbw _ e; omega⟩ ⟨by omega, fun e => by have := hlbw _ e; omega⟩
        (fun h0 b o e => ⟨by have := hqb h0 b o e; omega, fun e2 => (hpl _ e2).2 h0 b o e rfl⟩) w7 h71 h72 KBX.out KQ.out (by omega)) Stay.trans
      (fun W l o o' hl h h1 h2 => Stay.put (n₀ := w7.heap.size) (fun k h => h.1) (Nat.le_refl _) W l o o' hl h h1 h2) (Below.refl _ _) (fun _ => rfl)
      (fun pre W' => Keep B (fun k => (Value.slice lA Q.length lc).ownBlock = some k) w7 W' ∧ W'.ownsRow B 76 3 (.slice lA Q.length lc) Q.length ((limV Q V t pre).flatMap Lv.cs))
      (fun _ _ _ => False)
      ?hI2 (fun _ _ _ _ _ hs _ _ => hs) ⟨Keep.refl _ _ _, KV.out⟩ ?a2 ?assign2 ?body2 ?done2 ?stop2
    case assign2 =>
      intro l x W K hK
      gi_wp2
      exact hK
    case hI2 =>
      rintro s A B' row ⟨h1, h2⟩ hg' hr
      refine ⟨⟨h1.be.grown hg' (Nat.le_trans (by omega) h1.be.size) (fun k e => by have := (hr k e).1; omega), fun k o e ne => (hg'.block k (lt_of_block (h1.keep k o e ne)) (fun e2 => by have := (hr _ e2.symm).1; have := lt_of_block e; omega)).trans (h1.keep k o e ne)⟩, h2.kept hg' ?_⟩
      rcases h2.2 with ⟨h, _⟩ | ⟨g1, cap, cur, h, _⟩
      · exact .inl (by rw [h]; rfl)
      · refine .inr (fun e => ?_)
        have h3 := hlbw g1 (by rw [h]; rfl)
        rw [h] at e
        have h4 := (hr g1 (e.symm.trans rfl)).1
        omega
    case stop2 =>
      rintro D c pre W _ _ h _
      exact h.elim
    case body2 =>
      rintro l pre ⟨k, hlt⟩ W2 ⟨hKP, hrow⟩ hlen
      have hki : (k : Int) < (Q.length : Int) := by omega
      have hW7 := hKP.be.size
      have KP := hide hKP
      have ROW := hide hrow
      have nP : ∀ {k o}, w7.heap[k]? = some o → ¬ (Value.slice lA Q.length lc).ownBlock = some k → W2.heap[k]? = some o := fun h ne => KP.out.keep _ _ h ne
      have j51 := nP k51 (fun e => by have := hlbw _ e; omega)
      have j52 := nP k52 (fun e => by have := hlbw _ e; omega)
      have jbx := nP KBX.out (fun e => (hpl _ e).1 rfl)
      have jq : Sl W2 w.heap.size Qt.cs 5 qA Q.length Q := KQ.out.stay (U := fun k => ¬ (Value.slice lA Q.length lc).ownBlock = some k) (fun k o h u => KP.out.keep k o h u) (fun h0 b o e e2 => (hpl _ e2).2 h0 b o e rfl)
      obtain ⟨qb, qo, q, rfl, hqb', hqx, _⟩ := jq.at_ hlt
      obtain ⟨lb, cp, cur, ev, _, _⟩ := own_blk hrow (by omega)
      simp at ev
      obtain ⟨rfl, rfl⟩ := ev
      have hne1 : p ≠ lb := fun e => (hpl lb rfl).1 e.symm
      have hne2 : w.heap.size ≠ lb := fun e => by have := hlbw lb rfl; omega
      obtain ⟨x, hvx⟩ : ∃ x, (limV Q V t pre)[k]? = some x := ⟨_, List.getElem?_eq_getElem (by rw [limV_len, hV]; exact hlt)⟩
      have hxw := limV_ok hV HVW.out pre.length pre rfl k q x hqx hvx
      have CP := hide (fun W => pour_w pre.length (by omega) q x t W hxw ht)
      have hpw := hxw.pour
      have ph0 : -((pre.length : Nat) : Int) ≤ pH q.s q.a q.e x.h x.t x.r t := hpw.h0
      have ph1 : pH q.s q.a q.e x.h x.t x.r t ≤ q.s := hpw.h1
      have qs := (bkOk hxw.b).2.1
      have hqk : Q[k] = q := by rw [List.getElem?_eq_getElem hlt] at hqx; exact Option.some.inj hqx
      have HLV := hide (show limV Q V t (pre ++ [⟨k, hlt⟩]) = (limV Q V t pre).set k (pourL q t x).less by
        rw [limV_snoc]
        show (limV Q V t pre).set k (pourL Q[k] t ((limV Q V t pre)[k]?.getD lv0)).less = _
        rw [hqk, hvx]; rfl)
      have HF3 := hide (fm_set3 (limV Q V t pre) k x (pourL q t x).less hvx)
      have HSS := hide (show ∀ W', Below W2.heap.size W2 W' → (fun W' => W'.cell? ⟨w.heap.size, 0, none⟩ = some (.pointer (some ⟨p, 0, none⟩)) ∧ W'.cell? ⟨w.heap.size + 1, 0, none⟩ = some (.int .i64 t) ∧ W'.cell? ⟨p, 0, none⟩ = some (.slice (some ⟨qb, qo, none⟩) Q.length qc) ∧ (W'.cell? ⟨qb, qo + k * 5 + 2, none⟩ = some (.int .i64 q.s) ∧ W'.cell? ⟨qb, qo + k * 5 + 3, none⟩ = some (.int .i64 q.a) ∧ W'.cell? ⟨qb, qo + k * 5 + 4, none⟩ = some (.int .i64 q.e)) ∧ W'.cell? ⟨p, 1, none⟩ = some (.slice (some ⟨lb, 0, none⟩) Q.length lc) ∧ W'.cell? ⟨lb, k * 3, none⟩ = some (.int .i64 x.h) ∧ W'.cell? ⟨lb, k * 3 + 1, none⟩ = some (.int .i64 x.t) ∧ W'.cell? ⟨lb, k * 3 + 2, none⟩ = some (.int .i64 x.r)) W' from fun W' hb => by
        obtain ⟨qb', qo', q', e', _, hqx', hqc⟩ := (jq.below (hb.mono (by omega))).at_ hlt
        simp at e'
        obtain ⟨rfl, rfl⟩ := e'
        rw [hqx] at hqx'
        obtain rfl := Option.some.inj hqx'
        have hv5 := own_below hrow hb
        have hgc : ∀ r u, x.cs[r]? = some u → W'.cell? ⟨lb, k * 3 + r, none⟩ = some u := fun r u hu => own_cell hv5 (k * 3 + r) u (by
          have hr3 : r < 3 := by have := (List.getElem?_eq_some_iff.1 hu).1; simpa [Lv.cs] using this
          rw [fm_get (f := Lv.cs) (sz := 3) (fun _ => rfl) _ k r hr3, hvx]; exact hu)
        exact ⟨(block_cell (block_below j51 hb) 0).trans rfl, (block_cell (block_below j52 hb) 0).trans rfl, (block_cell (block_below jbx hb) 0).trans rfl, ⟨hqc 2 _ rfl, hqc 3 _ rfl, hqc 4 _ rfl⟩, (block_cell (block_below jbx hb) 1).trans rfl,
          by simpa using hgc 0 _ rfl, by simpa using hgc 1 _ rfl, by simpa using hgc 2 _ rfl⟩)
      clear hKP hrow nP jq hqk hvx hqx hpw hxw
      unfold pourV at CP
      unfold v3 at CP
      gi_wp2
      refine wpIn_region_chain (fun W' => W'.cell? ⟨w.heap.size, 0, none⟩ = some (.pointer (some ⟨p, 0, none⟩)) ∧ W'.cell? ⟨w.heap.size + 1, 0, none⟩ = some (.int .i64 t) ∧ W'.cell? ⟨p, 0, none⟩ = some (.slice (some ⟨qb, qo, none⟩) Q.length qc) ∧ (W'.cell? ⟨qb, qo + k * 5 + 2, none⟩ = some (.int .i64 q.s) ∧ W'.cell? ⟨qb, qo + k * 5 + 3, none⟩ = some (.int .i64 q.a) ∧ W'.cell? ⟨qb, qo + k * 5 + 4, none⟩ = some (.int .i64 q.e)) ∧ W'.cell? ⟨p, 1, none⟩ = some (.slice (some ⟨lb, 0, none⟩) Q.length lc) ∧ W'.cell? ⟨lb, k * 3, none⟩ = some (.int .i64 x.h) ∧ W'.cell? ⟨lb, k * 3 + 1, none⟩ = some (.int .i64 x.t) ∧ W'.cell? ⟨lb, k * 3 + 2, none⟩ = some (.int .i64 x.r)) 22 (by as_aux_lemma => kernel_rfl) (by rintro ⟨_, _, h⟩; exact h) (by as_aux_lemma => kernel_rfl) (N := 24) (by as_aux_lemma => kernel_rfl) ?_; intro hsh
      have HS := HSS.out W2.drew (below_drewN (Below.refl _ _) 1)
      refine wpAnyC_take (i := 0) (k := 22) (f := 40) (v := ?_) (d := some 43) rfl (by rfl) (by as_aux_lemma => kernel_rfl) (by as_aux_lemma => kernel_rfl) (by as_aux_lemma => kernel_rfl) hsh (by decide) (by as_aux_lemma => kernel_rfl) (by intro _ _ _ h; exact h) (by assumption) (Or.inl ⟨by rfl, ?hy⟩) ?_; (case hy => (rintro W ⟨b0, b1, b2, ⟨a2, a3, a4⟩, c1, l0, l1, l2⟩; go_simp; (try with_reducible rfl))); clear hsh; intro hsh
      refine wpAnyC_take0 (i := 1) (k := 22) (v := ?_) (d := some 44) rfl (by rfl) (by as_aux_lemma => kernel_rfl) (by as_aux_lemma => kernel_rfl) (by as_aux_lemma => kernel_rfl) hsh (by decide) (by intro _ _ _ h; exact h) (by assumption) (Or.inl ⟨by rfl, ?hy⟩) ?_; (case hy => (intro W _; go_simp; (try with_reducible rfl))); clear hsh; intro hsh
      refine wpAnyC_take0 (i := 2) (k := 22) (v := ?_) (d := some 45) rfl (by rfl) (by as_aux_lemma => kernel_rfl) (by as_aux_lemma => kernel_rfl) (by as_aux_lemma => kernel_rfl) hsh (by decide) (by intro _ _ _ h; exact h) (by assumption) (Or.inl ⟨by rfl, ?hy⟩) ?_; (case hy => (intro W _; go_simp; (try with_reducible rfl))); clear hsh; intro hsh
      refine wpAnyC_take (i := 3) (k := 22) (f := 40) (v := ?_) (d := some 46) rfl (by rfl) (by as_aux_lemma => kernel_rfl) (by as_aux_lemma => kernel_rfl) (by as_aux_lemma => kernel_rfl) hsh (by decide) (by as_aux_lemma => kernel_rfl) (by intro _ _ _ h; exact h) (by assumption) (Or.inl ⟨by rfl, ?hy⟩) ?_; (case hy => (rintro W ⟨b0, b1, b2, ⟨a2, a3, a4⟩, c1, l0, l1, l2⟩; go_simp; (try with_reducible rfl))); clear hsh; intro hsh
      refine wpAnyC_take0 (i := 4) (k := 22) (v := ?_) (d := some 47) rfl (by rfl) (by as_aux_lemma => kernel_rfl) (by as_aux_lemma => kernel_rfl) (by as_aux_lemma => kernel_rfl) hsh (by decide) (by intro _ _ _ h; exact h) (by assumption) (Or.inl ⟨by rfl, ?hy⟩) ?_; (case hy => (intro W _; go_simp; (try with_reducible rfl))); clear hsh; intro hsh
      refine wpAnyC_take (i := 5) (k := 22) (f := 40) (v := ?_) (d := some 48) rfl (by rfl) (by as_aux_lemma => kernel_rfl) (by as_aux_lemma => kernel_rfl) (by as_aux_lemma => kernel_rfl) hsh (by decide) (by as_aux_lemma => kernel_rfl) (by intro _ _ _ h; exact h) (by assumption) (Or.inl ⟨by rfl, ?hy⟩) ?_; (case hy => (rintro W ⟨b0, b1, b2, ⟨a2, a3, a4⟩, c1, l0, l1, l2⟩; go_simp; (try with_reducible rfl))); clear hsh; intro hsh
      refine wpAnyC_take0 (i := 6) (k := 22) (v := ?_) (d := some 49) rfl (by rfl) (by as_aux_lemma => kernel_rfl) (by as_aux_lemma => kernel_rfl) (by as_aux_lemma => kernel_rfl) hsh (by decide) (by intro _ _ _ h; exact h) (by assumption) (Or.inl ⟨by rfl, ?hy⟩) ?_; (case hy => (intro W _; go_simp; (try with_reducible rfl))); clear hsh; intro hsh
      refine wpAnyC_take0 (i := 7) (k := 22) (v := ?_) (d := some 50) rfl (by rfl) (by as_aux_lemma => kernel_rfl) (by as_aux_lemma => kernel_rfl) (by as_aux_lemma => kernel_rfl) hsh (by decide) (by intro _ _ _ h; exact h) (by assumption) (Or.inl ⟨by rfl, ?hy⟩) ?_; (case hy => (intro W _; go_simp; (try with_reducible rfl))); clear hsh; intro hsh
      refine wpAnyC_take (i := 8) (k := 22) (f := 40) (v := ?_) (d := some 51) rfl (by rfl) (by as_aux_lemma => kernel_rfl) (by as_aux_lemma => kernel_rfl) (by as_aux_lemma => kernel_rfl) hsh (by decide) (by as_aux_lemma => kernel_rfl) (by intro _ _ _ h; exact h) (by assumption) (Or.inl ⟨by rfl, ?hy⟩) ?_; (case hy => (rintro W ⟨b0, b1, b2, ⟨a2, a3, a4⟩, c1, l0, l1, l2⟩; go_simp; (try with_reducible rfl))); clear hsh; intro hsh
      refine wpAnyC_take0 (i := 9) (k := 22) (v := ?_) (d := some 52) rfl (by rfl) (by as_aux_lemma => kernel_rfl) (by as_aux_lemma => kernel_rfl) (by as_aux_lemma => kernel_rfl) hsh (by decide) (by intro _ _ _ h; exact h) (by assumption) (Or.inl ⟨by rfl, ?hy⟩) ?_; (case hy => (intro W _; go_simp; (try with_reducible rfl))); clear hsh; intro hsh
      refine wpAnyC_take0 (i := 10) (k := 22) (v := ?_) (d := some 53) rfl (by rfl) (by as_aux_lemma => kernel_rfl) (by as_aux_lemma => kernel_rfl) (by as_aux_lemma => kernel_rfl) hsh (by decide) (by intro _ _ _ h; exact h) (by assumption) (Or.inl ⟨by rfl, ?hy⟩) ?_; (case hy => (intro W _; go_simp; (try with_reducible rfl))); clear hsh; intro hsh
      refine wpAnyC_take0 (i := 11) (k := 22) (v := ?_) (d := some 54) rfl (by rfl) (by as_aux_lemma => kernel_rfl) (by as_aux_lemma => kernel_rfl) (by as_aux_lemma => kernel_rfl) hsh (by decide) (by intro _ _ _ h; exact h) (by assumption) (Or.inl ⟨by rfl, ?hy⟩) ?_; (case hy => (intro W _; go_simp; (try with_reducible rfl))); clear hsh; intro hsh
      refine wpAnyC_take (i := 12) (k := 22) (f := 40) (v := ?_) (d := some 55) rfl (by rfl) (by as_aux_lemma => kernel_rfl) (by as_aux_lemma => kernel_rfl) (by as_aux_lemma => kernel_rfl) hsh (by decide) (by as_aux_lemma => kernel_rfl) (by intro _ _ _ h; exact h) (by assumption) (Or.inl ⟨by rfl, ?hy⟩) ?_; (case hy => (rintro W ⟨b0, b1, b2, ⟨a2, a3, a4⟩, c1, l0, l1, l2⟩; go_simp; (try with_reducible rfl))); clear hsh; intro hsh
      refine wpAnyC_take (i := 13) (k := 22) (f := 40) (v := ?_) (d := some 56) rfl (by rfl) (by as_aux_lemma => kernel_rfl) (by as_aux_lemma => kernel_rfl) (by as_aux_lemma => kernel_rfl) hsh (by decide) (by as_aux_lemma => kernel_rfl) (by intro _ _ _ h; exact h) (by assumption) (Or.inl ⟨by rfl, ?hy⟩) ?_; (case hy => (rintro W ⟨b0, b1, b2, ⟨a2, a3, a4⟩, c1, l0, l1, l2⟩; go_simp; (try with_reducible rfl))); clear hsh; intro hsh
      refine wpAnyC_take0 (i := 14) (k := 22) (v := ?_) (d := some 57) rfl (by rfl) (by as_aux_lemma => kernel_rfl) (by as_aux_lemma => kernel_rfl) (by as_aux_lemma => kernel_rfl) hsh (by decide) (by intro _ _ _ h; exact h) (by assumption) (Or.inl ⟨by rfl, ?hy⟩) ?_; (case hy => (intro W _; go_simp; (try with_reducible rfl))); clear hsh; intro hsh
      refine wpAnyC_take0 (i := 15) (k := 22) (v := ?_) (d := some 58) rfl (by rfl) (by as_aux_lemma => kernel_rfl) (by as_aux_lemma => kernel_rfl) (by as_aux_lemma => kernel_rfl) hsh (by decide) (by intro _ _ _ h; exact h) (by assumption) (Or.inl ⟨by rfl, ?hy⟩) ?_; (case hy => (intro W _; go_simp; (try with_reducible rfl))); clear hsh; intro hsh
      refine wpAnyC_take (i := 16) (k := 22) (f := 40) (v := ?_) (d := some 59) rfl (by rfl) (by as_aux_lemma => kernel_rfl) (by as_aux_lemma => kernel_rfl) (by as_aux_lemma => kernel_rfl) hsh (by decide) (by as_aux_lemma => kernel_rfl) (by intro _ _ _ h; exact h) (by assumption) (Or.inl ⟨by rfl, ?hy⟩) ?_; (case hy => (rintro W ⟨b0, b1, b2, ⟨a2, a3, a4⟩, c1, l0, l1, l2⟩; go_simp; (try with_reducible rfl))); clear hsh; intro hsh
      refine wpAnyC_take0 (i := 17) (k := 22) (v := ?_) (d := some 60) rfl (by rfl) (by as_aux_lemma => kernel_rfl) (by as_aux_lemma => kernel_rfl) (by as_aux_lemma => kernel_rfl) hsh (by decide) (by intro _ _ _ h; exact h) (by assumption) (Or.inl ⟨by rfl, ?hy⟩) ?_; (case hy => (intro W _; go_simp; (try with_reducible rfl))); clear hsh; intro hsh
      refine wpAnyC_take0 (i := 18) (k := 22) (v := ?_) (d := some 61) rfl (by rfl) (by as_aux_lemma => kernel_rfl) (by as_aux_lemma => kernel_rfl) (by as_aux_lemma => kernel_rfl) hsh (by decide) (by intro _ _ _ h; exact h) (by assumption) (Or.inl ⟨by rfl, ?hy⟩) ?_; (case hy => (intro W _; go_simp; (try with_reducible rfl))); clear hsh; intro hsh
      refine wpAnyC_take (i := 19) (k := 22) (f := 40) (v := ?_) (d := some 62) rfl (by rfl) (by as_aux_lemma => kernel_rfl) (by as_aux_lemma => kernel_rfl) (by as_aux_lemma => kernel_rfl) hsh (by decide) (by as_aux_lemma => kernel_rfl) (by intro _ _ _ h; exact h) (by assumption) (Or.inl ⟨by rfl, ?hy⟩) ?_; (case hy => (rintro W ⟨b0, b1, b2, ⟨a2, a3, a4⟩, c1, l0, l1, l2⟩; go_simp; (try with_reducible rfl))); clear hsh; intro hsh
      refine wpAnyC_take (i := 20) (k := 22) (f := 40) (v := ?_) (d := some 63) rfl (by rfl) (by as_aux_lemma => kernel_rfl) (by as_aux_lemma => kernel_rfl) (by as_aux_lemma => kernel_rfl) hsh (by decide) (by as_aux_lemma => kernel_rfl) (by intro _ _ _ h; exact h) (by assumption) (Or.inl ⟨by rfl, ?hy⟩) ?_; (case hy => (rintro W ⟨b0, b1, b2, ⟨a2, a3, a4⟩, c1, l0, l1, l2⟩; go_simp; (try with_reducible rfl))); clear hsh; intro hsh
      refine wpAnyC_ready (rs := [21]) (by as_aux_lemma => kernel_rfl) (by simp) ?_; refine AllC.cons (i := 21) rfl (by as_aux_lemma => kernel_rfl) hsh (fun K hK => ?_) AllC.nil
      go_simp
      go_at_call 52
      refine (CP.out W2.drew).mono ?_
      rintro e w3 ⟨rfl, hb3⟩
      have hb3' : Below W2.heap.size W2 w3 := (below_drewN (Below.refl _ _) 1).trans hb3
      try go_simp
      refine hK _ _ (fun _ => HSS.out w3 hb3') ?_
      clear hK K hsh HS hb3
      intro hsh
      refine wpAnyC_tail (by as_aux_lemma => kernel_rfl) (by simp) (by as_aux_lemma => kernel_rfl) ?_; simp only [List.drop_succ_cons, List.drop_zero]; clear hsh
      obtain ⟨d0, d1, d2, ⟨_, _, _⟩, d3, d4, d5, d6⟩ := HSS.out w3 hb3'
      have HR3 := hide (own_below ROW.out hb3')
      have fz := fun j => own_free HR3.out j
      have z0 := fz (k * 3)
      have z1 := fz (k * 3 + 1)
      have z2 := fz (k * 3 + 2)
      clear fz
      have HB3 := hide hb3'
      clear hb3'
      go_wp2_with (fail)
      gi_wp2
      have hB := (hlbw lb rfl).1
      have ks := fun (W : World) i u => Keep.set (B := B) (c := lb) (P := fun k => (Value.slice (some ⟨lb, 0, none⟩) Q.length lc).ownBlock = some k) W i u hB rfl
      refine ⟨((((keeps_below _ HB3.out).trans ((KeepsOthers.setCell _ _ _).from _)).trans ((KeepsOthers.setCell _ _ _).from _)).trans ((KeepsOthers.setCell _ _ _).from _)).trans ((KeepsOthers.setCell _ _ _).from _), fun k' o e u => ?_, ?_, ?_⟩
      · have hne : k' ≠ lb := fun e2 => u.2 (by rw [e2]; rfl)
        exact block_set_other (block_set_other (block_set_other (block_set_other (block_below e HB3.out) _ _ hne) _ _ hne) _ _ hne) _ _ hne
      · exact KP.out.trans ((Keep.of_below HB3.out (Nat.le_trans (by omega) KP.out.be.size)).trans ((ks _ _ _).trans ((ks _ _ _).trans ((ks _ _ _).trans (ks _ _ _)))))
      · rw [HLV.out, HF3.out (.int .i64 (pH q.s q.a q.e x.h x.t x.r t))]
        exact own_set (own_set (own_set (own_set HR3.out _ _) _ _) _ _) _ _
    case done2 =>
      rintro D2 ys W2 hD2 rfl ⟨hKP, hrow⟩ hK2
      have H53 := hide (hKP.keep _ _ k53 (fun e => by have := hlbw _ e; omega))
      have c53 : W2.cell? ⟨w.heap.size + 1 + 1, 0, none⟩ = some (.int .i64 0) := (block_cell H53.out 0).trans rfl
      have f53 : W2.frozen? ⟨w.heap.size + 1 + 1, 0, none⟩ = false := block_free H53.out 0
      have HD := hide (hKP.keep _ _ kD (fun e => by have := hlbw _ e; omega))
      have KP := hide hKP
      have ROW := hide hrow
      have hDl := lt_of_block kD
      clear hKP hrow
      gi_wp2
      have q0 : D2 ≠ w.heap.size + 2 := by omega
      have q1 : D ≠ w.heap.size + 2 := by omega
      have q2 : D2 ≠ D := by omega
      obtain ⟨W3, hW3⟩ : ∃ W3, W2.setCell ⟨w.heap.size + 1 + 1, 0, none⟩ (.int .i64 (-1)) = W3 := ⟨_, rfl⟩
      rw [hW3]
      have t2 : W3.heap[D2]? = some (.deferred (some [])) := hW3 ▸ block_set_other hK2 _ _ (by show _ ≠ w.heap.size + 2; exact q0)
      have t1 : W3.heap[D]? = some (.deferred (some [])) := hW3 ▸ block_set_other HD.out _ _ (by show _ ≠ w.heap.size + 2; exact q1)
      have t3 : W3.heap[w.heap.size + 2]? = some (.cells #[.int .i64 (-1)] 3 (0, 0)) := hW3 ▸ (block_set (i := 0) H53.out _).trans rfl
      have p1 := block_put t1 q2 (.deferred none)
      have p3 := block_put (block_put t3 q0 (.deferred none)) q1 (.deferred none)
      refine ⟨by simp, .inl ⟨_, _, rfl, run_takeDeferred t2, by simp, .inl ⟨_, _, rfl, run_takeDeferred p1, ?_⟩⟩⟩
      refine ⟨.int .i64 (-1), ?_, .inr ⟨HF0.out, rfl, ?_, ?_⟩⟩
      · have hc := (block_cell p3 0).trans rfl
        simp [results, Tryz.f30, go_sem, hc]
      · refine own_stay ROW.out (fun k o e ho => ?_)
        have hk := hlbw k e
        have hk2 := lt_of_block kD
        exact block_put (block_put (hW3 ▸ block_set_other ho _ _ (by show _ ≠ w.heap.size + 2; omega)) (by omega) _) (by omega) _
      · have b3 : Below B w W3 := hW3 ▸ below_set ((HB07.out.mono hBz).trans KP.out.be) (by omega) _
        have s3 := b3.size
        have b4 := b3.grown (grownBy_putObj' W3 D2 (.deferred none)) (by omega) (fun k e => by cases e; omega)
        refine ⟨b4.grown (grownBy_putObj' _ D (.deferred none)) (Nat.le_trans (by omega) b4.size) (fun k e => by cases e; omega), fun k o e ne => ?_⟩
        have hk := lt_of_block e
        have e2 := KP.out.keep k o (block_below e HB07.out) ne
        exact block_put (block_put (hW3 ▸ block_set_other e2 _ _ (by show _ ≠ w.heap.size + 2; omega)) (by omega) _) (by omega) _
  case stop =>
    rintro D c pre W hD ⟨k, hk⟩ ⟨rfl, pre', i, h2, h3, h4, h5, h6⟩ hK
    gi_wp2
    refine ⟨by simp, .inl ⟨_, _, rfl, run_takeDeferred hK, ?_⟩⟩
    have hc := cell_kept ((block_cell h5 0).trans rfl) (grownBy_putObj' W D (.deferred none)) (fun r e => by cases e; exact ⟨_, hK, rfl⟩)
    refine ⟨.int .i64 (i.val : Int), ?_, .inl ⟨i, ?_, rfl, ?_⟩⟩
    · simp [results, Tryz.f30, go_sem, hc]
    · obtain ⟨rest, hrest⟩ := fitIx_pre Q key k
      unfold limF
      rw [List.find?_eq_some_iff_append]
      refine ⟨h3, pre', rest, ?_, fun a ha => by rw [h4 a ha]; rfl⟩
      rw [← hrest, ← hk, h2, List.append_assoc]; rfl
    · exact h6.grown (grownBy_putObj' W D (.deferred none)) h6.size (fun k e => by cases e; omega)
end Go.Proofs.YtkkhjlomicokgaaGreatDoor
