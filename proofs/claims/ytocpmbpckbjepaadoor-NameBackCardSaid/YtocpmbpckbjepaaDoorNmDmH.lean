/- A type more in the program's reader of mangled names: memory. No walk. -/
import Derived.Test.YtocpmbpckbjepaaDoorNmDmF
namespace Go.Proofs.YtocpmbpckbjepaaDoor
open Go.RowKit
set_option linter.unusedVariables false
set_option linter.unusedSimpArgs false
theorem law_strD : Go.Maps.Keyed Tryd.prog 9 := Go.Maps.string_keyed Tryd.underlying9
theorem key_ofD (s : ByteArray) (h : s.size ≤ maxLen) : keyOf Tryd.prog 9 (.string s) = some (.string s.data.toList) := Go.WideMaps.keyOf_string_mk Tryd.underlying9 h
theorem zero_intD (w : World) : (zeroValue 3).run Tryd.prog w = .ok (.int .i64 0) w := by kernel_rfl
theorem wf_intD {n : Nat} (h : n ≤ 100000) : (Lit.int .i64 (n : Int)).wf = true := by
  rw [Lit.wf]
  simp only [Bool.and_eq_true, decide_eq_true_eq]
  exact ⟨show (-9223372036854775808 : Int) ≤ _ by omega, show _ ≤ (9223372036854775807 : Int) by omega⟩
section
variable {B c mb : Nat} {s : ByteArray} {i q i' q' : Int} {D D' : List Nd} {F F0 F1 F' : Nat → Prop} {w w0 w1 w2 w3 w' wx wy : World}
theorem rowsU_all {w : World} {F : Nat → Prop} {D : List Nd} {css : List (List Value)} (h : RowsU w F (fun i => [.int .i64 (i : Int)]) D css) : ∀ cs ∈ css, cs.length = 4 := fun cs hc => by
  obtain ⟨k, hk, rfl⟩ := List.mem_iff_getElem.1 hc
  have hl : k < D.length := by have := h.len; omega
  obtain ⟨c', e, ht⟩ := h.in_ k _ _ (List.getElem?_eq_getElem hl) (List.getElem?_eq_getElem hk)
  obtain ⟨A, n, q, A', n', q', e'⟩ := tyU_len ht
  rw [e, e']; rfl
/-- A type that was read, in memory. -/
theorem nS.node (h : nS B c mb s i q D F w) {n : Nat} {x : Nd} (hx : D[n]? = some x) : ∃ (g cap : Nat) (k : Int) (A : Option Addr) (m r : Nat) (A' : Option Addr) (m' r' : Nat), w.cell? ⟨c, 4, none⟩ = some (.slice (some ⟨g, 0, none⟩) D.length cap) ∧ D.length ≤ cap ∧ cap ≤ maxLen ∧
    w.cell? ⟨g, n * 4, none⟩ = some (.int .i64 (n : Int)) ∧ w.cell? ⟨g, n * 4 + 1, none⟩ = some (.int .i64 k) ∧ w.cell? ⟨g, n * 4 + 2, none⟩ = some (.slice A m r) ∧ w.cell? ⟨g, n * 4 + 3, none⟩ = some (.slice A' m' r') ∧ TyU w F x.2 [.int .i64 k, .slice A m r, .slice A' m' r'] := by
  obtain ⟨v, css, h1, h2, h4, h5⟩ := h.st
  have hn : n < D.length := (List.getElem?_eq_some_iff.1 hx).1
  obtain ⟨g, cap, cur, rfl, hbg, hgb, hncp, hcpm, _⟩ := own_blk h2 (by omega)
  have hcs := List.getElem?_eq_getElem (show n < css.length by rw [h4.len]; exact hn)
  obtain ⟨c', e, ht⟩ := h4.in_ n x _ hx hcs
  obtain ⟨A, m, r, A', m', r', e'⟩ := tyU_len ht
  rw [e, e'] at hcs
  have hall := rowsU_all h4
  have hk := fun j u hu => own_cell h2 (n * 4 + j) u (flat_get css n j _ u hall hcs hu)
  rw [e'] at ht
  exact ⟨g, cap, _, A, m, r, A', m', r', block_cell h1 4, hncp, hcpm, hk 0 _ rfl, hk 1 _ rfl, hk 2 _ rfl, hk 3 _ rfl, ht⟩
theorem nS.c4 (h : nS B c mb s i q D F w) : ∃ (A : Option Addr) (k : Nat), w.cell? ⟨c, 4, none⟩ = some (.slice A D.length k) := by
  obtain ⟨A, k, hb⟩ := h.box
  exact ⟨A, k, block_cell hb 4⟩
/-- The answer's four cells are written. -/
theorem nFin (h : nR B c mb s i q D F0 F w w1) (hB : B ≤ w.heap.size) {rb : Nat} {y0 y1 y2 y3 : Value} {ty : TypeId} {fr : Nat × Nat} (hb : nBk c mb w1 F rb (.cells #[y0, y1, y2, y3] ty fr)) (hlt : w.heap.size ≤ rb) (x0 x1 x2 x3 : Value) :
    nR B c mb s i q D F0 F w ((((w1.setCell ⟨rb, 0, none⟩ x0).setCell ⟨rb, 1, none⟩ x1).setCell ⟨rb, 2, none⟩ x2).setCell ⟨rb, 3, none⟩ x3) ∧
    (((((w1.setCell ⟨rb, 0, none⟩ x0).setCell ⟨rb, 1, none⟩ x1).setCell ⟨rb, 2, none⟩ x2).setCell ⟨rb, 3, none⟩ x3)).heap[rb]? = some (.cells #[x0, x1, x2, x3] ty fr) ∧
    StayS F w1 ((((w1.setCell ⟨rb, 0, none⟩ x0).setCell ⟨rb, 1, none⟩ x1).setCell ⟨rb, 2, none⟩ x2).setCell ⟨rb, 3, none⟩ x3) := by
  have h1 := h.other (k := 0) hB hlt hb.2 x0
  have b1 := hb.set (k := 0) h.st x0
  have h2 := h1.other (k := 1) hB hlt b1.2 x1
  have b2 := b1.set (k := 1) h1.st x1
  have h3 := h2.other (k := 2) hB hlt b2.2 x2
  have b3 := b2.set (k := 2) h2.st x2
  have h4 := h3.other (k := 3) hB hlt b3.2 x3
  have b4 := b3.set (k := 3) h3.st x3
  refine ⟨h4, by simpa using b4.1, by simp, fun b o hf e => ?_⟩
  have hne : b ≠ rb := fun e2 => hb.2.2.2.2.1 (e2 ▸ hf)
  exact block_set_other (block_set_other (block_set_other (block_set_other e _ _ hne) _ _ hne) _ _ hne) _ _ hne
theorem pKs_new {D : List Nd} {x : Nd} : pKs (D ++ [x]) = pKs D ++ [pK x.1] := by simp [pKs]
theorem Ext.push {D : List Nd} {sh : Shp} {t : Ty} (h : NOk D) (hn : sh ∉ D.map (·.1)) (hs : ShOk sh) : NOk (D ++ [(sh, t)]) := by
  refine ⟨?_, fun x hx => ?_⟩
  · rw [List.map_append, List.nodup_append]
    refine ⟨h.nodup, by simp, fun a ha b hb => ?_⟩
    simp at hb
    exact fun e => hn (by rw [← hb, ← e]; exact ha)
  · rcases List.mem_append.1 hx with hx | hx
    · exact h.ok x hx
    · obtain rfl := List.mem_singleton.1 hx; exact hs
/-- The reader while a type is being added: it is in the map, not yet in the row. -/
structure nMid (B c mb : Nat) (s : ByteArray) (i : Int) (D : List Nd) (x : Nd) (F0 F : Nat → Prop) (w w2 : World) (v : Value) (css : List (List Value)) : Prop where
  box : w2.heap[c]? = some (.cells #[.string s, .int .i64 i, .int .i64 (-1), .map (some mb), v] 69 (0, 0))
  row : w2.ownsRow B 77 4 v D.length css.flatten
  rows : RowsU w2 F (fun i => [.int .i64 (i : Int)]) D css
  nf : ∀ g, v.ownBlock = some g → ¬ F g
  map : w2.ownsMap Tryd.prog 9 (plainElem Tryd.prog 3) mb (D ++ [x]).length (idxD (pKs (D ++ [x])))
  stay : ∃ w1, nR B c mb s i (-1) D F0 F w w1 ∧ (∀ j o, w1.heap[j]? = some o → j ≠ mb → w2.heap[j]? = some o) ∧ w1.heap.size ≤ w2.heap.size ∧ (∀ j, v.ownBlock = some j → nRow c mb w1 j)
  be : Below B w w2
theorem nMid.start (h : nR B c mb s i (-1) D F0 F w w1) (hB : B ≤ w.heap.size) {x : Nd} {v : Value} {css : List (List Value)} (hb : w1.heap[c]? = some (.cells #[.string s, .int .i64 i, .int .i64 (-1), .map (some mb), v] 69 (0, 0))) (hr : w1.ownsRow B 77 4 v D.length css.flatten) (hrs : RowsU w1 F (fun i => [.int .i64 (i : Int)]) D css) (hnf : ∀ g, v.ownBlock = some g → ¬ F g)
    (hx : Below w1.heap.size w1 wx) (ho : w2.ownsMap Tryd.prog 9 (plainElem Tryd.prog 3) mb (D.length + 1) ((idxD (pKs D)).put (.string (pK x.1)) (.lit (.int .i64 (D.length : Int))))) (hg : wx.grownBy w2 (some mb)) : nMid B c mb s i D x F0 F w w2 v css := by
  have hz := h.size
  have hk : ∀ j o, w1.heap[j]? = some o → j ≠ mb → w2.heap[j]? = some o := fun j o e hne => (hg.block j (by have := lt_of_block e; have := hx.size; omega) (fun e2 => hne (Option.some.inj e2))).trans (block_below e hx)
  have hvm : ∀ g, v.ownBlock = some g → g ≠ mb := fun g hg' => h.st.notmap ⟨_, _, _, _, hb, hg'⟩
  have hst : StayS F w1 w2 := ⟨by have := hg.size; have := hx.size; omega, fun b o hf e => hk b o e (h.st.hF b hf).2.2⟩
  refine ⟨hk c _ hb h.st.hB.2.2.symm, own_stay hr (fun g o hg' e => hk g o e (hvm g hg')), hrs.stay hst (fun _ h => h), hnf, ?_, ⟨w1, h, hk, hst.1, fun j hj => ⟨_, _, _, _, hb, hj⟩⟩, ?_⟩
  · rw [pKs_new, idxD_snoc, List.length_append, List.length_singleton, show (pKs D).length = D.length by simp [pKs]]
    exact ho
  · refine h.be.trans (((hx.mono (Nat.le_trans hB hz))).grown hg (Nat.le_trans (Nat.le_trans hB hz) hx.size) (fun k hk => by cases hk; exact h.st.hB.2.1))
/-- The type is in the row too. -/
theorem nMid.push {sh : Shp} {t : Ty} {v : Value} {css : List (List Value)} (h : nMid B c mb s i D (sh, t) F0 F w w2 v css) (hB : B ≤ w.heap.size) {k : Int} {A : Option Addr} {m r : Nat} {A' : Option Addr} {m' r' : Nat} (ht : TyU w2 F t [.int .i64 k, .slice A m r, .slice A' m' r']) (hn : sh ∉ D.map (·.1)) (hs : ShOk sh) (hl : D.length < 8000)
    (hx : Below w2.heap.size w2 wy) {v' : Value} (ho : w3.ownsRow B 77 4 v' (D.length + 1) (css.flatten ++ [.int .i64 (D.length : Int), .int .i64 k, .slice A m r, .slice A' m' r'])) (hg : wy.grownBy w3 v.ownBlock) (hv : v'.ownBlock = v.ownBlock ∨ v'.ownBlock = some wy.heap.size) :
    nR B c mb s i (-1) (D ++ [(sh, t)]) F0 F w (w3.setCell ⟨c, 4, none⟩ v') := by
  obtain ⟨w1, h1, hk1, hz1, hrw⟩ := h.stay
  have hzx := hx.size
  have hzg := hg.size
  have hvc : ∀ g, v.ownBlock = some g → g ≠ c ∧ g ≠ mb ∧ g < w1.heap.size ∧ B ≤ g := fun g hg' => by
    have := h1.st.rows (hrw g hg')
    exact ⟨this.2.2.2, h1.st.notmap (hrw g hg'), this.2.1, this.1⟩
  have hk3 : ∀ j o, w2.heap[j]? = some o → v.ownBlock ≠ some j → w3.heap[j]? = some o := fun j o e hne => (hg.block j (by have := lt_of_block e; omega) (fun e2 => hne e2.symm)).trans (block_below e hx)
  have hk4 : ∀ j o, w2.heap[j]? = some o → v.ownBlock ≠ some j → j ≠ c → (w3.setCell ⟨c, 4, none⟩ v').heap[j]? = some o := fun j o e hne hc => block_set_other (hk3 j o e hne) _ _ hc
  have hcr : v.ownBlock ≠ some c := fun e => (hvc c e).1 rfl
  have hmr : v.ownBlock ≠ some mb := fun e => (hvc mb e).2.1 rfl
  have hc3 := hk3 c _ h.box hcr
  have hst : StayS F w2 (w3.setCell ⟨c, 4, none⟩ v') := ⟨by simp; omega, fun b o hf e => hk4 b o e (fun e2 => h.nf b e2 hf) (h1.st.hF b hf).2.1⟩
  have hlen : (D ++ [(sh, t)]).length = D.length + 1 := by simp
  have hlc := h1.st.lt
  have hvc' : ∀ g, v'.ownBlock = some g → g ≠ c := fun g hg' e => by
    subst e
    rcases hv with hv | hv
    · rw [hv] at hg'; exact hcr hg'
    · rw [hv] at hg'; have := Option.some.inj hg'; omega
  refine ⟨⟨⟨v', css ++ [[.int .i64 (D.length : Int), .int .i64 k, .slice A m r, .slice A' m' r']], ?_, ?_, ?_, ?_⟩, ?_, h1.st.hB, fun b hb => ?_, Ext.push h1.st.ok hn hs, by rw [hlen]; omega⟩, ?_, h1.fh, fun j o e h2 h3 h4 => ?_, fun j hj => ?_, h1.grow, h1.new⟩
  · have := block_set (i := 4) hc3 v'
    simpa using this
  · rw [hlen, List.flatten_append]
    simp only [List.flatten_cons, List.flatten_nil, List.append_nil]
    exact own_stay ho (fun g o hg' e => block_set_other e _ _ (hvc' g hg'))
  · exact (h.rows.stay hst (fun _ h => h)).snoc (stay_tyU _ _ _ _ _ _ ht hst (fun _ h _ => h))
  · intro g hg' hf
    rcases hv with hv | hv
    · rw [hv] at hg'; exact h.nf g hg' hf
    · rw [hv] at hg'; have := Option.some.inj hg'; have := (h1.st.hF g hf).1; omega
  · exact map_stay h.map (fun o e => hk4 mb o e hmr h1.st.hB.2.2)
  · exact ⟨by have := (h1.st.hF b hb).1; simp; omega, (h1.st.hF b hb).2⟩
  · have hz := h1.size
    have hBz : B ≤ w2.heap.size := by omega
    exact (h.be.trans ((hx.mono hBz).grown hg (by omega) (fun j hj => (hvc j hj).2.2.2))).setCell (p := ⟨c, 4, none⟩) h1.st.hB.1 _
  · refine hk4 j o (hk1 j o (h1.kept j o e h2 h3 h4) h3) (fun e2 => ?_) h2
    rcases h1.row j (hrw j e2) with h5 | h5
    · exact h4 h5
    · have := lt_of_block e; omega
  · obtain ⟨s', i', q', v2, g1, g2⟩ := hj
    have hb4 := block_set (i := 4) hc3 v'
    have hb5 : (w3.setCell ⟨c, 4, none⟩ v').heap[c]? = some (.cells #[.string s, .int .i64 i, .int .i64 (-1), .map (some mb), v'] 69 (0, 0)) := by simpa using hb4
    obtain rfl := nbox_inj hb5 g1
    rcases hv with hv | hv
    · rw [hv] at g2; exact h1.row j (hrw j g2)
    · rw [hv] at g2; have := Option.some.inj g2; have := h1.size; exact .inr (by omega)
end
end Go.Proofs.YtocpmbpckbjepaaDoor
