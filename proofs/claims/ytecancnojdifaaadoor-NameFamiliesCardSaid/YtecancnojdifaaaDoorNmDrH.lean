/- A type more in the reference's reader of mangled names: memory. No walk. -/
import Derived.Test.YtecancnojdifaaaDoorNmDrC
import Derived.Test.YtecancnojdifaaaDoorNmGE
import Derived.Deep.RegionLaw
import Derived.Deep.AppendLies
namespace Go.Proofs.YtecancnojdifaaaDoor
open Go.RowKit
set_option linter.unusedVariables false
set_option linter.unusedSimpArgs false
section
variable {B c mb : Nat} {s : ByteArray} {i q i' q' : Int} {D D' : List Nd} {F F0 F1 F' : Nat → Prop} {w w0 w1 w2 w3 w' wx wy W W' : World} {v v' u u' v0 u0 : Value} {j : Nat} {o : Obj} {n1 n2 : Nat} {xs1 xs2 : List Value}
theorem rKs_new {D : List Nd} {x : Nd} : rKs (D ++ [x]) = rKs D ++ [rK x.1] := by simp [rKs]
theorem ids_snoc (n : Nat) : ids (n + 1) = ids n ++ [.int .i64 (n : Nat)] := by unfold ids; rw [List.range_succ, List.map_append]; rfl
/-- The two rows while they grow; w7: the world ahead of it. -/
structure rTwo (B c mb : Nat) (s : ByteArray) (i : Int) (v0 u0 : Value) (w7 : World) (v : Value) (n1 : Nat) (xs1 : List Value) (u : Value) (n2 : Nat) (xs2 : List Value) (W : World) : Prop where
  box : W.heap[c]? = some (.cells #[.string s, .int .i64 i, .int .i64 (-1), v0, u0, .map (some mb)] 69 (0, 0))
  r1 : W.ownsRow B 60 3 v n1 xs1
  r2 : W.ownsRow B 3 1 u n2 xs2
  l1 : ∀ g, v.ownBlock = some g → v0.ownBlock = some g ∨ w7.heap.size ≤ g
  l2 : ∀ g, u.ownBlock = some g → u0.ownBlock = some g ∨ w7.heap.size ≤ g
  kp : ∀ j o, w7.heap[j]? = some o → v0.ownBlock ≠ some j → u0.ownBlock ≠ some j → W.heap[j]? = some o
  be : Below B w7 W
theorem rTwo.alloc {w7 : World} (h : rTwo B c mb s i v0 u0 w7 v n1 xs1 u n2 xs2 W) (hB : B ≤ w7.heap.size) (o : Obj) : rTwo B c mb s i v0 u0 w7 v n1 xs1 u n2 xs2 (W.alloc o) :=
  have hb : Below W.heap.size W (W.alloc o) := (Below.refl _ _).alloc (Nat.le_refl _) o
  ⟨block_below h.box hb, h.r1.alloc o, h.r2.alloc o, h.l1, h.l2, fun j o e a b => block_below (h.kp j o e a b) hb, h.be.trans (hb.mono (Nat.le_trans hB h.be.size))⟩
theorem own_two' {e1 e2 : TypeId} {s1 s2 : Nat} (h1 : w.ownsRow B e1 s1 v n1 xs1) (h2 : w.ownsRow B e2 s2 u n2 xs2) (hne : e1 ≠ e2) : u.ownBlock = none ∨ u.ownBlock ≠ v.ownBlock := by
  rcases h2.2 with ⟨rfl, _⟩ | ⟨g, cap, cur, rfl, _, hh, _⟩
  · exact .inl rfl
  · right
    intro e
    exact own_other' h1 hh hne e.symm
theorem rTwo.grow1 {w7 : World} {n' : Nat} {xs' : List Value} {g cap : Nat} (h : rTwo B c mb s i v0 u0 w7 v n1 xs1 u n2 xs2 W) (hB : B ≤ w7.heap.size) (hg : W.grownBy W' v.ownBlock) (ho : W'.ownsRow B 60 3 (.slice (some ⟨g, 0, none⟩) n' cap) n' xs') (hl : v.ownBlock = some g ∨ g = W.heap.size) : rTwo B c mb s i v0 u0 w7 (.slice (some ⟨g, 0, none⟩) n' cap) n' xs' u n2 xs2 W' := by
  have hz := h.be.size
  refine ⟨(hg.block c (lt_of_block h.box) (fun e => own_other' h.r1 h.box (by decide) e.symm)).trans h.box, ho, h.r2.kept hg (own_two' h.r1 h.r2 (by decide)), fun k hk => ?_, h.l2, fun j o e a b => (hg.block j (lt_of_block (h.kp j o e a b)) (fun e2 => ?_)).trans (h.kp j o e a b), h.be.trans ((Below.refl _ _).grown hg (Nat.le_trans hB hz) (fun k hk => (h.r1.lt k hk).1))⟩
  · obtain rfl : g = k := by simpa [Value.ownBlock] using hk
    rcases hl with hl | hl
    · exact h.l1 _ hl
    · exact .inr (by omega)
  · rcases h.l1 j e2.symm with h3 | h3
    · exact a h3
    · have := lt_of_block e; omega
theorem rTwo.grow2 {w7 : World} {n' : Nat} {xs' : List Value} {g cap : Nat} (h : rTwo B c mb s i v0 u0 w7 v n1 xs1 u n2 xs2 W) (hB : B ≤ w7.heap.size) (hg : W.grownBy W' u.ownBlock) (ho : W'.ownsRow B 3 1 (.slice (some ⟨g, 0, none⟩) n' cap) n' xs') (hl : u.ownBlock = some g ∨ g = W.heap.size) : rTwo B c mb s i v0 u0 w7 v n1 xs1 (.slice (some ⟨g, 0, none⟩) n' cap) n' xs' W' := by
  have hz := h.be.size
  refine ⟨(hg.block c (lt_of_block h.box) (fun e => own_other' h.r2 h.box (by decide) e.symm)).trans h.box, h.r1.kept hg (own_two' h.r2 h.r1 (by decide)), ho, h.l1, fun k hk => ?_, fun j o e a b => (hg.block j (lt_of_block (h.kp j o e a b)) (fun e2 => ?_)).trans (h.kp j o e a b), h.be.trans ((Below.refl _ _).grown hg (Nat.le_trans hB hz) (fun k hk => (h.r2.lt k hk).1))⟩
  · obtain rfl : g = k := by simpa [Value.ownBlock] using hk
    rcases hl with hl | hl
    · exact h.l2 _ hl
    · exact .inr (by omega)
  · rcases h.l2 j e2.symm with h3 | h3
    · exact b h3
    · have := lt_of_block e; omega
/-- The reader while a type is being added: it is in the map, not yet in the rows. -/
structure rMid (B c mb : Nat) (s : ByteArray) (i : Int) (D : List Nd) (x : Nd) (F0 F : Nat → Prop) (w w2 : World) (v u : Value) (css : List (List Value)) : Prop where
  two : rTwo B c mb s i v u w2 v D.length css.flatten u D.length (ids D.length) w2
  rows : RowsU w2 F (fun _ => []) D css
  nf : ∀ g, (v.ownBlock = some g ∨ u.ownBlock = some g) → ¬ F g
  map : w2.ownsMap Tryd.prog 9 (plainElem Tryd.prog 3) mb (D ++ [x]).length (idxD (rKs (D ++ [x])))
  stay : ∃ w1, rR B c mb s i (-1) D F0 F w w1 ∧ (∀ j o, w1.heap[j]? = some o → j ≠ mb → w2.heap[j]? = some o) ∧ w1.heap.size ≤ w2.heap.size ∧ (∀ j, (v.ownBlock = some j ∨ u.ownBlock = some j) → rRow c mb w1 j)
  be : Below B w w2
theorem rMid.start (h : rR B c mb s i (-1) D F0 F w w1) (hB : B ≤ w.heap.size) {x : Nd} {css : List (List Value)} (hb : w1.heap[c]? = some (.cells #[.string s, .int .i64 i, .int .i64 (-1), v, u, .map (some mb)] 69 (0, 0))) (hr : w1.ownsRow B 60 3 v D.length css.flatten) (hu : w1.ownsRow B 3 1 u D.length (ids D.length)) (hrs : RowsU w1 F (fun _ => []) D css) (hnf : ∀ g, (v.ownBlock = some g ∨ u.ownBlock = some g) → ¬ F g)
    (hx : Below w1.heap.size w1 wx) (ho : w2.ownsMap Tryd.prog 9 (plainElem Tryd.prog 3) mb (D.length + 1) ((idxD (rKs D)).put (.string (rK x.1)) (.lit (.int .i64 (D.length : Int))))) (hg : wx.grownBy w2 (some mb)) : rMid B c mb s i D x F0 F w w2 v u css := by
  have hz := h.size
  have hk : ∀ j o, w1.heap[j]? = some o → j ≠ mb → w2.heap[j]? = some o := fun j o e hne => (hg.block j (by have := lt_of_block e; have := hx.size; omega) (fun e2 => hne (Option.some.inj e2))).trans (block_below e hx)
  have hvm : ∀ g, (v.ownBlock = some g ∨ u.ownBlock = some g) → g ≠ mb := fun g hg' => h.st.notmap ⟨_, _, _, _, _, hb, hg'⟩
  have hzz : w1.heap.size ≤ w2.heap.size := by have := hg.size; have := hx.size; omega
  have hst : StayS F w1 w2 := ⟨hzz, fun b o hf e => hk b o e (h.st.hF b hf).2.2⟩
  refine ⟨⟨hk c _ hb h.st.hB.2.2.symm, own_stay hr (fun g o hg' e => hk g o e (hvm g (.inl hg'))), own_stay hu (fun g o hg' e => hk g o e (hvm g (.inr hg'))), fun g hg => .inl hg, fun g hg => .inl hg, fun _ _ e _ _ => e, Below.refl _ _⟩, hrs.stay hst (fun _ h => h), hnf, ?_, ⟨w1, h, hk, hzz, fun j hj => ⟨_, _, _, _, _, hb, hj⟩⟩, ?_⟩
  · rw [rKs_new, idxD_snoc, List.length_append, List.length_singleton, show (rKs D).length = D.length by simp [rKs]]
    exact ho
  · refine h.be.trans (((hx.mono (Nat.le_trans hB hz))).grown hg (Nat.le_trans (Nat.le_trans hB hz) hx.size) (fun k hk => by cases hk; exact h.st.hB.2.1))
/-- The type is in the rows too. -/
theorem rMid.push {sh : Shp} {t : Ty} {css : List (List Value)} (h : rMid B c mb s i D (sh, t) F0 F w w2 v u css) (hB : B ≤ w.heap.size) {k : Int} {A : Option Addr} {m r : Nat} {A' : Option Addr} {m' r' : Nat} (ht : TyU w2 F t [.int .i64 k, .slice A m r, .slice A' m' r']) (hn : sh ∉ D.map (·.1)) (hs : ShOk sh) (hl : D.length < 8000)
    (h9 : rTwo B c mb s i v u w2 v' (D.length + 1) (css.flatten ++ [.int .i64 k, .slice A m r, .slice A' m' r']) u' (D.length + 1) (ids D.length ++ [.int .i64 (D.length : Nat)]) W) :
    rR B c mb s i (-1) (D ++ [(sh, t)]) F0 F w ((W.setCell ⟨c, 3, none⟩ v').setCell ⟨c, 4, none⟩ u') ∧ TyU ((W.setCell ⟨c, 3, none⟩ v').setCell ⟨c, 4, none⟩ u') F t [.int .i64 k, .slice A m r, .slice A' m' r'] ∧
    (∀ j o, w2.heap[j]? = some o → v.ownBlock ≠ some j → u.ownBlock ≠ some j → j ≠ c → ((W.setCell ⟨c, 3, none⟩ v').setCell ⟨c, 4, none⟩ u').heap[j]? = some o) ∧ (∀ j, rRow c mb ((W.setCell ⟨c, 3, none⟩ v').setCell ⟨c, 4, none⟩ u') j → v.ownBlock = some j ∨ u.ownBlock = some j ∨ w2.heap.size ≤ j) := by
  obtain ⟨w1, h1, hk1, hz1, hrw⟩ := h.stay
  have hzW := h9.be.size
  have hvc : ∀ g, (v.ownBlock = some g ∨ u.ownBlock = some g) → g ≠ c ∧ g ≠ mb ∧ g < w1.heap.size ∧ B ≤ g := fun g hg' => by
    have := h1.st.rows (hrw g hg')
    exact ⟨this.2.2.2, h1.st.notmap (hrw g hg'), this.2.1, this.1⟩
  have hk4 : ∀ j o, w2.heap[j]? = some o → v.ownBlock ≠ some j → u.ownBlock ≠ some j → j ≠ c → ((W.setCell ⟨c, 3, none⟩ v').setCell ⟨c, 4, none⟩ u').heap[j]? = some o := fun j o e a b hc => block_set_other (block_set_other (h9.kp j o e a b) _ _ hc) _ _ hc
  have hmr : v.ownBlock ≠ some mb ∧ u.ownBlock ≠ some mb := ⟨fun e => (hvc mb (.inl e)).2.1 rfl, fun e => (hvc mb (.inr e)).2.1 rfl⟩
  have hlc := h1.st.lt
  have hb3 := block_set (i := 3) h9.box v'
  have hb4 := block_set (i := 4) hb3 u'
  have hb5 : ((W.setCell ⟨c, 3, none⟩ v').setCell ⟨c, 4, none⟩ u').heap[c]? = some (.cells #[.string s, .int .i64 i, .int .i64 (-1), v', u', .map (some mb)] 69 (0, 0)) := by simpa using hb4
  have hst : StayS F w2 ((W.setCell ⟨c, 3, none⟩ v').setCell ⟨c, 4, none⟩ u') := ⟨by simp; omega, fun b o hf e => hk4 b o e (fun e2 => h.nf b (.inl e2) hf) (fun e2 => h.nf b (.inr e2) hf) (h1.st.hF b hf).2.1⟩
  have hlen : (D ++ [(sh, t)]).length = D.length + 1 := by simp
  have hnew : ∀ j, rRow c mb ((W.setCell ⟨c, 3, none⟩ v').setCell ⟨c, 4, none⟩ u') j → v.ownBlock = some j ∨ u.ownBlock = some j ∨ w2.heap.size ≤ j := fun j ⟨s', i', q', v2, u2, g1, g2⟩ => by
    obtain ⟨rfl, rfl⟩ := rbox_inj hb5 g1
    rcases g2 with g2 | g2
    · rcases h9.l1 j g2 with h5 | h5
      · exact .inl h5
      · exact .inr (.inr h5)
    · rcases h9.l2 j g2 with h5 | h5
      · exact .inr (.inl h5)
      · exact .inr (.inr h5)
  have hvc1 : ∀ g, v'.ownBlock = some g → g ≠ c := fun g hg' e => by subst e; exact own_other' h9.r1 h9.box (by decide) hg'
  have hvc2 : ∀ g, u'.ownBlock = some g → g ≠ c := fun g hg' e => by subst e; exact own_other' h9.r2 h9.box (by decide) hg'
  have hty := stay_tyU _ _ _ _ _ _ ht hst (fun _ h _ => h)
  refine ⟨⟨⟨⟨v', u', css ++ [[.int .i64 k, .slice A m r, .slice A' m' r']], hb5, ?_, ?_, ?_, ?_⟩, ?_, h1.st.hB, fun b hb => ?_, Ext.push h1.st.ok hn hs, by rw [hlen]; omega⟩, ?_, h1.fh, fun j o e h2 h3 h4 => ?_, fun j hj => ?_, h1.grow, h1.new⟩, hty, hk4, hnew⟩
  · rw [hlen, List.flatten_append]
    simp only [List.flatten_cons, List.flatten_nil, List.append_nil]
    exact own_stay h9.r1 (fun g o hg' e => block_set_other (block_set_other e _ _ (hvc1 g hg')) _ _ (hvc1 g hg'))
  · rw [hlen, ids_snoc]
    exact own_stay h9.r2 (fun g o hg' e => block_set_other (block_set_other e _ _ (hvc2 g hg')) _ _ (hvc2 g hg'))
  · exact (h.rows.stay hst (fun _ h => h)).snoc (x := (sh, t)) hty
  · intro g hg' hf
    have := (h1.st.hF g hf).1
    rcases hg' with hg' | hg'
    · rcases h9.l1 g hg' with h5 | h5
      · exact h.nf g (.inl h5) hf
      · omega
    · rcases h9.l2 g hg' with h5 | h5
      · exact h.nf g (.inr h5) hf
      · omega
  · exact map_stay h.map (fun o e => hk4 mb o e hmr.1 hmr.2 h1.st.hB.2.2)
  · exact ⟨by have := (h1.st.hF b hb).1; simp; omega, (h1.st.hF b hb).2⟩
  · exact ((h.be.trans h9.be).setCell (p := ⟨c, 3, none⟩) h1.st.hB.1 _).setCell (p := ⟨c, 4, none⟩) h1.st.hB.1 _
  · refine hk4 j o (hk1 j o (h1.kept j o e h2 h3 h4) h3) (fun e2 => ?_) (fun e2 => ?_) h2
    · rcases h1.row j (hrw j (.inl e2)) with h5 | h5
      · exact h4 h5
      · have := lt_of_block e; omega
    · rcases h1.row j (hrw j (.inr e2)) with h5 | h5
      · exact h4 h5
      · have := lt_of_block e; omega
  · have hzw := h1.size
    rcases hnew j hj with h5 | h5 | h5
    · exact h1.row j (hrw j (.inl h5))
    · exact h1.row j (hrw j (.inr h5))
    · exact .inr (by omega)
/-- The answer's three cells are written. -/
theorem rFin (h : rR B c mb s i q D F0 F w w1) (hB : B ≤ w.heap.size) {rb : Nat} {y0 y1 y2 : Value} {ty : TypeId} {fr : Nat × Nat} (hb : rBk c mb w1 F rb (.cells #[y0, y1, y2] ty fr)) (hlt : w.heap.size ≤ rb) (x0 x1 x2 : Value) :
    rR B c mb s i q D F0 F w (((w1.setCell ⟨rb, 0, none⟩ x0).setCell ⟨rb, 1, none⟩ x1).setCell ⟨rb, 2, none⟩ x2) ∧
    (((w1.setCell ⟨rb, 0, none⟩ x0).setCell ⟨rb, 1, none⟩ x1).setCell ⟨rb, 2, none⟩ x2).heap[rb]? = some (.cells #[x0, x1, x2] ty fr) ∧
    StayS F w1 (((w1.setCell ⟨rb, 0, none⟩ x0).setCell ⟨rb, 1, none⟩ x1).setCell ⟨rb, 2, none⟩ x2) := by
  have h1 := h.other (k := 0) hB hlt hb.2 x0
  have b1 := hb.set (k := 0) h.st x0
  have h2 := h1.other (k := 1) hB hlt b1.2 x1
  have b2 := b1.set (k := 1) h1.st x1
  have h3 := h2.other (k := 2) hB hlt b2.2 x2
  have b3 := b2.set (k := 2) h2.st x2
  refine ⟨h3, by simpa using b3.1, by simp, fun b o hf e => ?_⟩
  have hne : b ≠ rb := fun e2 => hb.2.2.2.2.1 (e2 ▸ hf)
  exact block_set_other (block_set_other (block_set_other e _ _ hne) _ _ hne) _ _ hne
theorem rBk.nrow (h : rBk c mb w1 F j o) (hb : w1.heap[c]? = some (.cells #[.string s, .int .i64 i, .int .i64 q, v, u, .map (some mb)] 69 (0, 0))) : v.ownBlock ≠ some j ∧ u.ownBlock ≠ some j := ⟨fun e => h.2.2.2.1 ⟨_, _, _, _, _, hb, .inl e⟩, fun e => h.2.2.2.1 ⟨_, _, _, _, _, hb, .inr e⟩⟩
theorem rBk.mid (h : rBk c mb w1 F j o) (hx : Below w1.heap.size w1 wx) (hg : wx.grownBy w2 (some mb)) : w2.heap[j]? = some o :=
  (hg.block j (by have := h.2.2.2.2.2; have := hx.size; omega) (fun e => h.2.2.1 (Option.some.inj e))).trans (block_below h.1 hx)
theorem stay_midR (h : rS B c mb s i q D F w1) (hx : Below w1.heap.size w1 wx) (hg : wx.grownBy w2 (some mb)) : StayS F w1 w2 := ⟨by have := hg.size; have := hx.size; omega, fun b o hf e => (hg.block b (by have := lt_of_block e; have := hx.size; omega) (fun e2 => (h.hF b hf).2.2 (Option.some.inj e2))).trans (block_below e hx)⟩
theorem rBk.last (h : rBk c mb w1 F j o) (hj : W'.heap[j]? = some o) (hn : ∀ j, rRow c mb W' j → v.ownBlock = some j ∨ u.ownBlock = some j ∨ w2.heap.size ≤ j) (hv : v.ownBlock ≠ some j ∧ u.ownBlock ≠ some j) (hlt : j < w2.heap.size) : rBk c mb W' F j o := by
  refine ⟨hj, h.2.1, h.2.2.1, fun hr => ?_, h.2.2.2.2.1, lt_of_block hj⟩
  rcases hn j hr with h5 | h5 | h5
  · exact hv.1 h5
  · exact hv.2 h5
  · omega
theorem rOut.join {Y : Nat → Prop} (h : rOut c mb w1 F j) (hY : ¬ Y j) : rOut c mb w1 (fun b => F b ∨ Y b) j := ⟨h.1, h.2.1, h.2.2.1, fun hf => by rcases hf with hf | hf; exact h.2.2.2.1 hf; exact hY hf, h.2.2.2.2⟩
theorem rBk.join {Y : Nat → Prop} (h : rBk c mb w1 F j o) (hY : ¬ Y j) : rBk c mb w1 (fun b => F b ∨ Y b) j o := ⟨h.1, h.2.join hY⟩
theorem has_rK {D : List Nd} (hD : NOk D) {sh : Shp} (hs : ShOk sh) {kb : ByteArray} (hk : kb.data.toList = rK sh) : Maps.has (idxD (rKs D)) (.string kb.data.toList) = decide (sh ∈ D.map (·.1)) := by rw [idxD_has, hk, rKs_mem hD hs]
theorem rK_one2 (n : Nat) : rK ⟨2, [], [n]⟩ = toldL ((2 : Nat) : Int) ++ (⟨#[58]⟩ : ByteArray).data.toList ++ toldL (n : Int) := by
  rw [show toldL ((2 : Nat) : Int) = [50] by decide +kernel]; simp [rK]
theorem rK_one3 (n : Nat) : rK ⟨3, [], [n]⟩ = toldL ((3 : Nat) : Int) ++ (⟨#[58]⟩ : ByteArray).data.toList ++ toldL (n : Int) := by
  rw [show toldL ((3 : Nat) : Int) = [51] by decide +kernel]; simp [rK]
theorem set_alloc (w : World) (o : Obj) {b i : Nat} (x : Value) (h : b < w.heap.size) : (w.alloc o).setCell ⟨b, i, none⟩ x = (w.setCell ⟨b, i, none⟩ x).alloc o := by
  simp only [World.alloc, World.setCell]
  congr 1
  apply Array.ext_getElem?
  intro k
  simp only [Array.getElem?_modify, Array.getElem?_push, Array.size_modify]
  by_cases hk : k = w.heap.size
  · subst hk
    simp; omega
  · simp [hk]
theorem set_alloc2 (w : World) (o o' : Obj) {b i : Nat} (x : Value) (h : b < w.heap.size) : ((w.setCell ⟨b, i, none⟩ x).alloc o).alloc o' = ((w.alloc o).alloc o').setCell ⟨b, i, none⟩ x := by
  rw [set_alloc _ _ _ (by simp; omega), set_alloc _ _ _ h]
theorem info_intR : (Tryd.prog.info? 3).map (fun i => (i.zero, i.size, i.bytes)) = some (some (.int .i64 0), 1, 8) := by kernel_rfl
/-- The cells of a block that is known, as an append's source wants them. -/
theorem newsD {w : World} {b : Nat} {cs : List Value} {t : TypeId} {fr : Nat × Nat} (h : w.heap[b]? = some (.cells cs.toArray t fr)) : ∀ j u, cs[j]? = some u → w.cell? ((⟨b, 0, none⟩ : Addr).add j) = some u := by
  intro j u hu
  have e : ((⟨b, 0, none⟩ : Addr).add j) = ⟨b, j, none⟩ := by
    unfold Addr.add; split
    · rename_i e; rw [e]
    · simp
  rw [e, block_cell h]
  simpa using hu
theorem grown_blockD {r : Option Nat} {b : Nat} {o : Obj} (hg : w.grownBy w' r) (h : w.heap[b]? = some o) (hne : r ≠ some b) : w'.heap[b]? = some o := (hg.block b (lt_of_block h) (fun e => hne e.symm)).trans h
end
/-- One, where the byte at hand is b. -/
def rOneAt (s : ByteArray) (f : Nat) (b : UInt8) : Prop := ∀ (B c mb : Nat) (D : List Nd) (F : Nat → Prop) (i : Nat) (d : Int) (w : World), B ≤ w.heap.size → s.size ≤ 8000 → D.length ≤ i → d = 12 - (f : Int) → rS B c mb s i (-1) D F w → s.data.toList[i]? = some b →
  Calls Tryd.prog 34 #[.pointer (some ⟨c, 0, none⟩), .int .i64 d] w fun e w' => RP (dOne s f D i)
    (fun e0 => ∃ (k : Int) (A : Option Addr) (n q : Nat) (A' : Option Addr) (n' q' : Nat), e = .returned (.tuple #[.agg #[.int .i64 k, .slice A n q, .slice A' n' q'], .int .i64 0]) ∧ ∃ (j : Int) (D' : List Nd) (F' : Nat → Prop), rR B c mb s j e0 D' F F' w w')
    (fun j x => ∃ (F' : Nat → Prop) (k : Int) (A : Option Addr) (n q : Nat) (A' : Option Addr) (n' q' : Nat), e = .returned (.tuple #[.agg #[.int .i64 k, .slice A n q, .slice A' n' q'], .int .i64 x.1]) ∧ TyU w' F' x.2.1 [.int .i64 k, .slice A n q, .slice A' n' q'] ∧ rR B c mb s j (-1) x.2.2 F F' w w')
end Go.Proofs.YtecancnojdifaaaDoor
