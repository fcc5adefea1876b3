/- AsL, AsR, AsW: texts of one's own, in one file. -/
import Derived.Test.YtnkccilgbhogbaaDoorBxN
import Derived.Test.YtnkccilgbhogbaaDoorAsG
import Derived.Test.YtnkccilgbhogbaaDoorAlOpn
/- AlertSent: openers; the plain law. -/
namespace Go.Proofs.YtnkccilgbhogbaaDoor
open Go.RowKit Go.ChangeShapes Go.WideShapes Go.Joins Go.Deep
set_option linter.unusedVariables false
set_option linter.unusedSimpArgs false
def dC (a : Int × Int) : List Value := [.int .i64 a.1, .int .i64 a.2]
section
variable {H : Type} {enc : TypeId × Value → H} {w : World} {b0 : Nat} {v : Value} {d : DataW H} {p : List MemPlace} {r : Reach}
set_option maxRecDepth 100000 in
theorem el_deed (n : Nat) (cs : List Value) (x : DataW H × List MemPlace) (h : DataW.trod enc Tryd.prog w 0 (fun _ => true) true n 52 cs = some x) :
    ∃ a : Int × Int, cs = dC a ∧ (Lit.int .i64 a.1).wf = true ∧ (Lit.int .i64 a.2).wf = true := by
  obtain ⟨ys, m, _, _, hl, hlen, hf⟩ := DataW.trod_array Tryd.underlying52 h
  obtain ⟨c0, c1, rfl⟩ : ∃ c0 c1, cs = [c0, c1] := by
    have : cs.length = 2 := hl.trans (by kernel_rfl)
    match cs, this with
    | [c0, c1], _ => exact ⟨c0, c1, rfl⟩
  match ys, hlen with
  | [y0, y1], _ =>
    have h0 := hf 0 (by decide)
    have h1 := hf 1 (by decide)
    simp [k_int] at h0 h1
    obtain ⟨a, e0, _, w0⟩ := DataW.trod_int Tryd.underlying3 h0
    obtain ⟨b, e1, _, w1⟩ := DataW.trod_int Tryd.underlying3 h1
    simp at e0 e1
    exact ⟨(a, b), by simp [e0, e1, dC], w0, w1⟩
set_option maxRecDepth 100000 in
theorem el_ntR (n : Nat) (cs : List Value) (x : DataW H × List MemPlace)
    (h : DataW.trod enc Tryd.prog w 0 (fun _ => true) true n 51 cs = some x) : ∃ a : Nt, cs = a.cs ∧ a.rule.size ≤ maxLen := by
  obtain ⟨ys, m, _, rfl, hl, hlen, hf⟩ := DataW.trod_struct Tryd.underlying51 h
  obtain ⟨c0, c1, c2, c3, rfl⟩ : ∃ c0 c1 c2 c3, cs = [c0, c1, c2, c3] := by
    have : cs.length = 4 := hl.trans (by kernel_rfl)
    match cs, this with
    | [c0, c1, c2, c3], _ => exact ⟨c0, c1, c2, c3, rfl⟩
  match ys, hlen with
  | [y0, y1, y2, y3], _ =>
    have h0 := hf 0 _ rfl
    have h1 := hf 1 _ rfl
    have h2 := hf 2 _ rfl
    have h3 := hf 3 _ rfl
    simp [k_int, k_string] at h0 h1 h2 h3
    obtain ⟨a, e0, _, _⟩ := DataW.trod_int Tryd.underlying3 h0
    obtain ⟨b, e1, x1, s1⟩ := DataW.trod_string Tryd.underlying9 h1
    obtain ⟨c, e2, _, _⟩ := DataW.trod_int Tryd.underlying3 h2
    obtain ⟨d, e3, _, wf⟩ := DataW.trod_int Tryd.underlying3 h3
    simp at e0 e1 e2 e3
    exact ⟨⟨a, b, c, d⟩, by simp [e0, e1, e2, e3, Nt.cs], s1⟩
set_option maxRecDepth 100000 in
theorem open_deeds (hv : Value.okWide Tryd.prog w r b0 48 v) (h : DataW.Trod enc Tryd.prog w 0 (fun _ => true) true 48 v d p) :
    ∃ (A : Option Addr) (n cap : Nat) (l : List (Int × Int)), v = .slice A n cap ∧ Sl w w.heap.size dC 2 A n l ∧ n ≤ cap ∧ cap ≤ maxLen ∧ ∀ a ∈ l, (Lit.int .i64 a.1).wf = true ∧ (Lit.int .i64 a.2).wf = true :=
  open_sl dC (fun a => (Lit.int .i64 a.1).wf = true ∧ (Lit.int .i64 a.2).wf = true) Tryd.underlying48 (by kernel_rfl) (by decide) (fun _ => rfl) (fun n cs x hx => el_deed n cs x hx) hv h
set_option maxRecDepth 100000 in
theorem open_ntsR (hv : Value.okWide Tryd.prog w r b0 32 v) (h : DataW.Trod enc Tryd.prog w 0 (fun _ => true) true 32 v d p) :
    ∃ (A : Option Addr) (n cap : Nat) (l : List Nt), v = .slice A n cap ∧ Sl w w.heap.size Nt.cs 4 A n l ∧ n ≤ cap ∧ cap ≤ maxLen ∧ ∀ a ∈ l, a.rule.size ≤ maxLen :=
  open_sl Nt.cs (fun a => a.rule.size ≤ maxLen) Tryd.underlying32 (by kernel_rfl) (by decide) (fun _ => rfl) (fun n cs x hx => el_ntR n cs x hx) hv h
end
theorem le_sum1 {α : Type} (f : α → Nat) : ∀ l : List α, (∀ x ∈ l, 1 ≤ f x) → l.length ≤ (l.map f).sum
  | [], _ => by simp
  | x :: l, h => by
    have h1 := h x (by simp)
    have h2 := le_sum1 f l fun y hy => h y (by simp [hy])
    simp only [List.map_cons, List.sum_cons, List.length_cons]
    omega
theorem sm_len {P : Pln} {s : Bx} {n d : Nat} (hb : BxOk P s) (h : SmOk s n d) : s.ps.length ≤ n ∧ s.lo.length ≤ n ∧ d ≤ n := by
  have h1 := all_sum h
  have h2 := le_sum1 lnF s.ps fun p hp => (hb.ps.len p hp).1
  have h3 := le_sum1 (lenAt s.ps) s.lo fun k hk => by
    obtain ⟨p, e, _, _⟩ := hb.lo k hk
    unfold lenAt
    rw [e]
    exact (hb.ps.len p (List.mem_of_getElem? e)).1
  rw [h.ls] at h3
  have h4 : (s.ps.map lnF).sum = n := h.tot
  refine ⟨by omega, by omega, by omega⟩
theorem lenAt_setNo {ps : List Pst} {no : Int} {q q1 : Pst} (h : atNo ps no = some q) (e : q1.nts = q.nts) (k : Nat) : lenAt (setNo ps no q1) k = lenAt ps k := by
  obtain ⟨_, h2, _⟩ := atNo_some h
  exact lenAt_set h2 (by rw [e])
theorem lenAt_don (s : Bx) (no : Int) (k : Nat) : lenAt (donS s no).ps k = lenAt s.ps k := by
  unfold donS
  cases h : atNo s.ps no with
  | none => rfl
  | some q =>
    simp only
    split
    · rfl
    · (refine lenAt_setNo h ?_ k; rfl)
theorem lenAt_fai (P : Pln) (s : Bx) (no t : Int) (k : Nat) : lenAt (faiS P s no t).ps k = lenAt s.ps k := by
  unfold faiS
  cases h : atNo s.ps no with
  | none => rfl
  | some q =>
    simp only
    split
    · rfl
    · split
      · (refine lenAt_setNo h ?_ k; rfl)
      · (refine lenAt_setNo h ?_ k; rfl)
/-- What an open post is. -/
theorem po_at {s : Bx} {f : Pst → Bool} {es : List Po} (he : es.map Po.of = poL (selP f s.ps)) {j : Nat} {e : Po} (h : es[j]? = some e) : ∃ k : Nat, e.no = (k : Int) + 1 ∧ k < s.ps.length ∧ e.nts.length = lenAt s.ps k := by
  have h1 : (es.map Po.of)[j]? = some (Po.of e) := by rw [List.getElem?_map, h]; rfl
  rw [he] at h1
  unfold poL at h1
  rw [List.getElem?_map] at h1
  obtain ⟨⟨k, q⟩, h2, h3⟩ := Option.map_eq_some_iff.1 h1
  obtain ⟨h4, _⟩ := sel_mem (List.mem_of_getElem? h2)
  unfold Po.of at h3
  simp only [Prod.mk.injEq] at h3
  refine ⟨k, h3.1.symm, (List.getElem?_eq_some_iff.1 h4).1, ?_⟩
  unfold lenAt
  rw [h4, ← h3.2.1]
/-- What the last loop reads. -/
structure LastOk (P : Pln) (n d : Nat) (es : List Po) : Prop where
  one : ∀ e ∈ es, 1 ≤ e.n ∧ e.n ≤ P.mo ∧ e.tr ≤ P.tr
  sum : d + (es.map Po.n).sum = n
theorem last_ok {P : Pln} {s : Bx} {n d : Nat} {w1 w2 : World} {B1 B2 : Nat} {v1 v2 : Value} {es1 es2 : List Po} (hb : BxOk P s) (h : SmOk s n d) (p1 : PoIn B1 w1 v1 es1) (p2 : PoIn B2 w2 v2 es2) (e1 : es1.map Po.of = poL (selP Pst.op s.ps)) (e2 : es2.map Po.of = poL (lostL s)) : LastOk P n d (es1 ++ es2) := by
  have hn : ∀ e ∈ es1 ++ es2, e.n = e.nts.length := fun e he => by
    rcases List.mem_append.1 he with he | he
    · exact (p1.sub e he).1
    · exact (p2.sub e he).1
  have mem : ∀ e ∈ es1 ++ es2, ∃ x : Nat × Pst, (x ∈ openL s ∨ x ∈ lostL s) ∧ e.nts = x.2.nts ∧ e.tr = x.2.tr := fun e he => by
    rcases List.mem_append.1 he with he | he
    · have h1 : Po.of e ∈ es1.map Po.of := List.mem_map_of_mem he
      rw [e1] at h1
      obtain ⟨x, hx, h2⟩ := List.mem_map.1 h1
      unfold Po.of at h2
      simp only [Prod.mk.injEq] at h2
      exact ⟨x, .inl hx, h2.2.1.symm, h2.2.2.1.symm⟩
    · have h1 : Po.of e ∈ es2.map Po.of := List.mem_map_of_mem he
      rw [e2] at h1
      obtain ⟨x, hx, h2⟩ := List.mem_map.1 h1
      unfold Po.of at h2
      simp only [Prod.mk.injEq] at h2
      exact ⟨x, .inr hx, h2.2.1.symm, h2.2.2.1.symm⟩
  refine ⟨fun e he => ?_, ?_⟩
  · obtain ⟨x, hx, a, b⟩ := mem e he
    have hh : (1 ≤ x.2.nts.length ∧ x.2.nts.length ≤ P.mo) ∧ x.2.tr ≤ P.tr := by
      rcases hx with hx | hx
      · exact open_len hb x hx
      · exact lost_len hb x hx
    rw [hn e he, a, b]
    exact ⟨hh.1.1, hh.1.2, hh.2⟩
  · have hs : ∀ (es : List Po) (L : List (Nat × Pst)), es.map Po.of = poL L → (∀ e ∈ es, e.n = e.nts.length) → (es.map Po.n).sum = (L.map fun x => x.2.nts.length).sum := fun es L e hh => by
      have : es.map Po.n = L.map fun x => x.2.nts.length := by
        have h1 : es.map Po.n = (es.map Po.of).map fun (t : PT) => t.2.1.length := by
          rw [List.map_map]
          exact List.map_congr_left fun x hx => by rw [hh x hx]; rfl
        rw [h1, e]
        unfold poL
        rw [List.map_map]
        rfl
      rw [this]
    have h1 := hs es1 (openL s) e1 fun e he => hn e (List.mem_append.2 (.inl he))
    have h2 := hs es2 (lostL s) e2 fun e he => hn e (List.mem_append.2 (.inr he))
    have h3 := box_sum hb h
    rw [List.map_append, List.sum_append, h1, h2]
    omega
theorem LastOk.at_ {P : Pln} {n d : Nat} {es : List Po} (h : LastOk P n d es) {j : Nat} {e : Po} (he : es[j]? = some e) : d + ((es.take (j + 1)).map Po.n).sum = d + ((es.take j).map Po.n).sum + e.n := by
  rw [take_succ_get he, List.map_append, List.sum_append]
  simp
  omega
theorem LastOk.le {P : Pln} {n d : Nat} {es : List Po} (h : LastOk P n d es) (j : Nat) : d + ((es.take j).map Po.n).sum ≤ n := by
  have e : (es.map Po.n).sum = ((es.take j).map Po.n).sum + ((es.drop j).map Po.n).sum := by
    rw [← List.sum_append, ← List.map_append, List.take_append_drop]
  have := h.sum
  omega
end Go.Proofs.YtnkccilgbhogbaaDoor

/- AlertSent: what holds from round to round. -/
namespace Go.Proofs.YtnkccilgbhogbaaDoor
open Go.RowKit
set_option linter.unusedVariables false
set_option linter.unusedSimpArgs false
theorem blk_b {B b : Nat} {o : Obj} {w w' : World} (h : w.heap[b]? = some o) (hb : b < B) (k : Below B w w') : w'.heap[b]? = some o := (k.block b hb).trans h
theorem BX.bd {B p N : Nat} {P : Pln} {s : Bx} {F : Nat → Prop} {w : World} (h : BX B P p s N F w) : B ≤ w.heap.size ∧ ∀ k, F k → B ≤ k ∧ k < w.heap.size := by
  obtain ⟨h0, mb, mn, D, is, gk, gv, lv, h1, h2, h3, h4⟩ := h
  have hp := h1.lp
  have := lt_of_block h1.box
  exact ⟨by omega, h4⟩
structure SR (B : Nat) (P : Pln) (p : Nat) (put dn N : Nat) (s : Bx) (F : Nat → Prop) (w2 w : World) : Prop where
  sm : SmOk s put dn
  bx : BX B P p s N F w
  be : Below B w2 w
structure IR (B : Nat) (P : Pln) (p : Nat) (put dn : Nat) (s : Bx) (F : Nat → Prop) (w2 w3 : World) (s0 : Bx) (F0 : Nat → Prop) (w : World) : Prop where
  sr : SR B P p put dn 60 s F w2 w
  kp : Keep B F0 w3 w
  fr : ∀ k, F k → F0 k ∨ w3.heap.size ≤ k
  ln : ∀ k, lenAt s.ps k = lenAt s0.ps k
section
variable {B p put put' dn dn' N N' : Nat} {P : Pln} {s s' s0 : Bx} {F F0 : Nat → Prop} {w2 w3 w wa w5 : World}
theorem SR.still (h : SR B P p put dn N s F w2 w) (hb : Below w.heap.size w wa) : SR B P p put dn N s F w2 wa := ⟨h.sm, h.bx.below hb, h.be.trans (hb.mono h.bx.bd.1)⟩
theorem SR.more (h : SR B P p put dn N s F w2 w) (hn : N ≤ N') : SR B P p put dn N' s F w2 w := ⟨h.sm, h.bx.more hn, h.be⟩
theorem SR.tx (h : SR B P p put dn N s F w2 w) (hb : Below w.heap.size w wa) (ht : TX B P p s' N' F wa w5) (hsm : SmOk s' put' dn') : ∃ F', SR B P p put' dn' N' s' F' w2 w5 := by
  obtain ⟨hk, F', hx, _⟩ := ht
  exact ⟨F', hsm, hx, (h.still hb).be.trans hk.be⟩
theorem IR.start (h : SR B P p put dn 60 s F w2 w) : IR B P p put dn s F w2 w s F w := ⟨h, Keep.refl _ _ _, fun k hk => .inl hk, fun _ => rfl⟩
theorem IR.still (h : IR B P p put dn s F w2 w3 s0 F0 w) (hb : Below w.heap.size w wa) : IR B P p put dn s F w2 w3 s0 F0 wa :=
  ⟨h.sr.still hb, ⟨h.kp.be.trans (hb.mono h.sr.bx.bd.1), fun k o e ne => block_below (h.kp.keep k o e ne) hb⟩, h.fr, h.ln⟩
theorem IR.step (h : IR B P p put dn s F w2 w3 s0 F0 wa) (ht : TX B P p s' 60 F wa w5) (hsm : SmOk s' put dn') (hln : ∀ k, lenAt s'.ps k = lenAt s.ps k) : ∃ F', IR B P p put dn' s' F' w2 w3 s0 F0 w5 := by
  obtain ⟨hk, F', hx, hF⟩ := ht
  have hz := h.kp.be.size
  refine ⟨F', ⟨hsm, hx, h.sr.be.trans hk.be⟩, ⟨h.kp.be.trans hk.be, fun k o e ne => hk.keep k o (h.kp.keep k o e ne) fun hf => ?_⟩, fun k hf => ?_, fun k => (hln k).trans (h.ln k)⟩
  · rcases h.fr k hf with h1 | h1
    · exact ne h1
    · have := lt_of_block e; omega
  · rcases hF k hf with h1 | h1
    · exact h.fr k h1
    · exact .inr (by omega)
end
end Go.Proofs.YtnkccilgbhogbaaDoor

/- Walk of AlertSent. -/
namespace Go.Proofs.YtnkccilgbhogbaaDoor
open Go.RowKit
set_option linter.unusedVariables false
set_option linter.unusedSimpArgs false
theorem sl_of_block {w : World} {b : Nat} {cs : Array Value} {ty : TypeId} {fr : Nat × Nat} (h : w.heap[b]? = some (.cells cs ty fr)) (x : Nt) (e : cs.toList = x.cs) : Sl w w.heap.size Nt.cs 4 (some ⟨b, 0, none⟩) 1 [x] := by
  refine ⟨rfl, fun _ => ⟨b, 0, rfl, lt_of_block h, fun i a ha j u hu => ?_⟩⟩
  match i, ha with
  | 0, ha =>
    simp only [List.getElem?_cons_zero, Option.some.injEq] at ha
    subst ha
    simp only [Nat.zero_mul, Nat.zero_add]
    rw [block_cell h j, ← Array.getElem?_toList, e]
    exact hu
set_option maxRecDepth 100000 in
set_option maxHeartbeats 16000000 in
theorem AlertSent_any (mo wa ag tr : Int) (A0 : Option Addr) (n0 c0 : Nat) (l : List Nt) (A2 : Option Addr) (n2 c2 : Nat) (ds : List (Int × Int)) (w : World) (htab : Lib.TabIs Tryd.prog w "internal/strconv.uint64pow10" .u64 Lib.pow10Tab)
    (hn0 : n0 ≤ maxLen) (hn2 : n2 ≤ maxLen) (hc0 : n0 ≤ c0) (hc2 : n2 ≤ c2) (hl : Sl w w.heap.size Nt.cs 4 A0 n0 l) (hf : ∀ x ∈ l, x.rule.size ≤ maxLen) (hd : Sl w w.heap.size dC 2 A2 n2 ds) (hdw : ∀ a ∈ ds, (Lit.int .i64 a.1).wf = true ∧ (Lit.int .i64 a.2).wf = true) :
    Calls Tryd.prog 4 #[.agg #[.int .i64 mo, .int .i64 wa, .int .i64 ag, .int .i64 tr], .slice A0 n0 c0, .slice A2 n2 c2] w fun e w' => e = .returned (.bool true) ∧ Below w.heap.size w w' := by
  unfold maxLen at hn0 hn2
  have HB0 := hide (show Below w.heap.size w (w.alloc (.cells #[.int .i64 mo, .int .i64 wa, .int .i64 ag, .int .i64 tr] 23)) from (Below.refl _ _).alloc (Nat.le_refl _) _)
  have HM0 := hide (heap_alloc_new w (.cells #[.int .i64 mo, .int .i64 wa, .int .i64 ag, .int .i64 tr] 23))
  have CA := hide (fun W (hb : Below w.heap.size w W) => awakeAlert_any W (tab_below htab hb))
  have CN := hide (fun W => NewBox_any mo wa ag tr W)
  have HL := hide hl
  have HF := hide hf
  have HD := hide hd
  have HDW := hide hdw
  obtain ⟨k0, hk0⟩ : ∃ kk : Nat, min n0 60 = kk := ⟨_, rfl⟩
  have hk06 : k0 ≤ 60 := by omega
  have hk0n : k0 ≤ n0 := by omega
  obtain ⟨k2, hk2⟩ : ∃ kk : Nat, min n2 60 = kk := ⟨_, rfl⟩
  have hk26 : k2 ≤ 60 := by omega
  have hk2n : k2 ≤ n2 := by omega
  clear hl hf hd hdw htab
  by_cases he : planErr mo wa ag tr = 0
  · obtain ⟨hP, hmo⟩ := plan_ok he
    have HP := hide hP
    have HMO := hide hmo
    rw [he] at CN
    have CN2 := hide (fun W => (CN.out W).mono fun e W' h => show Below W.heap.size W W' ∧ ∃ p F, e = .returned (.tuple #[.pointer (some ⟨p, 0, none⟩), .int .i64 0]) ∧ BX W.heap.size (planP mo wa ag tr) p emptyX 0 F W' from ⟨h.1, by
      rcases h.2 with ⟨h1, _⟩ | ⟨_, h1⟩
      · exact absurd rfl h1
      · exact h1⟩)
    obtain ⟨Q, hQ⟩ : ∃ Q, planP mo wa ag tr = Q := ⟨_, rfl⟩
    have HMO2 := hide (show (Q.mo : Int) = mo ∧ Q.tr = tr from by rw [← hQ]; exact ⟨HMO.out, rfl⟩)
    rw [hQ] at CN2 HP
    clear he hP hmo CN HMO hQ
    go_enter Tryd.func4, Tryd.ntmps4
    go_wp2_with (first | (go_at_call 22; refine (CA.out _ HB0.out).mono ?_; rintro e w1 ⟨rfl, hw1⟩; have HB1 := hide (HB0.out.trans (hw1.mono HB0.out.size)); have hm1 := block_below HM0.out hw1; have HM1 := hide hm1; have y0 : w1.cell? ⟨w.heap.size, 0, none⟩ = some (.int .i64 mo) := (block_cell hm1 0).trans rfl; have y1 : w1.cell? ⟨w.heap.size, 1, none⟩ = some (.int .i64 wa) := (block_cell hm1 1).trans rfl; have y2 : w1.cell? ⟨w.heap.size, 2, none⟩ = some (.int .i64 ag) := (block_cell hm1 2).trans rfl; have y3 : w1.cell? ⟨w.heap.size, 3, none⟩ = some (.int .i64 tr) := (block_cell hm1 3).trans rfl; clear hw1 hm1 CA) | (go_at_call 5; refine (CN2.out _).mono ?_; rintro e w2 ⟨hw2, p, F, rfl, hbx⟩; have HB2 := hide (HB1.out.trans (hw2.mono HB1.out.size)); have HM2 := hide (block_below HM1.out hw2); have HBX := hide hbx; have hmB := lt_of_block HM1.out; have hzB := HB1.out.size; clear hw2 hbx CN2 y0 y1 y2 y3))
    obtain ⟨B, hB⟩ : ∃ B, w1.heap.size = B := ⟨_, rfl⟩
    rw [hB] at HBX hmB hzB
    have HS0 := hide (show SR B Q p 0 0 0 emptyX F w2 w2 from ⟨SmOk.empty, HBX.out, Below.refl _ _⟩)
    clear hB HB1 HM1 HBX HB0 HM0
    go_loopw [9, 37] (fun v9 v37 wr => ∃ (put k : Nat) (s : Bx) (F : Nat → Prop), v9 = .int .i64 put ∧ v37 = .int .i64 k ∧ k ≤ k0 ∧ put ≤ k ∧ SR B Q p put 0 k s F w2 wr) (fun _ v37 _ => k0 - (intOf v37).toNat)
    case atStart => exact ⟨0, 0, emptyX, F, rfl, rfl, Nat.zero_le _, Nat.le_refl _, HS0.out⟩
    case round =>
      obtain ⟨put, k, s, F1, rfl, rfl, hk, hpk, hsr⟩ := hrel
      have HSR := hide hsr
      have HBR := hide (HB2.out.trans (hsr.be.mono hzB))
      have hbd := hsr.bx.bd
      have hsl := sm_len hsr.bx.1 hsr.sm
      by_cases hlt : k < k0
      · obtain ⟨bb, oo, x, rfl, hbb, hx, hc⟩ := (HL.out.below HBR.out).at_ (show k < n0 by omega)
        have z0 : wr.cell? ⟨bb, oo + k * 4, none⟩ = some (.int .i64 x.at_) := by have := hc 0 _ rfl; simpa using this
        have z1 : wr.cell? ⟨bb, oo + k * 4 + 1, none⟩ = some (.string x.rule) := hc 1 _ rfl
        have z2 : wr.cell? ⟨bb, oo + k * 4 + 2, none⟩ = some (.int .i64 x.kind) := hc 2 _ rfl
        have z3 : wr.cell? ⟨bb, oo + k * 4 + 3, none⟩ = some (.int .i64 x.value) := hc 3 _ rfl
        obtain ⟨wa1, hwa1⟩ : ∃ W, wr.alloc (.cells #[.int .i64 x.at_, .string x.rule, .int .i64 x.kind, .int .i64 x.value] 51) = W := ⟨_, rfl⟩
        obtain ⟨wb, hwb⟩ : ∃ W, wa1.alloc (.cells #[.int .i64 x.at_, .string x.rule, .int .i64 x.kind, .int .i64 x.value] 51) = W := ⟨_, rfl⟩
        have hz1 : wa1.heap.size = wr.heap.size + 1 := by rw [← hwa1]; simp
        have hba : Below wr.heap.size wr wb := by rw [← hwb, ← hwa1]; exact ((Below.refl _ _).alloc (Nat.le_refl _) _).alloc (by simp) _
        have hmb : wb.heap[wr.heap.size + 1]? = some (.cells #[.int .i64 x.at_, .string x.rule, .int .i64 x.kind, .int .i64 x.value] 51 (0, 0)) := by rw [← hwb, ← hz1]; exact heap_alloc_new _ _
        have CP := hide (Put_any HP.out (hsr.bx.below hba) (A := some ⟨wr.heap.size + 1, 0, none⟩) (n := 1) (c := 1) (l := [x]) (sl_of_block hmb x rfl) (fun _ b o e hfb => by cases e; have := (hbd.2 _ hfb).2; omega) (by omega) (fun y hy => by obtain rfl := List.mem_singleton.1 hy; exact HF.out y (List.mem_of_getElem? hx)) (by omega) (by omega))
        have HSM := hide (SmOk.put HP.out hsr.bx.1 hsr.sm [x])
        have HBA := hide hba
        have HWA := hide (show (wr.alloc (.cells #[.int .i64 x.at_, .string x.rule, .int .i64 x.kind, .int .i64 x.value] 51)).alloc (.cells #[.int .i64 x.at_, .string x.rule, .int .i64 x.kind, .int .i64 x.value] 51) = wb by rw [hwa1, hwb])
        clear hsr hc hx hwa1 hwb hba hmb hbd hsl
        by_cases hpe : putE Q.mo s [x] = 0
        · rw [hpe] at CP
          rw [if_pos hpe] at HSM
          clear hpe
          go_wp2_with (fail)
          rw [HWA.out]
          refine CP.out.mono ?_
          rintro e w5 ⟨rfl, htx⟩
          obtain ⟨F5, hsr5⟩ := SR.tx HSR.out HBA.out htx (put' := put + 1) (dn' := 0) HSM.out
          have HSR5 := hide hsr5
          clear htx hsr5 CP
          go_wp2_with (fail)
          go_roundw
          case rel => exact ⟨put + 1, k + 1, putS Q.mo s [x], F5, by go_num, by go_num, by omega, by omega, HSR5.out⟩
          case measure => simp [intOf]; omega
        · rw [if_neg hpe] at HSM
          obtain ⟨q, hq⟩ : ∃ q, putE Q.mo s [x] = q := ⟨_, rfl⟩
          rw [hq] at CP hpe
          have hq2 : (q == 0) = false := by simpa using hpe
          clear hq
          go_wp2_with (fail)
          rw [HWA.out]
          refine CP.out.mono ?_
          rintro e w5 ⟨rfl, htx⟩
          obtain ⟨F5, hsr5⟩ := SR.tx HSR.out HBA.out htx (put' := put) (dn' := 0) HSM.out
          have HSR5 := hide hsr5
          clear htx hsr5 CP
          go_wp2_with (fail)
          go_roundw
          case rel => exact ⟨put, k + 1, putS Q.mo s [x], F5, by go_num, by go_num, by omega, by omega, HSR5.out⟩
          case measure => simp [intOf]; omega
      · have HS2 := hide (hsr.more (N' := 60) (by omega))
        have hput : put ≤ 60 := by omega
        clear hsr HSR HBR HS0 hpk hbd hsl
        go_wp2_with (fail)
        go_loopw [10, 55] (fun v10 v55 wr => ∃ (dn k : Nat) (s : Bx) (F : Nat → Prop), v10 = .int .i64 dn ∧ v55 = .int .i64 k ∧ k ≤ k2 ∧ SR B Q p put dn 60 s F w2 wr) (fun _ v55 _ => k2 - (intOf v55).toNat)
        case atStart => exact ⟨0, 0, s, F1, rfl, rfl, Nat.zero_le _, HS2.out⟩
        case round =>
          obtain ⟨dn, k9, s0, F0, rfl, rfl, hk9, hsr⟩ := hrel
          have HSR := hide hsr
          have HBR := hide (HB2.out.trans (hsr.be.mono hzB))
          have hbd := hsr.bx.bd
          have hsl := sm_len hsr.bx.1 hsr.sm
          have hs60 : s0.ps.length ≤ 60 := by omega
          by_cases hlt9 : k9 < k2
          · obtain ⟨bb, oo, d, rfl, hbb, hx, hc⟩ := (HD.out.below HBR.out).at_ (show k9 < n2 by omega)
            have z0 : wr.cell? ⟨bb, oo + k9 * 2, none⟩ = some (.int .i64 d.1) := by have := hc 0 _ rfl; simpa using this
            have z1 : wr.cell? ⟨bb, oo + k9 * 2 + 1, none⟩ = some (.int .i64 d.2) := hc 1 _ rfl
            have HDW1 := hide (HDW.out d (List.mem_of_getElem? hx))
            obtain ⟨wd, hwd⟩ : ∃ W, wr.alloc (.cells #[.int .i64 d.1, .int .i64 d.2] 52) = W := ⟨_, rfl⟩
            have hbd0 : Below wr.heap.size wr wd := by rw [← hwd]; exact (Below.refl _ _).alloc (Nat.le_refl _) _
            have hmd : wd.heap[wr.heap.size]? = some (.cells #[.int .i64 d.1, .int .i64 d.2] 52 (0, 0)) := by rw [← hwd]; exact heap_alloc_new _ _
            have hzd : wd.heap.size = wr.heap.size + 1 := by rw [← hwd]; simp
            have hsd := hsr.still hbd0
            have CO := hide (Open_any HP.out hsd.bx)
            have HWD := hide hwd
            have HSD := hide hsd
            have HMD := hide hmd
            have HF0 := hide (show ∀ k, F0 k → k < wr.heap.size from fun k hf => (hbd.2 k hf).2)
            obtain ⟨zd, hzd2⟩ : ∃ z, wr.heap.size = z := ⟨_, rfl⟩
            rw [hzd2] at HMD HF0 hzd
            have HZD := hide hzd2
            clear hsr hc hx hwd hbd0 hmd hsd hbd hsl hzd2
            go_wp2_with (fail)
            rw [HWD.out]
            refine CO.out.mono ?_
            rintro e w3 ⟨v3, es, rfl, hb3, hpo, heq⟩
            have HSR3 := hide (HSD.out.still hb3)
            have HM3 := hide (block_below HMD.out hb3)
            have HPO := hide hpo
            have HEQ := hide heq
            have hz3 := hb3.size
            obtain ⟨VA, VC, rfl⟩ := own_sl hpo.row
            have hes60 : es.length ≤ 60 := by
              have h9 : es.length = (selP Pst.op s0.ps).length := by
                have h := congrArg List.length heq
                unfold poL at h
                rw [List.length_map, List.length_map] at h
                exact h
              rw [sel_len] at h9
              have := List.countP_le_length (p := Pst.op) (l := s0.ps)
              omega
            clear hpo heq hb3 CO
            go_wp2_with (fail)
            have HIR0 := hide (IR.start HSR3.out)
            have HNF := hide (show ¬ F0 zd from fun h => by have := HF0.out _ h; omega)
            have hzd3 : wd.heap.size = zd + 1 := hzd
            rw [HZD.out]
            clear HSR HBR HSD HSR3 HMD HWD z0 z1 HZD
            go_loopw [10, 62] (fun v10 v62 wi => ∃ (dn1 j : Nat) (s : Bx) (F : Nat → Prop), v10 = .int .i64 dn1 ∧ v62 = .int .i64 j ∧ j ≤ es.length ∧ IR B Q p put dn1 s F w2 w3 s0 F0 wi) (fun _ v62 _ => es.length - (intOf v62).toNat)
            case atStart => exact ⟨dn, 0, s0, F0, rfl, rfl, Nat.zero_le _, HIR0.out⟩
            case round =>
              obtain ⟨dn1, j, s, F, rfl, rfl, hj, hir⟩ := hrel
              have HIR := hide hir
              have hbd := hir.sr.bx.bd
              have hsl := sm_len hir.sr.bx.1 hir.sr.sm
              have hmi := hir.kp.keep _ _ HM3.out HNF.out
              have hzi := lt_of_block hmi
              by_cases hltj : j < es.length
              · have hpi := HPO.out.keep (w' := wr) fun k o hk e => hir.kp.keep k o e fun hf => by have := HF0.out _ hf; omega
                obtain ⟨A', c', e9, hslE, _, _⟩ := sl_of_own (f := Po.cs) (l := es) (fun _ => rfl) rfl hpi.row
                cases e9
                obtain ⟨vb, vo, e, hA, hvb, hx, hc⟩ := hslE.at_ hltj
                subst hA
                obtain ⟨kq, hkq1, hkq2, hkq3⟩ := po_at HEQ.out hx
                have hen := (hpi.sub e (List.mem_of_getElem? hx)).1
                obtain ⟨eno, eA, en, ec, etr, enx, ents⟩ := e
                simp only at hkq1 hkq3 hen
                have z0 : wr.cell? ⟨vb, vo + j * 4, none⟩ = some (.int .i64 eno) := by have := hc 0 _ rfl; simpa using this
                have z1 : wr.cell? ⟨vb, vo + j * 4 + 1, none⟩ = some (.slice eA en ec) := hc 1 _ rfl
                have z2 : wr.cell? ⟨vb, vo + j * 4 + 2, none⟩ = some (.int .i64 etr) := hc 2 _ rfl
                have z3 : wr.cell? ⟨vb, vo + j * 4 + 3, none⟩ = some (.int .i64 enx) := hc 3 _ rfl
                have hbx : Below wr.heap.size wr (wr.alloc (.cells #[.int .i64 eno, .slice eA en ec, .int .i64 etr, .int .i64 enx] 41)) := (Below.refl _ _).alloc (Nat.le_refl _) _
                have hmx := heap_alloc_new wr (.cells #[.int .i64 eno, .slice eA en ec, .int .i64 etr, .int .i64 enx] 41)
                have x0 : wr.cell? ⟨zd, 0, none⟩ = some (.int .i64 d.1) := (block_cell hmi 0).trans rfl
                have x1 : wr.cell? ⟨zd, 1, none⟩ = some (.int .i64 d.2) := (block_cell hmi 1).trans rfl
                have hirx := hir.still hbx
                have HLN := hide (show lenAt s.ps (eno - 1).toNat = en by rw [show (eno - 1).toNat = kq by omega, hir.ln kq, ← hkq3, hen])
                have HNX := hide (show ¬ F wr.heap.size from fun h => by have := (hbd.2 _ h).2; omega)
                have hwn : (Lit.int .i64 eno).wf = true := wf_small (by omega)
                have CD := hide (Done_any HP.out hirx.sr.bx hwn)
                have CF := hide (Failed_any HP.out hirx.sr.bx eno d.2 hwn (by omega))
                have HSMD := hide (SmOk.done hir.sr.bx.1 hir.sr.sm eno)
                have HSMF := hide (SmOk.fail hir.sr.bx.1 hir.sr.sm eno d.2)
                have HIRX := hide hirx
                have HMX := hide hmx
                have HKQ := hide hkq1
                clear hir hpi hslE hc hx hbx hmx hirx hbd hmi hkq1 hkq3 hen
                by_cases hno : eno = d.1
                · subst hno
                  by_cases hdn : d.2 < 0
                  · have hdn2 : decide (0 ≤ d.2) = false := by simp; omega
                    clear CF HSMF
                    by_cases hfi : finE s.ps d.1 = 0
                    · rw [hfi] at CD
                      rw [if_pos hfi, HLN.out] at HSMD
                      clear hfi
                      go_wp2_with (fail)
                      refine CD.out.mono ?_
                      rintro e w5 ⟨rfl, htx⟩
                      have hm5 := htx.1.keep _ _ HMX.out HNX.out
                      have y1 : w5.cell? ⟨wr.heap.size, 1, none⟩ = some (.slice eA en ec) := (block_cell hm5 1).trans rfl
                      obtain ⟨F5, hir5⟩ := IR.step HIRX.out htx HSMD.out (lenAt_don s d.1)
                      have hm6 := hir5.kp.keep _ _ HM3.out HNF.out
                      have v0 : w5.cell? ⟨zd, 0, none⟩ = some (.int .i64 d.1) := (block_cell hm6 0).trans rfl
                      have v1 : w5.cell? ⟨zd, 1, none⟩ = some (.int .i64 d.2) := (block_cell hm6 1).trans rfl
                      have HIR5 := hide hir5
                      have hdn5 := (sm_len hir5.sr.bx.1 hir5.sr.sm).2.2
                      clear htx hir5 hm5 hm6 CD x0 x1 z0 z1 z2 z3
                      go_wp2_with (fail)
                      go_roundw
                      case rel => exact ⟨dn1 + en, j + 1, donS s d.1, F5, by go_num, by go_num, by omega, HIR5.out⟩
                      case measure => simp [intOf]; omega
                    · rw [if_neg hfi] at HSMD
                      obtain ⟨q, hq⟩ : ∃ q, finE s.ps d.1 = q := ⟨_, rfl⟩
                      rw [hq] at CD hfi
                      have hq2 : (q == 0) = false := by simpa using hfi
                      clear hq
                      go_wp2_with (fail)
                      refine CD.out.mono ?_
                      rintro e w5 ⟨rfl, htx⟩
                      obtain ⟨F5, hir5⟩ := IR.step HIRX.out htx HSMD.out (lenAt_don s d.1)
                      have hm6 := hir5.kp.keep _ _ HM3.out HNF.out
                      have v0 : w5.cell? ⟨zd, 0, none⟩ = some (.int .i64 d.1) := (block_cell hm6 0).trans rfl
                      have v1 : w5.cell? ⟨zd, 1, none⟩ = some (.int .i64 d.2) := (block_cell hm6 1).trans rfl
                      have HIR5 := hide hir5
                      clear htx hir5 hm6 CD x0 x1 z0 z1 z2 z3
                      go_wp2_with (fail)
                      go_roundw
                      case rel => exact ⟨dn1, j + 1, donS s d.1, F5, by go_num, by go_num, by omega, HIR5.out⟩
                      case measure => simp [intOf]; omega
                  · have hdn2 : decide (d.2 < 0) = false := by simpa using hdn
                    have hdn3 : 0 ≤ d.2 := by omega
                    clear CD HSMD
                    go_wp2_with (fail)
                    refine CF.out.mono ?_
                    rintro e w5 ⟨rfl, htx⟩
                    obtain ⟨F5, hir5⟩ := IR.step HIRX.out htx HSMF.out (lenAt_fai Q s d.1 d.2)
                    have HIR5 := hide hir5
                    clear htx hir5 CF x0 x1 z0 z1 z2 z3
                    go_wp2_with (fail)
                    go_roundw
                    case rel => exact ⟨dn1, j + 1, faiS Q s d.1 d.2, F5, rfl, by go_num, by omega, HIR5.out⟩
                    case measure => simp [intOf]; omega
                · have hno2 : (eno == d.1) = false := by simpa using hno
                  clear CD CF HSMD HSMF
                  go_wp2_with (fail)
                  go_roundw
                  case rel => exact ⟨dn1, j + 1, s, F, rfl, by go_num, by omega, HIRX.out⟩
                  case measure => simp [intOf]; omega
              · have x0 : wr.cell? ⟨zd, 0, none⟩ = some (.int .i64 d.1) := (block_cell hmi 0).trans rfl
                have x1 : wr.cell? ⟨zd, 1, none⟩ = some (.int .i64 d.2) := (block_cell hmi 1).trans rfl
                have hwm : (Lit.int .i64 (max d.2 0)).wf = true := by
                  have h9 := HDW1.out.2
                  have h8 : d.2 ≤ 9223372036854775807 := by simp [Lit.wf, IntKind.min, IntKind.max, IntKind.signed, IntKind.bits] at h9; omega
                  exact wf_small (by omega)
                have CU := hide (Due_any HP.out hir.sr.bx (max d.2 0) hwm (by omega))
                have HSMU := hide (SmOk.dued hir.sr.bx.1 hir.sr.sm (max d.2 0))
                clear hir hbd hsl hmi
                go_wp2_with (fail)
                refine CU.out.mono ?_
                rintro e w5 ⟨htx, hway⟩
                obtain ⟨F5, hsr5⟩ := SR.tx HIR.out.sr (Below.refl _ _) htx HSMU.out
                have HSR5 := hide hsr5
                clear htx hsr5 CU x0 x1
                rcases hway with ⟨_, rfl⟩ | ⟨_, va, ea, rfl, _, _⟩
                · go_wp2_with (fail)
                  go_roundw
                  case rel => exact ⟨dn1, k9 + 1, dueS Q.wa s (max d.2 0), F5, rfl, by go_num, by omega, HSR5.out⟩
                  case measure => simp [intOf]; omega
                · go_wp2_with (fail)
                  go_roundw
                  case rel => exact ⟨dn1, k9 + 1, dueS Q.wa s (max d.2 0), F5, rfl, by go_num, by omega, HSR5.out⟩
                  case measure => simp [intOf]; omega
          · have COp := hide (Open_any HP.out hsr.bx)
            have HMr := hide (blk_b HM2.out hmB hsr.be)
            clear hsr hbd hsl HS2
            go_wp2_with (fail)
            refine COp.out.mono ?_
            rintro e w3 ⟨v3, es1, rfl, hb3, hpo1, heq1⟩
            have hs3 := HSR.out.still hb3
            have HS3 := hide hs3
            have HMM3 := hide (block_below HMr.out hb3)
            have HPO1 := hide hpo1
            have HEQ1 := hide heq1
            have HB3 := hide (HBR.out.trans (hb3.mono HBR.out.size))
            obtain ⟨A1, C1, rfl⟩ := own_sl hpo1.row
            have CL := hide (Lost_any HP.out hs3.bx (by have := (sm_len hs3.bx.1 hs3.sm).2.1; omega))
            clear hpo1 heq1 hb3 COp hs3
            go_wp2_with (fail)
            refine CL.out.mono ?_
            rintro e w4 ⟨v4, es2, rfl, hb4, hpo2, heq2⟩
            obtain ⟨AX, CX, rfl⟩ := own_sl hpo2.row
            have hpo1 := HPO1.out.below hb4
            have HLA := hide (last_ok HS3.out.bx.1 HS3.out.sm hpo1 hpo2 HEQ1.out heq2)
            have hln : (es1 ++ es2).length ≤ 60 := by
              have h1 := le_sum1 Po.n (es1 ++ es2) fun e he => (HLA.out.one e he).1
              have h2 := HLA.out.sum
              omega
            have hba : Below w4.heap.size w4 (w4.alloc (.cells #[.slice A1 es1.length C1, .slice AX es2.length CX] 36)) := (Below.refl _ _).alloc (Nat.le_refl _) _
            have hma := heap_alloc_new w4 (.cells #[.slice A1 es1.length C1, .slice AX es2.length CX] 36)
            have part : ∀ {lo : Nat} {v : Value} {es : List Po} {W W' : World} {A : Option Addr} {C : Nat}, PoIn lo W (.slice A es.length C) es → Below W.heap.size W W' → Sl W' W'.heap.size Po.cs 4 A es.length es ∧ (A = none → C = 0) := fun {lo v es W W' A C} h hb => by
              have hr := (h.below hb).row
              obtain ⟨A', c', e9, hs, _, _⟩ := sl_of_own (f := Po.cs) (l := es) (fun _ => rfl) rfl hr
              cases e9
              refine ⟨hs, fun e => ?_⟩
              rcases hr.2 with h1 | ⟨g, cap, cur, q1, _⟩
              · exact (Value.slice.inj h1.1).2.2
              · have h9 := (Value.slice.inj q1).1
                rw [e] at h9
                cases h9
            have CC := hide (Concat_any (some ⟨w4.heap.size, 0, none⟩) 2 2 [⟨A1, es1.length, C1, es1⟩, ⟨AX, es2.length, CX, es2⟩] (w4.alloc (.cells #[.slice A1 es1.length C1, .slice AX es2.length CX] 36)) (by decide) (by simp only [flat, List.flatMap_cons, List.flatMap_nil, List.append_nil]; omega)
              ⟨rfl, fun _ => ⟨w4.heap.size, 0, rfl, lt_of_block hma, fun i a ha j u hu => by
                rw [block_cell hma]
                match i, ha with
                | 0, ha =>
                  simp only [List.getElem?_cons_zero, Option.some.injEq] at ha
                  subst ha
                  match j, hu with
                  | 0, hu => exact hu
                | 1, ha =>
                  simp only [List.getElem?_cons_succ, List.getElem?_cons_zero, Option.some.injEq] at ha
                  subst ha
                  match j, hu with
                  | 0, hu => exact hu⟩⟩
              (fun q hq => by
                simp only [List.mem_cons, List.not_mem_nil, or_false] at hq
                rcases hq with rfl | rfl
                · exact part (v := .bool true) hpo1 hba
                · exact part (v := .bool true) hpo2 hba))
            have HMM4 := hide (block_below (block_below HMM3.out hb4) hba)
            have HB4 := hide ((HB3.out.trans (hb4.mono HB3.out.size)).trans (hba.mono (HB3.out.trans (hb4.mono HB3.out.size)).size))
            have hfl : flat [⟨A1, es1.length, C1, es1⟩, ⟨AX, es2.length, CX, es2⟩] = es1 ++ es2 := by simp only [flat, List.flatMap_cons, List.flatMap_nil, List.append_nil]
            rw [hfl] at CC
            clear hpo2 heq2 hpo1 hb4 CL hba hma part hfl HPO1 HEQ1 HS3 HSR HBR HB3 HMM3 HMr
            obtain ⟨n1, hn1⟩ : ∃ n1, es1.length = n1 := ⟨_, rfl⟩
            obtain ⟨n3, hn3⟩ : ∃ n3, es2.length = n3 := ⟨_, rfl⟩
            obtain ⟨es, hes⟩ : ∃ es, es1 ++ es2 = es := ⟨_, rfl⟩
            rw [hes] at CC HLA hln
            rw [hn1, hn3] at CC HMM4 HB4
            rw [hn1, hn3]
            have HN1 := hide hn1
            clear hes hn1 hn3
            go_wp2_with (fail)
            refine CC.out.mono ?_
            rintro e w7 ⟨A7, N7, c7, rfl, hs7, hb7, hc7⟩
            have HS7 := hide hs7
            have HMM7 := hide (block_below HMM4.out hb7)
            have HB7 := hide (HB4.out.trans (hb7.mono HB4.out.size))
            have hN7 : N7 ≤ 60 := by have := hs7.len; omega
            clear hs7 hb7 HB4 HMM4 CC
            go_wp2_with (fail)
            have hbw := hzB
            have hwlt : w.heap.size < w7.heap.size := lt_of_block HMM7.out
            have HN7 := hide (show es.length = N7 from HS7.out.len)
            go_loopw [17, 110] (fun v17 v110 wr => ∃ j t : Nat, v110 = .int .i64 j ∧ j ≤ N7 ∧ v17 = .int .i64 t ∧ t = dn + ((es.take j).map Po.n).sum ∧ Below w7.heap.size w7 wr) (fun _ v110 _ => N7 - (intOf v110).toNat)
            case atStart => exact ⟨0, dn, rfl, Nat.zero_le _, rfl, by simp, Below.refl _ _⟩
            case round =>
              obtain ⟨j, t, rfl, hj, rfl, ht, hbr⟩ := hrel
              have HT := hide ht
              have HBr := hide hbr
              have hmr := block_below HMM7.out hbr
              have hzr := lt_of_block hmr
              have x0 : wr.cell? ⟨w.heap.size, 0, none⟩ = some (.int .i64 mo) := (block_cell hmr 0).trans rfl
              have x3 : wr.cell? ⟨w.heap.size, 3, none⟩ = some (.int .i64 tr) := (block_cell hmr 3).trans rfl
              have htp : t ≤ put := by rw [ht]; exact HLA.out.le j
              by_cases hltj : j < N7
              · obtain ⟨vb, vo, e, rfl, hvb, hx, hc⟩ := (HS7.out.below hbr).at_ hltj
                have hone := HLA.out.one e (List.mem_of_getElem? hx)
                have hat := HLA.out.at_ hx
                have hle := HLA.out.le (j + 1)
                rw [hat, ← ht] at hle
                rw [← ht] at hat
                have HAT := hide hat
                obtain ⟨eno, eA, en, ec, etr, enx, ents⟩ := e
                simp only at hone hle HAT
                have z0 : wr.cell? ⟨vb, vo + j * 4, none⟩ = some (.int .i64 eno) := by have := hc 0 _ rfl; simpa using this
                have z1 : wr.cell? ⟨vb, vo + j * 4 + 1, none⟩ = some (.slice eA en ec) := hc 1 _ rfl
                have z2 : wr.cell? ⟨vb, vo + j * 4 + 2, none⟩ = some (.int .i64 etr) := hc 2 _ rfl
                have z3 : wr.cell? ⟨vb, vo + j * 4 + 3, none⟩ = some (.int .i64 enx) := hc 3 _ rfl
                have hq := HMO2.out
                have hen60 : en ≤ 60 := by omega
                have q1 : decide ((en : Int) < 1) = false := by simp; omega
                have q2 : decide (mo < (en : Int)) = false := by simp; omega
                have q3 : decide (tr < etr) = false := by simp; omega
                have HBA := hide (HBr.out.trans (((Below.refl _ _).alloc (Nat.le_refl _) (.cells #[.int .i64 eno, .slice eA en ec, .int .i64 etr, .int .i64 enx] 41) : Below wr.heap.size wr _).mono hbr.size))
                clear ht hbr hmr hx hc hat hone hq
                go_wp2_with (fail)
                go_roundw
                case rel => exact ⟨j + 1, t + en, by go_num, by omega, by go_num, HAT.out.symm, HBA.out⟩
                case measure => simp [intOf]; omega
              · have hsum : t = put := by
                  rw [ht, take_len es (by have := HN7.out; omega)]
                  exact HLA.out.sum
                subst hsum
                have HBE := hide (HB7.out.trans (hbr.mono HB7.out.size))
                clear ht hbr hmr htp
                go_wp2_with (fail)
                go_ret
                exact ⟨rfl, HBE.out⟩
  · obtain ⟨x, hx⟩ : ∃ x, planErr mo wa ag tr = x := ⟨_, rfl⟩
    rw [hx] at CN he
    have CN2 := hide (fun W => (CN.out W).mono fun e W' h => show Below W.heap.size W W' ∧ e = .returned (.tuple #[.pointer none, .int .i64 x]) from ⟨h.1, by
      rcases h.2 with ⟨_, h1⟩ | ⟨h1, _⟩
      · exact h1
      · exact absurd h1 he⟩)
    have he2 : (x == 0) = false := by simpa using he
    clear hx CN
    go_enter Tryd.func4, Tryd.ntmps4
    go_wp2_with (first | (go_at_call 22; refine (CA.out _ HB0.out).mono ?_; rintro e w1 ⟨rfl, hw1⟩; have HB1 := hide (HB0.out.trans (hw1.mono HB0.out.size)); have hm1 := block_below HM0.out hw1; have y0 : w1.cell? ⟨w.heap.size, 0, none⟩ = some (.int .i64 mo) := (block_cell hm1 0).trans rfl; have y1 : w1.cell? ⟨w.heap.size, 1, none⟩ = some (.int .i64 wa) := (block_cell hm1 1).trans rfl; have y2 : w1.cell? ⟨w.heap.size, 2, none⟩ = some (.int .i64 ag) := (block_cell hm1 2).trans rfl; have y3 : w1.cell? ⟨w.heap.size, 3, none⟩ = some (.int .i64 tr) := (block_cell hm1 3).trans rfl; clear hw1 hm1 CA) | (go_at_call 5; refine (CN2.out _).mono ?_; rintro e w2 ⟨hw2, rfl⟩; have HB2 := hide (HB1.out.trans (hw2.mono HB1.out.size)); clear hw2 CN2 y0 y1 y2 y3))
    go_ret
    exact ⟨rfl, HB2.out⟩
end Go.Proofs.YtnkccilgbhogbaaDoor
