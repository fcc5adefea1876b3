/- What the reference's Tick has in memory. -/
import Derived.Test.YtmakkdadhhpapaaDoorAlTik
namespace Go.Proofs.YtmakkdadhhpapaaDoor
open Go.RowKit
set_option linter.unusedVariables false
set_option linter.unusedSimpArgs false
structure RkI (B base rw_ b3 n m : Nat) (R : Option Addr) (cr : Nat) (cv kv sv stv : Value) (sn : Nat) (rl : List Rl) (cs : List Ct) (ks : List Bool) (sl : List Sil) (t : Int) (P : Nat → Prop) (w0 : World) (l : List Stt) (w : World) : Prop where
  box : w.heap[rw_]? = some (.cells #[.slice R n cr, .int .i64 t, cv, kv, sv, stv] 69 (0, 0))
  rules : Sl w B Rl.cs 7 R n rl
  strow : w.ownsRow base 46 4 stv n (l.flatMap Stt.cs)
  crow : w.ownsRow base 73 3 cv m (cs.flatMap Ct.cs)
  krow : w.ownsRow base 4 1 kv m (ks.flatMap cb)
  srow : w.ownsRow base 87 3 sv sn (sl.flatMap Sil.cs)
  x3 : w.heap[b3]? = some (.cells #[.int .i64 t] 3 (0, 0))
  kp : Keep B P w0 w
structure RkJ (B base rw_ b3 n m : Nat) (R : Option Addr) (cr : Nat) (cv kv sv stv : Value) (sn : Nat) (rl : List Rl) (cs : List Ct) (ks : List Bool) (sl : List Sil) (t : Int) (P : Nat → Prop) (w0 : World) (q9 q10 rb j : Nat) (x : Rl) (ov : Value) (ns : List Nt) (l : List Stt) (w : World) : Prop where
  i : RkI B base rw_ b3 n m R cr cv kv sv stv sn rl cs ks sl t P w0 l w
  q9 : w.heap[q9]? = some (.cells #[.string x.name, .string x.key, .int .i64 x.ask, .int .i64 x.limit, .int .i64 x.window, .int .i64 x.hold, .int .i64 x.rest] 55 (0, 0))
  q10 : w.heap[q10]? = some (.cells #[.pointer (some ⟨rb, j * 4, none⟩)] 80 (0, 0))
  out : w.ownsRow (b3 + 1) 41 4 ov ns.length (ns.flatMap Nt.cs)
structure RkX (q9 q10 b3 rb j : Nat) (t : Int) (x : Rl) (s : Stt) (W : World) : Prop where
  r0 : W.cell? ⟨q9, 0, none⟩ = some (.string x.name)
  r1 : W.cell? ⟨q9, 1, none⟩ = some (.string x.key)
  r2 : W.cell? ⟨q9, 2, none⟩ = some (.int .i64 x.ask)
  r3 : W.cell? ⟨q9, 3, none⟩ = some (.int .i64 x.limit)
  r4 : W.cell? ⟨q9, 4, none⟩ = some (.int .i64 x.window)
  r5 : W.cell? ⟨q9, 5, none⟩ = some (.int .i64 x.hold)
  r6 : W.cell? ⟨q9, 6, none⟩ = some (.int .i64 x.rest)
  p : W.cell? ⟨q10, 0, none⟩ = some (.pointer (some ⟨rb, j * 4, none⟩))
  y3 : W.cell? ⟨b3, 0, none⟩ = some (.int .i64 t)
  s0 : W.cell? ⟨rb, j * 4, none⟩ = some (.string s.rule)
  s1 : W.cell? ⟨rb, j * 4 + 1, none⟩ = some (.int .i64 s.state)
  s2 : W.cell? ⟨rb, j * 4 + 2, none⟩ = some (.int .i64 s.since)
  s3 : W.cell? ⟨rb, j * 4 + 3, none⟩ = some (.int .i64 s.value)
  f1 : W.frozen? ⟨rb, j * 4 + 1, none⟩ = false
  f2 : W.frozen? ⟨rb, j * 4 + 2, none⟩ = false
  f3 : W.frozen? ⟨rb, j * 4 + 3, none⟩ = false
theorem st_cells {m : List Stt} {i : Nat} {y : Stt} (hy : m[i]? = some y) (r : Nat) (hr : r < 4) : (m.flatMap Stt.cs)[i * 4 + r]? = y.cs[r]? := by
  have hf : ∀ a : Stt, a.cs.length = 4 := fun _ => rfl
  rw [fm_get hf m i r hr, hy]; rfl
theorem st_set (l : List Stt) (i : Nat) (x : Stt) (hx : l[i]? = some x) (a b : Int) : (l.set i ⟨x.rule, a, b, x.value⟩).flatMap Stt.cs = ((l.flatMap Stt.cs).set (i * 4 + 1) (.int .i64 a)).set (i * 4 + 2) (.int .i64 b) := by
  have hf : ∀ a : Stt, a.cs.length = 4 := fun _ => rfl
  have hi : i < l.length := (List.getElem?_eq_some_iff.1 hx).1
  have h1 := fm_set hf l i 1 x ⟨x.rule, a, x.since, x.value⟩ (.int .i64 a) (by omega) hx rfl
  have h2 := fm_set hf (l.set i ⟨x.rule, a, x.since, x.value⟩) i 2 ⟨x.rule, a, x.since, x.value⟩ ⟨x.rule, a, b, x.value⟩ (.int .i64 b) (by omega) (by simp [hi]) rfl
  rw [List.set_set] at h2
  rw [h2, h1]
theorem row_blk {w : World} {base sz n g cap : Nat} {e : TypeId} {xs : List Value} (h : w.ownsRow base e sz (.slice (some ⟨g, 0, none⟩) n cap) n xs) (hn : 0 < n) : base ≤ g ∧ ∃ cur, w.heap[g]? = some (.cells cur e (0, 0)) := by
  obtain ⟨g', cap', cur', hv, hb, hblk, _⟩ := own_blk h hn
  simp only [Value.slice.injEq, Option.some.injEq, Addr.mk.injEq, true_and, and_true] at hv
  obtain ⟨rfl, rfl⟩ := hv
  exact ⟨hb, cur', hblk⟩
theorem ne_of_type {w : World} {a b : Nat} {c1 c2 : Array Value} {t1 t2 : TypeId} {f1 f2 : Nat × Nat} (h1 : w.heap[a]? = some (.cells c1 t1 f1)) (h2 : w.heap[b]? = some (.cells c2 t2 f2)) (hne : t1 ≠ t2) : a ≠ b := fun e => by
  rw [e, h2] at h1
  simp only [Option.some.injEq, Obj.cells.injEq] at h1
  exact hne h1.2.1.symm
section
variable {B base rw_ b3 n m : Nat} {R : Option Addr} {cr : Nat} {cv kv sv stv : Value} {sn : Nat} {rl : List Rl} {cs : List Ct} {ks : List Bool} {sl : List Sil} {t : Int} {P : Nat → Prop} {w0 : World} {q9 q10 rb j : Nat} {x : Rl} {ov : Value} {ns : List Nt} {l : List Stt} {w w' : World} {sc : Nat}
theorem RkI.below (h : RkI B base rw_ b3 n m R cr cv kv sv stv sn rl cs ks sl t P w0 l w) (hB : B ≤ w0.heap.size) (hb : Below w.heap.size w w') : RkI B base rw_ b3 n m R cr cv kv sv stv sn rl cs ks sl t P w0 l w' :=
  have hBw := Nat.le_trans hB h.kp.be.size
  ⟨block_below h.box hb, h.rules.below (hb.mono hBw), own_below h.strow hb, own_below h.crow hb, own_below h.krow hb, own_below h.srow hb, block_below h.x3 hb, h.kp.trans (Keep.of_below hb hBw)⟩
theorem RkI.drewN (h : RkI B base rw_ b3 n m R cr cv kv sv stv sn rl cs ks sl t P w0 l w) (q : Nat) : RkI B base rw_ b3 n m R cr cv kv sv stv sn rl cs ks sl t P w0 l (w.drewN q) :=
  ⟨h.box, ⟨h.rules.len, h.rules.cells⟩, h.strow, h.crow, h.krow, h.srow, h.x3, ⟨⟨h.kp.be.os, h.kp.be.tape, h.kp.be.output, h.kp.be.size, h.kp.be.block⟩, h.kp.keep⟩⟩
theorem RkI.write {l' : List Stt} (h : RkI B base rw_ b3 n m R cr cv kv sv (.slice (some ⟨rb, 0, none⟩) n sc) sn rl cs ks sl t P w0 l w) (hB : B ≤ base) (hb : ButAt rb w w') (hP : P rb) (ho : w'.ownsRow base 46 4 (.slice (some ⟨rb, 0, none⟩) n sc) n (l'.flatMap Stt.cs)) (hn : 0 < n) : RkI B base rw_ b3 n m R cr cv kv sv (.slice (some ⟨rb, 0, none⟩) n sc) sn rl cs ks sl t P w0 l' w' := by
  obtain ⟨hbr, cur', hblk⟩ := row_blk h.strow hn
  have hBr : B ≤ rb := Nat.le_trans hB hbr
  have ow : ∀ {sz k : Nat} {e : TypeId} {v : Value} {xs : List Value}, w.ownsRow base e sz v k xs → e ≠ 46 → w'.ownsRow base e sz v k xs := fun hh hne => hb.own hh (own_other' hh hblk hne)
  exact ⟨hb.keep _ _ h.box (ne_of_type h.box hblk (by decide)), h.rules.below (hb.be.mono hBr), ho, ow h.crow (by decide), ow h.krow (by decide), ow h.srow (by decide), hb.keep _ _ h.x3 (ne_of_type h.x3 hblk (by decide)), h.kp.trans (Keep.of_but hb hBr hP)⟩
theorem RkI.grown {k q sz : Nat} {xs : List Value} (h : RkI B base rw_ b3 n m R cr cv kv sv stv sn rl cs ks sl t P w0 l w) (ho : w.ownsRow q 41 sz ov k xs) (hq : w0.heap.size ≤ q) (hB : B ≤ w0.heap.size) (hg : w.grownBy w' ov.ownBlock) : RkI B base rw_ b3 n m R cr cv kv sv stv sn rl cs ks sl t P w0 l w' :=
  have hk : Keep B P w0 w' := ⟨h.kp.be.grown hg (Nat.le_trans hB h.kp.be.size) (fun k hk => Nat.le_trans hB (Nat.le_trans hq (ho.lt k hk).1)), fun k o e ne => (hg.block k (Nat.lt_of_lt_of_le (lt_of_block e) h.kp.be.size) (fun e' => by have := (ho.lt k e'.symm).1; have := lt_of_block e; omega)).trans (h.kp.keep k o e ne)⟩
  ⟨grown_block hg h.box (own_other' ho h.box (by decide)), h.rules.below ((Below.refl _ _).grown hg (Nat.le_trans hB h.kp.be.size) (fun k hk => Nat.le_trans hB (Nat.le_trans hq (ho.lt k hk).1))), h.strow.kept hg (own_two ho h.strow (by decide)), h.crow.kept hg (own_two ho h.crow (by decide)), h.krow.kept hg (own_two ho h.krow (by decide)), h.srow.kept hg (own_two ho h.srow (by decide)), grown_block hg h.x3 (own_other' ho h.x3 (by decide)), hk⟩
theorem RkJ.below (h : RkJ B base rw_ b3 n m R cr cv kv sv stv sn rl cs ks sl t P w0 q9 q10 rb j x ov ns l w) (hB : B ≤ w0.heap.size) (hb : Below w.heap.size w w') : RkJ B base rw_ b3 n m R cr cv kv sv stv sn rl cs ks sl t P w0 q9 q10 rb j x ov ns l w' :=
  ⟨h.i.below hB hb, block_below h.q9 hb, block_below h.q10 hb, own_below h.out hb⟩
theorem RkJ.drewN (h : RkJ B base rw_ b3 n m R cr cv kv sv stv sn rl cs ks sl t P w0 q9 q10 rb j x ov ns l w) (q : Nat) : RkJ B base rw_ b3 n m R cr cv kv sv stv sn rl cs ks sl t P w0 q9 q10 rb j x ov ns l (w.drewN q) :=
  ⟨h.i.drewN q, h.q9, h.q10, h.out⟩
theorem RkJ.drew (h : RkJ B base rw_ b3 n m R cr cv kv sv stv sn rl cs ks sl t P w0 q9 q10 rb j x ov ns l w) : RkJ B base rw_ b3 n m R cr cv kv sv stv sn rl cs ks sl t P w0 q9 q10 rb j x ov ns l w.drew := h.drewN 1
theorem RkJ.xs (h : RkJ B base rw_ b3 n m R cr cv kv sv (.slice (some ⟨rb, 0, none⟩) n sc) sn rl cs ks sl t P w0 q9 q10 rb j x ov ns l w) {s : Stt} (hx : l[j]? = some s) : RkX q9 q10 b3 rb j t x s w :=
  have q := fun (r : Nat) (hr : r < 4) (u : Value) (hu : s.cs[r]? = some u) => own_cell h.i.strow _ _ ((st_cells hx r hr).trans hu)
  ⟨block_cell h.q9 0, block_cell h.q9 1, block_cell h.q9 2, block_cell h.q9 3, block_cell h.q9 4, block_cell h.q9 5, block_cell h.q9 6, block_cell h.q10 0, block_cell h.i.x3 0, q 0 (by omega) _ rfl, q 1 (by omega) _ rfl, q 2 (by omega) _ rfl, q 3 (by omega) _ rfl, own_free h.i.strow _, own_free h.i.strow _, own_free h.i.strow _⟩
theorem RkJ.write {l' : List Stt} (h : RkJ B base rw_ b3 n m R cr cv kv sv (.slice (some ⟨rb, 0, none⟩) n sc) sn rl cs ks sl t P w0 q9 q10 rb j x ov ns l w) (hB : B ≤ base) (hb : ButAt rb w w') (hP : P rb) (ho : w'.ownsRow base 46 4 (.slice (some ⟨rb, 0, none⟩) n sc) n (l'.flatMap Stt.cs)) (hn : 0 < n) : RkJ B base rw_ b3 n m R cr cv kv sv (.slice (some ⟨rb, 0, none⟩) n sc) sn rl cs ks sl t P w0 q9 q10 rb j x ov ns l' w' := by
  obtain ⟨hbr, cur', hblk⟩ := row_blk h.i.strow hn
  exact ⟨h.i.write hB hb hP ho hn, hb.keep _ _ h.q9 (ne_of_type h.q9 hblk (by decide)), hb.keep _ _ h.q10 (ne_of_type h.q10 hblk (by decide)), hb.own h.out (own_other' h.out hblk (by decide))⟩
theorem RkJ.setVa (h : RkJ B base rw_ b3 n m R cr cv kv sv (.slice (some ⟨rb, 0, none⟩) n sc) sn rl cs ks sl t P w0 q9 q10 rb j x ov ns l w) {s : Stt} (hx : l[j]? = some s) (hB : B ≤ base) (hP : P rb) (hn : 0 < n) (v : Int) : RkJ B base rw_ b3 n m R cr cv kv sv (.slice (some ⟨rb, 0, none⟩) n sc) sn rl cs ks sl t P w0 q9 q10 rb j x ov ns (l.set j ⟨s.rule, s.state, s.since, v⟩) (w.setCell ⟨rb, j * 4 + 3, none⟩ (.int .i64 v)) := by
  have hf : ∀ a : Stt, a.cs.length = 4 := fun _ => rfl
  refine h.write hB (ButAt.set _ _ _) hP ?_ hn
  rw [fm_set hf l j 3 s ⟨s.rule, s.state, s.since, v⟩ (.int .i64 v) (by omega) hx rfl]
  exact own_set h.i.strow _ _
theorem RkJ.setSt (h : RkJ B base rw_ b3 n m R cr cv kv sv (.slice (some ⟨rb, 0, none⟩) n sc) sn rl cs ks sl t P w0 q9 q10 rb j x ov ns l w) {s : Stt} (hx : l[j]? = some s) (hB : B ≤ base) (hP : P rb) (hn : 0 < n) (a b : Int) : RkJ B base rw_ b3 n m R cr cv kv sv (.slice (some ⟨rb, 0, none⟩) n sc) sn rl cs ks sl t P w0 q9 q10 rb j x ov ns (l.set j ⟨s.rule, a, b, s.value⟩) ((w.setCell ⟨rb, j * 4 + 1, none⟩ (.int .i64 a)).setCell ⟨rb, j * 4 + 2, none⟩ (.int .i64 b)) := by
  refine h.write hB (ButAt.set2 _ _ _ _ _) hP ?_ hn
  rw [st_set l j s hx a b]
  exact own_set (own_set h.i.strow _ _) _ _
theorem RkJ.grown {ov' : Value} {ns' : List Nt} (h : RkJ B base rw_ b3 n m R cr cv kv sv stv sn rl cs ks sl t P w0 q9 q10 rb j x ov ns l w) (hq : w0.heap.size ≤ b3 + 1) (hB : B ≤ w0.heap.size) (hg : w.grownBy w' ov.ownBlock) (ho : w'.ownsRow (b3 + 1) 41 4 ov' ns'.length (ns'.flatMap Nt.cs)) : RkJ B base rw_ b3 n m R cr cv kv sv stv sn rl cs ks sl t P w0 q9 q10 rb j x ov' ns' l w' :=
  ⟨h.i.grown h.out hq hB hg, grown_block hg h.q9 (own_other' h.out h.q9 (by decide)), grown_block hg h.q10 (own_other' h.out h.q10 (by decide)), ho⟩
end
end Go.Proofs.YtmakkdadhhpapaaDoor
