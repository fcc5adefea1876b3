/- What Tick does to a rule, in plain Lean; rows and blocks. -/
import Derived.Test.YtkkhjlomicokgaaGreatDoorAlSta
import Derived.Test.YtkkhjlomicokgaaGreatDoorAlDel
import Derived.Test.YtkkhjlomicokgaaGreatDoorAlGo
import Derived.Test.YtkkhjlomicokgaaGreatDoorTwoRows
namespace Go.Proofs.YtkkhjlomicokgaaGreatDoor.al
open Go.RowKit
set_option linter.unusedVariables false
set_option linter.unusedSimpArgs false
/-- A rule's next state, since when, and the kind of its notice. -/
def tkR (cs : List Ct) (sl : List Sil) (t : Int) (x : Wd) : Int × Int × Int := goS x.st x.si (holdsB x.r (seeV cs x.r t).1 (seeV cs x.r t).2) t x.r.hold x.r.rest (silB x.r.name t sl)
def tkW (cs : List Ct) (sl : List Sil) (t : Int) (x : Wd) : Wd := ⟨x.r, (tkR cs sl t x).1, (tkR cs sl t x).2.1, (seeV cs x.r t).1⟩
def tkN (cs : List Ct) (sl : List Sil) (t : Int) (x : Wd) : List Nt := if (tkR cs sl t x).2.2 = 0 then [] else [⟨t, x.r.name, (tkR cs sl t x).2.2, (seeV cs x.r t).1⟩]
/-- A rule that stands as rules stand at moment t. -/
structure WdOk (t : Int) (x : Wd) : Prop where
  a0 : 1 ≤ x.r.ask
  a1 : x.r.ask ≤ 4
  w0 : 1 ≤ x.r.window
  w1 : x.r.window ≤ 604800
  s0 : 0 ≤ x.st
  s3 : x.st ≤ 3
  i0 : 0 ≤ x.si
  i1 : x.si ≤ t
theorem goS_ok (st si : Int) (h : Bool) (t hold rest : Int) (sil : Bool) (h0 : 0 ≤ st) (h3 : st ≤ 3) (hi : 0 ≤ si) (hit : si ≤ t) (ht : 0 ≤ t) : 0 ≤ (goS st si h t hold rest sil).1 ∧ (goS st si h t hold rest sil).1 ≤ 3 ∧ 0 ≤ (goS st si h t hold rest sil).2.1 ∧ (goS st si h t hold rest sil).2.1 ≤ t := by
  unfold goS
  dsimp only
  repeat' split
  all_goals (refine ⟨?_, ?_, ?_, ?_⟩ <;> dsimp only <;> omega)
theorem tkW_ok {cs : List Ct} {sl : List Sil} {t0 t : Int} {x : Wd} (h : WdOk t0 x) (ht : t0 ≤ t) (h0 : 0 ≤ t) : WdOk t (tkW cs sl t x) := by
  have := goS_ok x.st x.si (holdsB x.r (seeV cs x.r t).1 (seeV cs x.r t).2) t x.r.hold x.r.rest (silB x.r.name t sl) h.s0 h.s3 h.i0 (by have := h.i1; omega) h0
  exact ⟨h.a0, h.a1, h.w0, h.w1, this.1, this.2.1, this.2.2.1, this.2.2.2⟩
/-- A notice says that the state has turned. -/
theorem goS_turn (st si : Int) (h : Bool) (t hold rest : Int) (sil : Bool) (hne : (goS st si h t hold rest sil).2.2 ≠ 0) : (goS st si h t hold rest sil).1 ≠ st := by
  unfold goS at hne ⊢
  dsimp only at hne ⊢
  repeat' split at hne
  all_goals first | (exact absurd rfl hne) | skip
  all_goals (repeat' split)
  all_goals first | (simp_all; done) | (simp_all; omega) | skip
theorem take_drop_set {α : Type} (f : α → α) (l : List α) (j : Nat) (x : α) (hx : l[j]? = some x) : ((l.take j).map f ++ l.drop j).set j (f x) = (l.take (j + 1)).map f ++ l.drop (j + 1) := by
  have hj : j < l.length := (List.getElem?_eq_some_iff.1 hx).1
  have hl : ((l.take j).map f).length = j := by simp; omega
  rw [take_succ_get hx, List.map_append, List.set_append, if_neg (by omega), hl, Nat.sub_self, List.drop_eq_getElem_cons hj, List.set_cons_zero, List.append_assoc]
  rfl
theorem take_drop_get {α : Type} (f : α → α) (l : List α) (j : Nat) : ((l.take j).map f ++ l.drop j)[j]? = l[j]? := by
  by_cases hj : j < l.length
  · have hl : ((l.take j).map f).length = j := by simp; omega
    rw [List.getElem?_append_right (by omega), hl, Nat.sub_self, List.getElem?_drop]; simp
  · rw [List.getElem?_eq_none (by simp; omega), List.getElem?_eq_none (by omega)]
/-- The row's block is known whole, and written in place. -/
theorem own_now2 {w w' : World} {base n g cap : Nat} {e : TypeId} {xs : List Value} {cur : Array Value} (h : w.ownsRow base e 11 (.slice (some ⟨g, 0, none⟩) n cap) n xs) (hb : w.heap[g]? = some (.cells cur e (0, 0))) (o : Nat) (a b : Int) (hb' : w'.heap[g]? = some (.cells (now2 cur o a b) e (0, 0))) :
    w'.ownsRow base e 11 (.slice (some ⟨g, 0, none⟩) n cap) n ((xs.set (o + 7) (.int .i64 a)).set (o + 8) (.int .i64 b)) := by
  refine ⟨by rw [List.length_set, List.length_set]; exact h.1, ?_⟩
  rcases h.2 with ⟨h1, _⟩ | ⟨g', cap', cur', h1, h2, h3, h4, h5, h6, h7⟩
  · cases h1
  · simp only [Value.slice.injEq, Option.some.injEq, Addr.mk.injEq, true_and, and_true] at h1
    obtain ⟨rfl, rfl⟩ := h1
    rw [h3] at hb
    simp only [Option.some.injEq, Obj.cells.injEq, and_true] at hb
    subst hb
    refine .inr ⟨g, cap, _, rfl, h2, hb', h4, h5, by simpa [now2] using h6, ?_⟩
    rw [now2, Array.toList_setIfInBounds, Array.toList_setIfInBounds, List.take_set, List.take_set, h7]
theorem wd_set (l : List Wd) (i : Nat) (x : Wd) (hx : l[i]? = some x) (a b v : Int) : (l.set i ⟨x.r, a, b, v⟩).flatMap Wd.cs = (((l.flatMap Wd.cs).set (i * 11 + 9) (.int .i64 v)).set (i * 11 + 7) (.int .i64 a)).set (i * 11 + 8) (.int .i64 b) := by
  have hf : ∀ a : Wd, a.cs.length = 11 := fun _ => rfl
  have hi : i < l.length := (List.getElem?_eq_some_iff.1 hx).1
  have h0 := fm_set hf l i 9 x ⟨x.r, x.st, x.si, v⟩ (.int .i64 v) (by omega) hx rfl
  have h1 := fm_set hf (l.set i ⟨x.r, x.st, x.si, v⟩) i 7 ⟨x.r, x.st, x.si, v⟩ ⟨x.r, a, x.si, v⟩ (.int .i64 a) (by omega) (by simp [hi]) rfl
  have h2 := fm_set hf ((l.set i ⟨x.r, x.st, x.si, v⟩).set i ⟨x.r, a, x.si, v⟩) i 8 ⟨x.r, a, x.si, v⟩ ⟨x.r, a, b, v⟩ (.int .i64 b) (by omega) (by simp [hi]) rfl
  rw [List.set_set, List.set_set] at h2
  rw [h2, h1, h0]
theorem wd_cells {m : List Wd} {i : Nat} {y : Wd} (hy : m[i]? = some y) (r : Nat) (hr : r < 11) : (m.flatMap Wd.cs)[i * 11 + r]? = y.cs[r]? := by
  have hf : ∀ a : Wd, a.cs.length = 11 := fun _ => rfl
  rw [fm_get hf m i r hr, hy]; rfl
/-- What Tick has in memory. -/
structure TkI (B base pw b2 b3 n : Nat) (rv cv sv : Value) (m sn : Nat) (cs : List Ct) (sl : List Sil) (t g : Int) (P : Nat → Prop) (w0 : World) (l : List Wd) (w : World) : Prop where
  box : w.heap[pw]? = some (.cells #[rv, cv, sv, .int .i64 t, .int .i64 g] 83 (0, 0))
  rrow : w.ownsRow base 88 11 rv n (l.flatMap Wd.cs)
  crow : w.ownsRow base 106 3 cv m (cs.flatMap Ct.cs)
  srow : w.ownsRow base 171 3 sv sn (sl.flatMap Sil.cs)
  x2 : w.heap[b2]? = some (.cells #[.pointer (some ⟨pw, 0, none⟩)] 30 (0, 0))
  x3 : w.heap[b3]? = some (.cells #[.int .i64 t] 3 (0, 0))
  kp : Keep B P w0 w
section
variable {B base pw b2 b3 n : Nat} {rv cv sv : Value} {m sn : Nat} {cs : List Ct} {sl : List Sil} {t g : Int} {P : Nat → Prop} {w0 w w' : World} {l : List Wd}
theorem TkI.below (h : TkI B base pw b2 b3 n rv cv sv m sn cs sl t g P w0 l w) (hB : B ≤ w0.heap.size) (hb : Below w.heap.size w w') : TkI B base pw b2 b3 n rv cv sv m sn cs sl t g P w0 l w' :=
  ⟨block_below h.box hb, own_below h.rrow hb, own_below h.crow hb, own_below h.srow hb, block_below h.x2 hb, block_below h.x3 hb, h.kp.trans (Keep.of_below hb (Nat.le_trans hB h.kp.be.size))⟩
/-- The row of rules is written in place, all else stays. -/
theorem TkI.write {rb cr : Nat} {l' : List Wd} (h : TkI B base pw b2 b3 n (.slice (some ⟨rb, 0, none⟩) n cr) cv sv m sn cs sl t g P w0 l w) (hb : ButAt rb w w') (hBr : B ≤ rb) (hP : P rb) (ho : w'.ownsRow base 88 11 (.slice (some ⟨rb, 0, none⟩) n cr) n (l'.flatMap Wd.cs)) (hn : 0 < n) : TkI B base pw b2 b3 n (.slice (some ⟨rb, 0, none⟩) n cr) cv sv m sn cs sl t g P w0 l' w' := by
  obtain ⟨g', cap', cur', hv, _, hblk, _⟩ := own_blk h.rrow hn
  simp only [Value.slice.injEq, Option.some.injEq, Addr.mk.injEq, true_and, and_true] at hv
  obtain ⟨rfl, rfl⟩ := hv
  have hx : ∀ {b : Nat} {cs : Array Value} {ty : TypeId}, w.heap[b]? = some (.cells cs ty (0, 0)) → ty ≠ 88 → b ≠ rb := fun hh hne e => by
    rw [e, hblk] at hh
    simp only [Option.some.injEq, Obj.cells.injEq, and_true] at hh
    exact hne hh.2.symm
  have ow : ∀ {sz k : Nat} {e : TypeId} {v : Value} {xs : List Value}, w.ownsRow base e sz v k xs → e ≠ 88 → w'.ownsRow base e sz v k xs := fun hh hne => by
    refine ⟨hh.1, ?_⟩
    rcases hh.2 with h1 | ⟨q, c, u, q1, q2, q3, q4⟩
    · exact .inl h1
    · exact .inr ⟨q, c, u, q1, q2, hb.keep _ _ q3 (hx q3 hne), q4⟩
  exact ⟨hb.keep _ _ h.box (hx h.box (by decide)), ho, ow h.crow (by decide), ow h.srow (by decide), hb.keep _ _ h.x2 (hx h.x2 (by decide)), hb.keep _ _ h.x3 (hx h.x3 (by decide)), h.kp.trans (Keep.of_but hb hBr hP)⟩
end
/-- The cells of the rule at hand, and of Tick's two boxes. -/
structure TkX (pw b2 b3 rb j : Nat) (t : Int) (x : Wd) (W : World) : Prop where
  x0 : W.cell? ⟨rb, j * 11, none⟩ = some (.string x.r.name)
  x1 : W.cell? ⟨rb, j * 11 + 1, none⟩ = some (.string x.r.key)
  x2 : W.cell? ⟨rb, j * 11 + 2, none⟩ = some (.int .i64 x.r.ask)
  x3 : W.cell? ⟨rb, j * 11 + 3, none⟩ = some (.int .i64 x.r.limit)
  x4 : W.cell? ⟨rb, j * 11 + 4, none⟩ = some (.int .i64 x.r.window)
  x5 : W.cell? ⟨rb, j * 11 + 5, none⟩ = some (.int .i64 x.r.hold)
  x6 : W.cell? ⟨rb, j * 11 + 6, none⟩ = some (.int .i64 x.r.rest)
  x7 : W.cell? ⟨rb, j * 11 + 7, none⟩ = some (.int .i64 x.st)
  x8 : W.cell? ⟨rb, j * 11 + 8, none⟩ = some (.int .i64 x.si)
  x9 : W.cell? ⟨rb, j * 11 + 9, none⟩ = some (.int .i64 x.va)
  x10 : W.cell? ⟨rb, j * 11 + 10, none⟩ = some (holdV x.r)
  y2 : W.cell? ⟨b2, 0, none⟩ = some (.pointer (some ⟨pw, 0, none⟩))
  y3 : W.cell? ⟨b3, 0, none⟩ = some (.int .i64 t)
  f9 : W.frozen? ⟨rb, j * 11 + 9, none⟩ = false
section
variable {B base pw b2 b3 n : Nat} {rv cv sv : Value} {m sn : Nat} {cs : List Ct} {sl : List Sil} {t g : Int} {P : Nat → Prop} {w0 w w' : World} {l : List Wd} {rb cr : Nat}
theorem TkI.xs (h : TkI B base pw b2 b3 n (.slice (some ⟨rb, 0, none⟩) n cr) cv sv m sn cs sl t g P w0 l w) {j : Nat} {x : Wd} (hx : l[j]? = some x) : TkX pw b2 b3 rb j t x w :=
  have q := fun (r : Nat) (hr : r < 11) (u : Value) (hu : x.cs[r]? = some u) => own_cell h.rrow _ _ ((wd_cells hx r hr).trans hu)
  ⟨q 0 (by omega) _ rfl, q 1 (by omega) _ rfl, q 2 (by omega) _ rfl, q 3 (by omega) _ rfl, q 4 (by omega) _ rfl, q 5 (by omega) _ rfl, q 6 (by omega) _ rfl, q 7 (by omega) _ rfl, q 8 (by omega) _ rfl, q 9 (by omega) _ rfl, q 10 (by omega) _ rfl,
    block_cell h.x2 0, block_cell h.x3 0, own_free h.rrow _⟩
theorem TkI.setVa (h : TkI B base pw b2 b3 n (.slice (some ⟨rb, 0, none⟩) n cr) cv sv m sn cs sl t g P w0 l w) {j : Nat} {x : Wd} (hx : l[j]? = some x) (hBr : B ≤ rb) (hP : P rb) (hn : 0 < n) (v : Int) : TkI B base pw b2 b3 n (.slice (some ⟨rb, 0, none⟩) n cr) cv sv m sn cs sl t g P w0 (l.set j ⟨x.r, x.st, x.si, v⟩) (w.setCell ⟨rb, j * 11 + 9, none⟩ (.int .i64 v)) := by
  have hf : ∀ a : Wd, a.cs.length = 11 := fun _ => rfl
  refine h.write (ButAt.set _ _ _) hBr hP ?_ hn
  rw [fm_set hf l j 9 x ⟨x.r, x.st, x.si, v⟩ (.int .i64 v) (by omega) hx rfl]
  exact own_set h.rrow _ _
theorem TkI.goIn {SA : Option Addr} {sc : Nat} (h : TkI B base pw b2 b3 n (.slice (some ⟨rb, 0, none⟩) n cr) cv (.slice SA sn sc) m sn cs sl t g P w0 l w) {j : Nat} {x : Wd} (hx : l[j]? = some x) (hBr : B ≤ rb) (hP : P rb) (hn : 0 < n) (hsl : sl.length = sn) :
    ∃ cur, GoIn pw rb (j * 11) x.r.name x.r.hold x.r.rest x.st x.si SA sn sc sl cur w ∧ (∀ b k, SA = some ⟨b, k, none⟩ → b ≠ rb) ∧
      ∀ w' a b, w'.heap[rb]? = some (.cells (now2 cur (j * 11) a b) 88 (0, 0)) → ButAt rb w w' → TkI B base pw b2 b3 n (.slice (some ⟨rb, 0, none⟩) n cr) cv (.slice SA sn sc) m sn cs sl t g P w0 (l.set j ⟨x.r, a, b, x.va⟩) w' := by
  have hf : ∀ a : Sil, a.cs.length = 3 := fun _ => rfl
  obtain ⟨cap', cur, hblk⟩ : ∃ cap' cur, w.heap[rb]? = some (.cells cur 88 (0, 0)) ∧ cap' = 0 := by
    obtain ⟨g', cap', cur', hv, _, hblk, _⟩ := own_blk h.rrow hn
    simp only [Value.slice.injEq, Option.some.injEq, Addr.mk.injEq, true_and, and_true] at hv
    obtain ⟨rfl, rfl⟩ := hv
    exact ⟨0, cur', hblk, rfl⟩
  have hblk := hblk.1
  have X := h.xs hx
  have hc : ∀ (i : Nat) (v : Value), w.cell? ⟨rb, i, none⟩ = some v → cur[i]? = some v := fun i v hv => by rw [← block_cell hblk i]; exact hv
  obtain ⟨A', c', hv, hsl', _⟩ := sl_of_own hf hsl h.srow
  simp only [Value.slice.injEq, true_and] at hv
  obtain ⟨rfl, rfl⟩ := hv
  refine ⟨cur, ⟨block_cell h.box 2, hsl', hblk, fun e => ?_, hc _ _ X.x0, hc _ _ X.x5, hc _ _ X.x6, hc _ _ X.x7, hc _ _ X.x8⟩, fun b k hb e => ?_, fun w' a b hb' hbut => ?_⟩
  · subst e
    have h1 := h.box
    rw [hblk] at h1
    simp at h1
  · subst hb; subst e
    rcases h.srow.2 with ⟨h1, _⟩ | ⟨g', cap', cur', h1, _, h3, _⟩
    · cases h1
    · simp only [Value.slice.injEq, Option.some.injEq, Addr.mk.injEq, true_and] at h1
      rw [← h1.1.1, hblk] at h3
      simp at h3
  · refine h.write hbut hBr hP ?_ hn
    have h1 := own_now2 h.rrow hblk (j * 11) a b hb'
    have h2 := wd_set l j x hx a b x.va
    rw [h2]
    have h3 : (l.flatMap Wd.cs).set (j * 11 + 9) (.int .i64 x.va) = l.flatMap Wd.cs := by
      have := wd_cells hx 9 (by omega)
      apply List.ext_getElem?
      intro i
      rw [List.getElem?_set]
      split
      · rename_i e; subst e; rw [this]
        split
        · rfl
        · rename_i hlt; rw [List.getElem?_eq_none (by omega)] at this; cases this
      · rfl
    rw [h3]
    exact h1
end
end Go.Proofs.YtkkhjlomicokgaaGreatDoor.al