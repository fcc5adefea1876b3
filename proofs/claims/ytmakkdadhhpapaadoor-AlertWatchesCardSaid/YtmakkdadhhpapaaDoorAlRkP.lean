/- What the reference's Tick does, in plain Lean. -/
import Derived.Test.YtmakkdadhhpapaaDoorAlRkB
import Derived.Test.YtmakkdadhhpapaaDoorAlNwO
import Derived.Test.YtmakkdadhhpapaaDoorStillQ
namespace Go.Proofs.YtmakkdadhhpapaaDoor
open Go.RowKit
set_option linter.unusedVariables false
set_option linter.unusedSimpArgs false
def rkR (cs : List Ct) (sl : List Sil) (t : Int) (x : Rl) (s : Stt) : Int × Int × Int := goS s.state s.since (valV cs x t).2 t x.hold x.rest (silB x.name t sl)
def rkW (cs : List Ct) (sl : List Sil) (t : Int) (x : Rl) (s : Stt) : Stt := ⟨s.rule, (rkR cs sl t x s).1, (rkR cs sl t x s).2.1, (valV cs x t).1⟩
def rkN (cs : List Ct) (sl : List Sil) (t : Int) (x : Rl) (s : Stt) : List Nt := if (rkR cs sl t x s).2.2 = 0 then [] else [⟨t, x.name, (rkR cs sl t x s).2.2, (valV cs x t).1⟩]
theorem rkN_len (cs : List Ct) (sl : List Sil) (t : Int) (rl : List Rl) (l : List Stt) (j : Nat) : ((List.zipWith (rkN cs sl t) rl l).take j).flatten.length ≤ j := by
  induction j generalizing rl l with
  | zero => simp
  | succ j ih =>
    cases rl with
    | nil => simp
    | cons x rl =>
      cases l with
      | nil => simp
      | cons s l =>
        rw [List.zipWith_cons_cons, List.take_succ_cons, List.flatten_cons, List.length_append]
        have := ih rl l
        have h1 : (rkN cs sl t x s).length ≤ 1 := by unfold rkN; split <;> simp
        omega
/-- A rule, and how it stands at moment t. -/
structure RsOk (t : Int) (x : Rl) (s : Stt) : Prop where
  a0 : 1 ≤ x.ask
  a1 : x.ask ≤ 4
  w0 : 1 ≤ x.window
  w1 : x.window ≤ 604800
  s0 : 0 ≤ s.state
  s3 : s.state ≤ 3
  i0 : 0 ≤ s.since
  i1 : s.since ≤ t
theorem set_get {α : Type} {l : List α} {j : Nat} {x : α} (h : l[j]? = some x) (y : α) : (l.set j y)[j]? = some y := by
  have hl := (List.getElem?_eq_some_iff.1 h).1
  rw [List.getElem?_set]; simp [hl]
theorem cb_cell {m : List Bool} {i : Nat} {y : Bool} (hy : m[i]? = some y) : (m.flatMap cb)[i]? = some (.bool y) := by
  have hf : ∀ a : Bool, (cb a).length = 1 := fun _ => rfl
  have h0 := fm_get hf m i 0 (by omega)
  rw [hy] at h0
  simpa [cb] using h0
theorem cb_set (l : List Bool) (i : Nat) (y : Bool) (hi : i < l.length) : (l.set i y).flatMap cb = (l.flatMap cb).set i (.bool y) := by
  have hf : ∀ a : Bool, (cb a).length = 1 := fun _ => rfl
  have h0 := fm_set hf l i 0 l[i] y (.bool y) (by omega) (List.getElem?_eq_getElem hi) rfl
  simpa using h0
/-- Whether a count is kept. -/
def keepB (n : Nat) (t g : Int) (k : Bool) (c : Ct) : Bool := k && (decide (0 < n) && decide (t - 2 * g < c.at_))
theorem lng_le (l : List Rl) (h : ∀ x ∈ l, 1 ≤ x.window ∧ x.window ≤ 604800) : 0 ≤ lng l ∧ lng l ≤ 604800 := by
  have key : ∀ (l : List Rl) (a : Int), 0 ≤ a → a ≤ 604800 → (∀ x ∈ l, 1 ≤ x.window ∧ x.window ≤ 604800) → 0 ≤ l.foldl (fun a r => max a r.window) a ∧ l.foldl (fun a r => max a r.window) a ≤ 604800 := by
    intro l
    induction l with
    | nil => intro a h0 h1 _; exact ⟨h0, h1⟩
    | cons x l ih =>
      intro a h0 h1 hx
      have := hx x (by simp)
      rw [List.foldl_cons]
      exact ih (max a x.window) (by omega) (by omega) (fun y hy => hx y (by simp [hy]))
  exact key l 0 (by omega) (by omega) h
theorem td_get {α : Type} (z l : List α) (j : Nat) (hz : j ≤ z.length) : (z.take j ++ l.drop j)[j]? = l[j]? := by
  have hl : (z.take j).length = j := by rw [List.length_take]; omega
  rw [List.getElem?_append_right (by omega), hl, Nat.sub_self, List.getElem?_drop]; simp
theorem td_set {α : Type} (z l : List α) (j : Nat) (y : α) (hz : z[j]? = some y) (hl : j < l.length) : (z.take j ++ l.drop j).set j y = z.take (j + 1) ++ l.drop (j + 1) := by
  have hj : j < z.length := (List.getElem?_eq_some_iff.1 hz).1
  have hn : (z.take j).length = j := by rw [List.length_take]; omega
  rw [take_succ_get hz, List.set_append, if_neg (by omega), hn, Nat.sub_self, List.drop_eq_getElem_cons hl, List.set_cons_zero, List.append_assoc]
  rfl
theorem sil_sl {w : World} {base m c : Nat} {A : Option Addr} {cs : List Sil} (hl : cs.length = m) (h : w.ownsRow base 87 3 (.slice A m c) m (cs.flatMap Sil.cs)) : Sl w w.heap.size Sil.cs 3 A m cs := by
  obtain ⟨A', c', hv, hsl, _⟩ := sl_of_own (f := Sil.cs) (sz := 3) (fun _ => rfl) hl h
  simp only [Value.slice.injEq, true_and] at hv
  obtain ⟨rfl, rfl⟩ := hv
  exact hsl
theorem ct_sl {w : World} {base m c : Nat} {A : Option Addr} {cs : List Ct} (hl : cs.length = m) (h : w.ownsRow base 73 3 (.slice A m c) m (cs.flatMap Ct.cs)) : Sl w w.heap.size Ct.cs 3 A m cs := by
  obtain ⟨A', c', hv, hsl, _⟩ := sl_of_own (f := Ct.cs) (sz := 3) (fun _ => rfl) hl h
  simp only [Value.slice.injEq, true_and] at hv
  obtain ⟨rfl, rfl⟩ := hv
  exact hsl
section
variable {B base rw_ b3 n m : Nat} {R : Option Addr} {cr : Nat} {cv kv sv stv : Value} {sn : Nat} {rl : List Rl} {cs : List Ct} {ks : List Bool} {sl : List Sil} {t : Int} {P : Nat → Prop} {w0 : World} {l : List Stt} {w : World} {j : Nat} {a b c d : Stt}
theorem RkI.drewSet {a : Addr} {v : Value} {q : Nat} (h : RkI B base rw_ b3 n m R cr cv kv sv stv sn rl cs ks sl t P w0 l (w.setCell a v)) : RkI B base rw_ b3 n m R cr cv kv sv stv sn rl cs ks sl t P w0 l ((w.drewN q).setCell a v) :=
  ⟨h.box, ⟨h.rules.len, h.rules.cells⟩, h.strow, h.crow, h.krow, h.srow, h.x3, ⟨⟨h.kp.be.os, h.kp.be.tape, h.kp.be.output, h.kp.be.size, h.kp.be.block⟩, h.kp.keep⟩⟩
theorem RkI.writeK {kb kc : Nat} {ks' : List Bool} (h : RkI B base rw_ b3 n m R cr cv (.slice (some ⟨kb, 0, none⟩) m kc) sv stv sn rl cs ks sl t P w0 l w) {w' : World} (hB : B ≤ base) (hb : ButAt kb w w') (hP : P kb) (ho : w'.ownsRow base 4 1 (.slice (some ⟨kb, 0, none⟩) m kc) m (ks'.flatMap cb)) (hn : 0 < m) : RkI B base rw_ b3 n m R cr cv (.slice (some ⟨kb, 0, none⟩) m kc) sv stv sn rl cs ks' sl t P w0 l w' := by
  obtain ⟨hbr, cur', hblk⟩ := row_blk h.krow hn
  have hBr : B ≤ kb := Nat.le_trans hB hbr
  have ow : ∀ {sz k : Nat} {e : TypeId} {v : Value} {xs : List Value}, w.ownsRow base e sz v k xs → e ≠ 4 → w'.ownsRow base e sz v k xs := fun hh hne => hb.own hh (own_other' hh hblk hne)
  exact ⟨hb.keep _ _ h.box (ne_of_type h.box hblk (by decide)), h.rules.below (hb.be.mono hBr), ow h.strow (by decide), ow h.crow (by decide), ho, ow h.srow (by decide), hb.keep _ _ h.x3 (ne_of_type h.x3 hblk (by decide)), h.kp.trans (Keep.of_but hb hBr hP)⟩
theorem ends1 (h : RkI B base rw_ b3 n m R cr cv kv sv stv sn rl cs ks sl t P w0 (l.set j a) w) : RkI B base rw_ b3 n m R cr cv kv sv stv sn rl cs ks sl t P w0 (l.set j a) w := h
theorem ends2 (h : RkI B base rw_ b3 n m R cr cv kv sv stv sn rl cs ks sl t P w0 ((l.set j a).set j b) w) : RkI B base rw_ b3 n m R cr cv kv sv stv sn rl cs ks sl t P w0 (l.set j b) w := by rwa [List.set_set] at h
theorem ends3 (h : RkI B base rw_ b3 n m R cr cv kv sv stv sn rl cs ks sl t P w0 (((l.set j a).set j b).set j c) w) : RkI B base rw_ b3 n m R cr cv kv sv stv sn rl cs ks sl t P w0 (l.set j c) w := by rwa [List.set_set, List.set_set] at h
end
end Go.Proofs.YtmakkdadhhpapaaDoor
