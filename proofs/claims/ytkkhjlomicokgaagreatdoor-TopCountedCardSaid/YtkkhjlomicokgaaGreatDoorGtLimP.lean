/- What is taken of the levels. Plain law, and pour where more was taken than there was. -/
import Derived.Test.YtkkhjlomicokgaaGreatDoorGtFit
import Derived.Test.YtkkhjlomicokgaaGreatDoorTpE
import Derived.Test.YtkkhjlomicokgaaGreatDoorTpB
namespace Go.Proofs.YtkkhjlomicokgaaGreatDoor
open Go.RowKit Go.Shelf
set_option linter.unusedVariables false
set_option linter.unusedSimpArgs false
attribute [local go_sem] Oper.semAt_some
def lv0 : Lv := ⟨0, 0, 0⟩
def pourI (Q : List Qt) (t : Int) (V : List Lv) (i : Fin Q.length) : Lv := pourL Q[i] t (V[i.val]?.getD lv0)
def noneLeft (Q : List Qt) (V : List Lv) (t : Int) (i : Fin Q.length) : Bool := (pourI Q t V i).h == 0
/-- The first quota that fits and has none. -/
def limF (Q : List Qt) (V : List Lv) (key : ByteArray) (t : Int) : Option (Fin Q.length) := (fitIx Q key Q.length).find? (noneLeft Q V t)
/-- What is taken, each level once. -/
def limV (Q : List Qt) (V : List Lv) (t : Int) (l : List (Fin Q.length)) : List Lv := l.foldl (fun V i => V.set i.val (pourI Q t V i).less) V
theorem limV_snoc (Q : List Qt) (V : List Lv) (t : Int) (l : List (Fin Q.length)) (i : Fin Q.length) : limV Q V t (l ++ [i]) = (limV Q V t l).set i.val (pourI Q t (limV Q V t l) i).less := by
  unfold limV; rw [List.foldl_append]; rfl
/-- A level from which no more than m was taken too much. -/
structure LvW (m : Nat) (t : Int) (q : Qt) (x : Lv) : Prop where
  b : bkErr q.s q.a q.e = 0
  h0 : -(m : Int) ≤ x.h
  h1 : x.h ≤ q.s
  t0 : 0 ≤ x.t
  t1 : x.t ≤ t
  r0 : 0 ≤ x.r
  r1 : x.r ≤ q.e - 1
theorem LvW.more {m k : Nat} {t : Int} {q : Qt} {x : Lv} (h : LvW m t q x) (hk : m ≤ k) : LvW k t q x := ⟨h.b, by have := h.h0; omega, h.h1, h.t0, h.t1, h.r0, h.r1⟩
theorem LvW.pour {m : Nat} {t : Int} {q : Qt} {x : Lv} (h : LvW m t q x) : LvW m t q (pourL q t x) := by
  obtain ⟨b1, b2, b3, b4, b5, b6⟩ := bkOk h.b
  have hm : 0 ≤ (t - x.t + x.r) / q.e * q.a := Int.mul_nonneg (Int.ediv_nonneg (by have := h.r0; have := h.t1; omega) (by omega)) (by omega)
  have hr := Int.emod_nonneg (t - x.t + x.r) (show q.e ≠ 0 by omega)
  have hr2 := Int.emod_lt_of_pos (t - x.t + x.r) (show 0 < q.e by omega)
  have hh := h.h0
  refine ⟨h.b, ?_, ?_, by have := h.t0; have := h.t1; show 0 ≤ t; omega, Int.le_refl _, hr, by show _ % _ ≤ _; omega⟩
  · show _ ≤ pH _ _ _ _ _ _ _
    unfold pH; split <;> omega
  · show pH _ _ _ _ _ _ _ ≤ _
    unfold pH; split <;> omega
theorem LvW.less {m : Nat} {t : Int} {q : Qt} {x : Lv} (h : LvW m t q x) : LvW (m + 1) t q x.less :=
  ⟨h.b, by have := h.h0; show _ ≤ x.h - 1; omega, by have := h.h1; show x.h - 1 ≤ _; omega, h.t0, h.t1, h.r0, h.r1⟩
theorem limV_len (Q : List Qt) (V : List Lv) (t : Int) : ∀ l : List (Fin Q.length), (limV Q V t l).length = V.length := fun l => by
  unfold limV
  induction l generalizing V with
  | nil => rfl
  | cons i l ih => rw [List.foldl_cons, ih, List.length_set]
theorem get_fin {Q : List Qt} (j : Fin Q.length) {i : Nat} (hi : j.val = i) {q : Qt} (hq : Q[i]? = some q) : Q[j] = q := by
  subst hi
  rw [List.getElem?_eq_getElem j.isLt] at hq
  exact Option.some.inj hq
theorem limV_ok {Q : List Qt} {V : List Lv} {t : Int} (hV : V.length = Q.length) (h : ∀ (i : Nat) q x, Q[i]? = some q → V[i]? = some x → LvW 0 t q x) : ∀ (m : Nat) (l : List (Fin Q.length)), l.length = m → ∀ (i : Nat) q x, Q[i]? = some q → (limV Q V t l)[i]? = some x → LvW m t q x
  | 0, l, hl => by
    rw [List.length_eq_zero_iff.1 hl]
    exact h
  | m + 1, l, hl => by
    have hne : l ≠ [] := by intro e; rw [e] at hl; simp at hl
    have e := (List.dropLast_concat_getLast hne).symm
    intro i q x hq hx
    have ih := limV_ok hV h m l.dropLast (by rw [List.length_dropLast]; omega)
    rw [e, limV_snoc] at hx
    by_cases hi : (l.getLast hne).val = i
    · have hlt : i < Q.length := by rw [← hi]; exact (l.getLast hne).isLt
      obtain ⟨y, hy⟩ : ∃ y, (limV Q V t l.dropLast)[i]? = some y := ⟨_, List.getElem?_eq_getElem (by rw [limV_len, hV]; exact hlt)⟩
      have hq' : Q[l.getLast hne] = q := by
        exact get_fin _ hi hq
      rw [← hi, List.getElem?_set_self (by rw [limV_len, hV]; exact (l.getLast hne).isLt)] at hx
      obtain rfl := Option.some.inj hx
      unfold pourI
      rw [hq', hi, hy]
      exact (ih i q y hq hy).pour.less
    · rw [List.getElem?_set_ne hi] at hx
      exact (ih i q x hq hx).more (Nat.le_succ m)
set_option maxHeartbeats 1000000 in
theorem pour_w (m : Nat) (hm : m ≤ 1000) (q : Qt) (x : Lv) (at_ : Int) (w : World) (H : LvW m at_ q x) (hx1 : at_ ≤ 3155759999) :
    Calls Tryz.prog 52 #[v3 q.s q.a q.e, v3 x.h x.t x.r, .int .i64 at_] w fun y w' => y = .returned (pourV q.s q.a q.e x.h x.t x.r at_) ∧ Below w.heap.size w w' := by
  obtain ⟨hb, l1, l2, l3, l4, l5, l6⟩ := H
  obtain ⟨b1, b2, b3, b4, b5, b6⟩ := bkOk hb
  obtain ⟨name, key, s, a, e⟩ := q
  obtain ⟨h, t, r⟩ := x
  simp only at *
  obtain ⟨m1, m2⟩ := mul_bd (at_ - t + r) a e (by omega) (by omega) b5 (by omega) b4
  have E := hide (show pourV s a e h t r at_ = v3 (if h + (at_ - t + r) / e * a < s then h + (at_ - t + r) / e * a else s) at_ ((at_ - t + r) % e) from rfl)
  unfold v3 at E ⊢
  clear hb
  by_cases hlt : h + (at_ - t + r) / e * a < s
  all_goals
    go_enter Tryz.func52, Tryz.ntmps52
    go_wp2
    go_region
    all_goals go_wp2
    all_goals go_returns
    all_goals (exact ⟨by rw [E.out]; simp; omega, by go_grown⟩)
theorem fm_set3 (V : List Lv) (k : Nat) (x y : Lv) (hx : V[k]? = some x) (h0 : Value) : (V.set k y).flatMap Lv.cs = (((((V.flatMap Lv.cs).set (k * 3) h0).set (k * 3 + 1) (.int .i64 y.t)).set (k * 3 + 2) (.int .i64 y.r)).set (k * 3) (.int .i64 y.h)) := by
  have hlt := (List.getElem?_eq_some_iff.1 hx).1
  have hl : ∀ a : Lv, (Lv.cs a).length = 3 := fun _ => rfl
  have e1 := fm_set (f := Lv.cs) hl V k 0 x ⟨y.h, x.t, x.r⟩ (.int .i64 y.h) (by decide) hx rfl
  have e2 := fm_set (f := Lv.cs) hl (V.set k ⟨y.h, x.t, x.r⟩) k 1 ⟨y.h, x.t, x.r⟩ ⟨y.h, y.t, x.r⟩ (.int .i64 y.t) (by decide) (List.getElem?_set_self hlt) rfl
  have e3 := fm_set (f := Lv.cs) hl ((V.set k ⟨y.h, x.t, x.r⟩).set k ⟨y.h, y.t, x.r⟩) k 2 ⟨y.h, y.t, x.r⟩ y (.int .i64 y.r) (by decide) (List.getElem?_set_self (by rw [List.length_set]; exact hlt)) rfl
  rw [e2, e1, List.set_set, List.set_set, Nat.add_zero] at e3
  rw [e3]
  have c : ∀ (l : List Value) (i j : Nat) (a b : Value), i ≠ j → (l.set i a).set j b = (l.set j b).set i a := fun l i j a b h => List.set_comm a b h
  rw [c _ (k * 3 + 2) (k * 3) _ _ (by omega), c _ (k * 3 + 1) (k * 3) _ _ (by omega), List.set_set]
end Go.Proofs.YtkkhjlomicokgaaGreatDoor
