/- Rows of trees that are being filled; what the parsers' calls answer. No walk. -/
import Derived.Test.YthlhiegbiapllaaNmPaB
import Derived.Maps.AppendAt
namespace Go.Proofs.Ythlhiegbiapllaa
open Go.RowKit
set_option linter.unusedVariables false
/-- A thing that stays where its blocks stay. -/
def StayR {α : Type} (R : World → (Nat → Prop) → α → List Value → Prop) : Prop := ∀ (w w' : World) (S S' : Nat → Prop) (a : α) (cs : List Value), R w S a cs → StayS S w w' → (∀ b, S b → b < w.heap.size → S' b) → R w' S' a cs
theorem flatten_get {sz : Nat} : ∀ (css : List (List Value)) (i j : Nat) (c : List Value) (u : Value), (∀ c ∈ css, c.length = sz) → css[i]? = some c → c[j]? = some u → css.flatten[i * sz + j]? = some u := by
  intro css
  induction css with
  | nil => intro i j c u _ h; simp at h
  | cons x l ih =>
    intro i j c u hs hc hu
    have hx := hs x (by simp)
    rw [List.flatten_cons]
    cases i with
    | zero =>
      simp at hc; subst hc
      have hj : j < x.length := (List.getElem?_eq_some_iff.1 hu).1
      rw [Nat.zero_mul, Nat.zero_add, List.getElem?_append_left hj]
      exact hu
    | succ i =>
      have := ih i j c u (fun c hc => hs c (by simp [hc])) (by simpa using hc) hu
      rw [List.getElem?_append_right (by rw [hx, Nat.succ_mul]; omega), hx, Nat.succ_mul, show i * sz + sz + j - sz = i * sz + j by omega]
      exact this
section
variable {α : Type} {R : World → (Nat → Prop) → α → List Value → Prop} {w w1 w2 : World} {base sz n : Nat} {e : TypeId} {v v' : Value} {l : List α}
theorem OwnT.nil (w : World) (base : Nat) (e : TypeId) (sz : Nat) : OwnT w base e sz R (.slice none 0 0) 0 [] := ⟨[], World.ownsRow_nil _ _ _ _, rfl, rfl, fun i a c h => by simp at h⟩
theorem OwnT.len (h : OwnT w base e sz R v n l) : l.length = n := h.choose_spec.2.2.1
theorem OwnT.slice (h : OwnT w base e sz R v n l) : ∃ A c, v = .slice A n c := by
  obtain ⟨css, ho, _⟩ := h
  rcases ho.2 with ⟨rfl, rfl⟩ | ⟨g, cap, cur, rfl, _⟩
  · exact ⟨_, _, rfl⟩
  · exact ⟨_, _, rfl⟩
theorem OwnT.butAt {c : Nat} (hR : StayR R) (h : OwnT w base e sz R v n l) (hb : ButAt c w w1) (hc : c < base) : OwnT w1 base e sz R v n l := by
  obtain ⟨css, ho, h1, h2, h3⟩ := h
  refine ⟨css, ⟨ho.1, ?_⟩, h1, h2, fun i a cs ha hcs => ⟨(h3 i a cs ha hcs).1, hR w w1 _ _ a cs (h3 i a cs ha hcs).2 ⟨hb.be.size, fun b o hs hbo => hb.keep b o hbo (by omega)⟩ (fun b hs _ => hs)⟩⟩
  rcases ho.2 with h0 | ⟨g, cap, cur, q1, q2, q3, q4⟩
  · exact .inl h0
  · exact .inr ⟨g, cap, cur, q1, q2, hb.keep g _ q3 (by omega), q4⟩
theorem OwnT.push1 (hR : StayR R) (h : OwnT w base e sz R v n l) {a : α} {c : List Value} (hc : c.length = sz) (ha : R w (fun b => base ≤ b ∧ v.ownBlock ≠ some b) a c) {o : Obj}
    (ho : w2.ownsRow base e sz v' (n + 1) (h.choose.flatten ++ c)) (hg : (w.alloc o).grownBy w2 v.ownBlock) (hv : v'.ownBlock = v.ownBlock ∨ v'.ownBlock = some (w.alloc o).heap.size) :
    OwnT w2 base e sz R v' (n + 1) (l ++ [a]) := by
  have hsp := h.choose_spec
  revert ho hsp
  generalize h.choose = css
  intro ho hsp
  obtain ⟨how, h1, h2, h3⟩ := hsp
  have hst : StayS (fun b => base ≤ b ∧ v.ownBlock ≠ some b) w w2 := ⟨by have := hg.size; simp at this; omega, fun b ob hs hbo => by
    have hlt := lt_of_block hbo
    exact (hg.block b (by simp; omega) (fun e => hs.2 e.symm)).trans (block_below hbo ((Below.refl _ _).alloc (Nat.le_refl _) o))⟩
  have hS : ∀ b, (base ≤ b ∧ v.ownBlock ≠ some b) → b < w.heap.size → (base ≤ b ∧ v'.ownBlock ≠ some b) := fun b hb hlt => ⟨hb.1, by
    rcases hv with e | e
    · rw [e]; exact hb.2
    · rw [e]; simp; omega⟩
  refine ⟨css ++ [c], ?_, by simp [h1], by simp [h2], fun i x cs hx hcs => ?_⟩
  · simpa using ho
  · by_cases hi : i < n
    · rw [List.getElem?_append_left (by omega)] at hx hcs
      exact ⟨(h3 i x cs hx hcs).1, hR w w2 _ _ x cs (h3 i x cs hx hcs).2 hst hS⟩
    · rw [List.getElem?_append_right (by omega)] at hx hcs
      have hi0 : i - l.length = 0 := by
        rcases Nat.eq_zero_or_pos (i - l.length) with e0 | e0
        · exact e0
        · rw [List.getElem?_eq_none (by simp; omega)] at hx; cases hx
      rw [hi0] at hx
      rw [show i - css.length = 0 by omega] at hcs
      simp at hx hcs
      subst hx; subst hcs
      exact ⟨hc, hR w w2 _ _ _ _ ha hst hS⟩
theorem OwnT.done (hR : StayR R) (h : OwnT w base e sz R v n l) : ∃ A cap, v = .slice A n cap ∧ n ≤ cap ∧ cap ≤ maxLen ∧ SlS w (fun b => base ≤ b) sz (R w (fun b => base ≤ b)) A n l := by
  obtain ⟨css, how, h1, h2, h3⟩ := h
  rcases how.2 with ⟨rfl, h0⟩ | ⟨g, cap, cur, rfl, hg, hh, hnc, hcm, _, _⟩
  · subst h0
    obtain rfl : l = [] := List.eq_nil_of_length_eq_zero h2
    exact ⟨none, 0, rfl, Nat.le_refl _, Nat.zero_le _, SlS.nil _ _ _ _ _⟩
  · refine ⟨some ⟨g, 0, none⟩, cap, rfl, hnc, hcm, h2, fun hn => ⟨g, 0, rfl, hg, lt_of_block hh, fun i a ha => ?_⟩⟩
    have hi : i < css.length := by have := (List.getElem?_eq_some_iff.1 ha).1; omega
    have hcs := List.getElem?_eq_getElem hi
    have h4 := h3 i a _ ha hcs
    refine ⟨css[i], hR w w _ _ a _ h4.2 (StayS.refl _ _) (fun b hb _ => hb.1), fun j u hu => ?_⟩
    have hall : ∀ c ∈ css, c.length = sz := fun c hc => by
      obtain ⟨k, hk, rfl⟩ := List.mem_iff_getElem.1 hc
      exact (h3 k _ _ (List.getElem?_eq_getElem (by omega)) (List.getElem?_eq_getElem hk)).1
    have hk := flatten_get css i j _ u hall hcs hu
    have hc := how.cells (g := g) rfl _ _ hk
    have e : ((⟨g, 0, none⟩ : Addr).add (i * sz + j)) = ⟨g, 0 + i * sz + j, none⟩ := by
      unfold Addr.add; split
      · rename_i e; rw [Nat.zero_add, e]
      · simp
    rw [e] at hc
    exact hc
theorem OwnT.lt (h : OwnT w base e sz R v n l) : ∀ k, v.ownBlock = some k → base ≤ k ∧ k < w.heap.size := h.choose_spec.1.lt
end
/-- 1 where the box at c says that nothing is wrong, else 0. -/
def onOf (c : Nat) (w : World) : Nat := match w.cell? ⟨c, 2, none⟩ with
  | some (.int _ n) => if n < 0 then 1 else 0
  | _ => 0
theorem onOf_on {c : Nat} {T : TypeId} {s : ByteArray} {i : Int} {w0 w : World} (h : Pb c T s i (-1) w0 w) : onOf c w = 1 := by
  unfold onOf; rw [h.c2]; rfl
theorem onOf_off {c : Nat} {T : TypeId} {s : ByteArray} {i : Int} {e : Nat} {w0 w : World} (h : Pb c T s i (e : Int) w0 w) : onOf c w = 0 := by
  unfold onOf; rw [h.c2]; simp
theorem own_sliceP {w : World} {base sz n : Nat} {e : TypeId} {v : Value} {xs : List Value} (h : w.ownsRow base e sz v n xs) : ∃ a c, v = .slice a n c := by
  rcases h.2 with ⟨rfl, rfl⟩ | ⟨g, cap, cur, rfl, _⟩
  · exact ⟨_, _, rfl⟩
  · exact ⟨_, _, rfl⟩
def TyR (f : Nat) (w : World) (S : Nat → Prop) (t : Ty) (cs : List Value) : Prop := TyS w S f t cs
def PartR (f : Nat) (w : World) (S : Nat → Prop) (p : Part) (cs : List Value) : Prop := PartS w S (TyS w S f) p cs
theorem stay_ty (f : Nat) : StayR (TyR f) := fun w w' S S' t cs h hst hS => TyS.stay hst hS h
theorem stay_part (f : Nat) : StayR (PartR f) := fun w w' S S' p cs h hst hS => PartS.stay h hst hS (fun a cs h => TyS.stay hst hS h)
/-- The box behind an append to a row that is not the box. -/
theorem Pb.grown {c : Nat} {T : TypeId} {s : ByteArray} {i wr : Int} {w0 w w2 : World} {base : Nat} {v : Value} {o : Obj} (h : Pb c T s i wr w0 w) (hg : (w.alloc o).grownBy w2 v.ownBlock) (hv : ∀ k, v.ownBlock = some k → base ≤ k ∧ k < w.heap.size)
    (hb : w0.heap.size ≤ base) (hc : c < base) : Pb c T s i wr w0 w2 := by
  have hlt := lt_of_block h.box
  have hz := h.bu.be.size
  have ha := h.alloc o
  refine ⟨⟨ha.bu.be.grown hg (by simp; omega) (fun k hk => by have := (hv k hk).1; omega), fun k ob hk hne => ?_⟩, ?_⟩
  · exact (hg.block k (lt_of_block (ha.bu.keep k ob hk hne)) (fun e => by have := (hv k e.symm).1; have := lt_of_block hk; omega)).trans (ha.bu.keep k ob hk hne)
  · exact (hg.block c (by simp; omega) (fun e => by have := (hv c e.symm).1; omega)).trans ha.box
theorem size_grown {w w2 : World} {o : Obj} {r : Option Nat} (hg : (w.alloc o).grownBy w2 r) : w.heap.size ≤ w2.heap.size := by have := hg.size; simp at this; omega
theorem Pb.size {c : Nat} {T : TypeId} {s : ByteArray} {i wr : Int} {w0 w : World} (h : Pb c T s i wr w0 w) : w0.heap.size ≤ w.heap.size := h.bu.be.size
theorem Pb.lt {c : Nat} {T : TypeId} {s : ByteArray} {i wr : Int} {w0 w : World} (h : Pb c T s i wr w0 w) : c < w.heap.size := lt_of_block h.box
theorem After.bad {c : Nat} {T : TypeId} {s : ByteArray} {w w' : World} {α : Type} {r : Res α} {e : Nat} (h : After c T s w r w') (hr : r = .bad e) : ∃ i : Nat, i ≤ s.size ∧ Pb c T s i e w w' := by subst hr; exact h
theorem After.ok {c : Nat} {T : TypeId} {s : ByteArray} {w w' : World} {α : Type} {r : Res α} {i : Nat} {a : α} (h : After c T s w r w') (hr : r = .ok i a) : Pb c T s i (-1) w w' := by subst hr; exact h
theorem After.of_bad {c : Nat} {T : TypeId} {s : ByteArray} {w w' : World} {α : Type} {r : Res α} {e i : Nat} (hr : r = .bad e) (hi : i ≤ s.size) (h : Pb c T s i e w w') : After c T s w r w' := by subst hr; exact ⟨i, hi, h⟩
theorem After.of_ok {c : Nat} {T : TypeId} {s : ByteArray} {w w' : World} {α : Type} {r : Res α} {i : Nat} {a : α} (hr : r = .ok i a) (h : Pb c T s i (-1) w w') : After c T s w r w' := by subst hr; exact h
/-- Lists of trees that were made behind w. -/
def TysNew (f : Nat) (w w' : World) (A : Option Addr) (n cap : Nat) (l : List Ty) : Prop := OwnT w' w.heap.size 52 3 (TyR f) (.slice A n cap) n l
/-- A row of one's own, whatever it holds. -/
def OwnAny (w : World) (base : Nat) (e : TypeId) (sz : Nat) (v : Value) (n : Nat) : Prop := ∃ xs, w.ownsRow base e sz v n xs
theorem OwnAny.butAt {c : Nat} {w w1 : World} {base sz n : Nat} {e : TypeId} {v : Value} (h : OwnAny w base e sz v n) (hb : ButAt c w w1) (hc : c < base) : OwnAny w1 base e sz v n := by
  obtain ⟨xs, h0, h1⟩ := h
  refine ⟨xs, h0, ?_⟩
  rcases h1 with h1 | ⟨g, cap, cur, q1, q2, q3, q4⟩
  · exact .inl h1
  · exact .inr ⟨g, cap, cur, q1, q2, hb.keep g _ q3 (by omega), q4⟩
theorem OwnT.any {α : Type} {R : World → (Nat → Prop) → α → List Value → Prop} {w : World} {base sz n : Nat} {e : TypeId} {v : Value} {l : List α} (h : OwnT w base e sz R v n l) : OwnAny w base e sz v n := ⟨_, h.choose_spec.1⟩
def PartsNew (f : Nat) (w w' : World) (A : Option Addr) (n cap : Nat) (l : List Part) : Prop := n ≤ cap ∧ cap ≤ maxLen ∧ SlS w' (fun b => w.heap.size ≤ b) 2 (PartS w' (fun b => w.heap.size ≤ b) (TyS w' (fun b => w.heap.size ≤ b) f)) A n l
theorem isB_true {s : ByteArray} {i : Nat} {b : UInt8} (h : isB s i b = true) : s.data.toList[i]? = some b := by simpa [isB] using h
theorem isB_false {s : ByteArray} {i : Nat} {b : UInt8} (h : isB s i b = false) : ¬ s.data.toList[i]? = some b := by simpa [isB] using h
theorem pTys_bad {s : ByteArray} {one : Nat → Res Ty} {g i e : Nat} {acc : List Ty} (h : one i = .bad e) : pTys s one (g + 1) acc i = .bad e := by unfold pTys; rw [h]; rfl
theorem pTys_end {s : ByteArray} {one : Nat → Res Ty} {g i j : Nat} {acc : List Ty} {t : Ty} (h : one i = .ok j t) (h2 : isB s j 44 = false) : pTys s one (g + 1) acc i = .ok j (acc ++ [t]) := by
  unfold pTys; rw [h]; simp only [Res.bind]; rw [if_neg (isB_false h2)]
theorem pTys_no {s : ByteArray} {one : Nat → Res Ty} {g i j e : Nat} {acc : List Ty} {t : Ty} (h : one i = .ok j t) (h2 : isB s j 44 = true) (h3 : needB s [32] (j + 1) = .bad e) : pTys s one (g + 1) acc i = .bad e := by
  unfold pTys; rw [h]; simp only [Res.bind]; rw [if_pos (isB_true h2), h3]
theorem pTys_go {s : ByteArray} {one : Nat → Res Ty} {g i j k : Nat} {u : Unit} {acc : List Ty} {t : Ty} (h : one i = .ok j t) (h2 : isB s j 44 = true) (h3 : needB s [32] (j + 1) = .ok k u) : pTys s one (g + 1) acc i = pTys s one g (acc ++ [t]) k := by
  rw [pTys, h]; simp only [Res.bind]; rw [if_pos (isB_true h2), h3]
theorem need_two {s : ByteArray} {a b : UInt8} {j : Nat} (h : isB s j a = true) : needB s [a, b] j = needB s [b] (j + 1) := by rw [needB, if_pos (isB_true h)]
theorem nIs_yes (c : Nat) (s : ByteArray) (i : Nat) (b : UInt8) (w : World) (hs : s.size ≤ 8000) (hi : i ≤ s.size) (hv : isB s i b = true) (h : w.heap[c]? = some (.cells #[.string s, .int .i64 i, .int .i64 (-1)] 58 (0, 0))) :
    Calls Try.prog 30 #[.pointer (some ⟨c, 0, none⟩), .int .u8 b.toNat] w fun e w' => e = .returned (.bool true) ∧ Pb c 58 s i (-1) w w' := hv ▸ nIs_on c s i b w hs h
theorem nIs_no (c : Nat) (s : ByteArray) (i : Nat) (b : UInt8) (w : World) (hs : s.size ≤ 8000) (hi : i ≤ s.size) (hv : isB s i b = false) (h : w.heap[c]? = some (.cells #[.string s, .int .i64 i, .int .i64 (-1)] 58 (0, 0))) :
    Calls Try.prog 30 #[.pointer (some ⟨c, 0, none⟩), .int .u8 b.toNat] w fun e w' => e = .returned (.bool false) ∧ Pb c 58 s i (-1) w w' := hv ▸ nIs_on c s i b w hs h
theorem rIs_yes (c : Nat) (s : ByteArray) (i : Nat) (b : UInt8) (w : World) (hs : s.size ≤ 8000) (hi : i ≤ s.size) (hv : isB s i b = true) (h : w.heap[c]? = some (.cells #[.string s, .int .i64 i, .int .i64 (-1)] 67 (0, 0))) :
    Calls Try.prog 35 #[.pointer (some ⟨c, 0, none⟩), .string ⟨#[b]⟩] w fun e w' => e = .returned (.bool true) ∧ Pb c 67 s ((i + 1 : Nat) : Int) (-1) w w' := by
  have := rIs_on c s i b w hs hi h
  rw [hv, if_pos rfl] at this
  exact this
theorem rIs_no (c : Nat) (s : ByteArray) (i : Nat) (b : UInt8) (w : World) (hs : s.size ≤ 8000) (hi : i ≤ s.size) (hv : isB s i b = false) (h : w.heap[c]? = some (.cells #[.string s, .int .i64 i, .int .i64 (-1)] 67 (0, 0))) :
    Calls Try.prog 35 #[.pointer (some ⟨c, 0, none⟩), .string ⟨#[b]⟩] w fun e w' => e = .returned (.bool false) ∧ Pb c 67 s i (-1) w w' := by
  have := rIs_on c s i b w hs hi h
  rw [hv, if_neg (by simp)] at this
  exact this
end Go.Proofs.Ythlhiegbiapllaa
