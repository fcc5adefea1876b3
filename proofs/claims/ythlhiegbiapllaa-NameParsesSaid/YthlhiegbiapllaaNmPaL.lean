/- The parser of printed symbols in plain Lean, and trees that lie in a set of blocks. No program. -/
import Derived.Test.YthlhiegbiapllaaNmText
import Derived.Test.YthlhiegbiapllaaNmSame
namespace Go.Proofs.Ythlhiegbiapllaa
open Go.RowKit
set_option linter.unusedVariables false
inductive Res (α : Type) where
  | bad (e : Nat)
  | ok (i : Nat) (a : α)
def Res.bind {α β : Type} (r : Res α) (k : Nat → α → Res β) : Res β := match r with
  | .bad e => .bad e
  | .ok i a => k i a
/-- A byte of an identifier at place j of it. -/
def okId (j : Nat) (c : UInt8) : Bool := lettB c || (decide (0 < j) && digB c)
def idK : Nat → List UInt8 → Nat
  | _, [] => 0
  | j, c :: r => if okId j c then idK (j + 1) r + 1 else 0
theorem idK_is : ∀ (l : List UInt8) (j k : Nat), k ≤ l.length → (∀ i c, i < k → l[i]? = some c → okId (j + i) c = true) → (∀ c, l[k]? = some c → okId (j + k) c = false) → idK j l = k
  | [], j, k, hk, _, _ => by simp at hk; subst hk; rfl
  | c :: r, j, 0, _, _, h => by
    have := h c rfl
    rw [idK, if_neg]
    simpa using this
  | c :: r, j, k + 1, hk, h1, h2 => by
    have h0 := h1 0 c (by omega) rfl
    rw [idK, if_pos (by simpa using h0), idK_is r (j + 1) k (by simpa using hk) (fun i d hi hd => by have := h1 (i + 1) d (by omega) (by simpa using hd); rwa [show j + 1 + i = j + (i + 1) by omega])
      (fun d hd => by have := h2 d (by simpa using hd); rwa [show j + 1 + k = j + (k + 1) by omega])]
theorem idK_le : ∀ (l : List UInt8) (j : Nat), idK j l ≤ l.length
  | [], _ => Nat.le_refl _
  | c :: r, j => by
    have := idK_le r (j + 1)
    unfold idK
    split
    · simp; omega
    · omega
/-- The length of the identifier at i. -/
def idL (s : ByteArray) (i : Nat) : Nat := idK 0 (s.data.toList.drop i)
theorem idL_le (s : ByteArray) (i : Nat) (h : i ≤ s.size) : i + idL s i ≤ s.size := by
  have := idK_le (s.data.toList.drop i) 0
  unfold idL
  rw [List.length_drop, str_len] at this
  omega
theorem idL_is (s : ByteArray) (i k : Nat) (hk : i + k ≤ s.size) (h1 : ∀ j, j < k → ∀ c, s.data.toList[i + j]? = some c → okId j c = true) (h2 : ∀ c, s.data.toList[i + k]? = some c → okId k c = false) : idL s i = k := by
  unfold idL
  refine idK_is _ 0 k (by rw [List.length_drop, str_len]; omega) (fun j c hj hc => ?_) (fun c hc => ?_)
  · rw [Nat.zero_add]; exact h1 j hj c (by rwa [List.getElem?_drop] at hc)
  · rw [Nat.zero_add]; exact h2 c (by rwa [List.getElem?_drop] at hc)
/-- The bytes that have to be there. -/
def needB (s : ByteArray) : List UInt8 → Nat → Res Unit
  | [], i => .ok i ()
  | b :: t, i => if s.data.toList[i]? = some b then needB s t (i + 1) else .bad i
theorem needB_ok (s : ByteArray) : ∀ (t : List UInt8) (i j : Nat) (u : Unit), i ≤ s.size → needB s t i = .ok j u → j = i + t.length ∧ j ≤ s.size
  | [], i, j, u, hi, h => by cases h; exact ⟨rfl, hi⟩
  | b :: t, i, j, u, hi, h => by
    unfold needB at h
    split at h
    · rename_i hb
      have hlt : i < s.size := by have := (List.getElem?_eq_some_iff.1 hb).1; rwa [str_len] at this
      have := needB_ok s t (i + 1) j u (by omega) h
      rw [List.length_cons]; omega
    · cases h
def pTys (s : ByteArray) (one : Nat → Res Ty) : Nat → List Ty → Nat → Res (List Ty)
  | 0, _, i => .bad i
  | g + 1, acc, i => (one i).bind fun j t => if s.data.toList[j]? = some 44 then (needB s [32] (j + 1)).bind fun k _ => pTys s one g (acc ++ [t]) k else .ok j (acc ++ [t])
def pArgs (s : ByteArray) (one : Nat → Res Ty) (i : Nat) : Res (List Ty) :=
  if s.data.toList[i]? = some 60 then (pTys s one (s.size + 1) [] (i + 1)).bind fun j l => (needB s [62] j).bind fun k _ => .ok k l else .ok i []
def pParts (s : ByteArray) (one : Nat → Res Ty) : Nat → List Part → ByteArray → Nat → Res (List Part)
  | 0, _, _, i => .bad i
  | g + 1, acc, x, i => (pArgs s one i).bind fun j l => if s.data.toList[j]? = some 46 then
      (if idL s (j + 1) = 0 then .bad (j + 1) else pParts s one g (acc ++ [(x, l)]) (s.extract (j + 1) (j + 1 + idL s (j + 1))) (j + 1 + idL s (j + 1))) else .ok j (acc ++ [(x, l)])
def refS : ByteArray := ⟨#[114, 101, 102]⟩
def listS : ByteArray := ⟨#[108, 105, 115, 116]⟩
def funcS : ByteArray := ⟨#[102, 117, 110, 99]⟩
def pRef (s : ByteArray) (one : Nat → Res Ty) (k : Int) (i : Nat) : Res Ty := (needB s [32] i).bind fun j _ => (one j).bind fun m t => .ok m (Ty.mk k [] [t])
def pTakes (s : ByteArray) (one : Nat → Res Ty) (i : Nat) : Res (List Ty) := if s.data.toList[i]? = some 41 then .ok i [] else pTys s one (s.size + 1) [] i
def pFunc (s : ByteArray) (one : Nat → Res Ty) (i : Nat) : Res Ty :=
  (needB s [40] i).bind fun j _ => (pTakes s one j).bind fun k l => (needB s [41, 32] k).bind fun m _ => (one m).bind fun q t => .ok q (Ty.mk 4 [] (l ++ [t]))
def pOne (s : ByteArray) : Nat → Nat → Res Ty
  | 0, i => .bad i
  | f + 1, i => if idL s i = 0 then .bad i
    else if s.extract i (i + idL s i) = refS then pRef s (pOne s f) 2 (i + idL s i)
    else if s.extract i (i + idL s i) = listS then pRef s (pOne s f) 3 (i + idL s i)
    else if s.extract i (i + idL s i) = funcS then pFunc s (pOne s f) (i + idL s i)
    else (pParts s (pOne s f) (s.size + 1) [] (s.extract i (i + idL s i)) (i + idL s i)).bind fun j l => .ok j (Ty.mk 1 l [])
def pName (s : ByteArray) : Res (List Part) := if idL s 0 = 0 then .bad 0 else pParts s (pOne s 12) (s.size + 1) [] (s.extract 0 (0 + idL s 0)) (0 + idL s 0)
def pSym (s : ByteArray) : Res Sym :=
  (pName s).bind fun i a => (needB s [40] i).bind fun j _ => (pTakes s (pOne s 12) j).bind fun k l => (needB s [41] k).bind fun m _ => if m < s.size then .bad m else .ok m ⟨a, l⟩
/-- Where a result goes on, it goes on within the string, and not before. -/
def Within {α : Type} (r : Res α) (i n : Nat) : Prop := match r with
  | .bad e => e ≤ n
  | .ok j _ => i ≤ j ∧ j ≤ n
theorem Within.bind {α β : Type} {r : Res α} {k : Nat → α → Res β} {i n : Nat} (h : Within r i n) (hk : ∀ j a, i ≤ j → j ≤ n → Within (k j a) i n) : Within (r.bind k) i n := by
  cases r with
  | bad e => exact h
  | ok j a => exact hk j a h.1 h.2
theorem Within.mono {α : Type} {r : Res α} {i i' n : Nat} (h : Within r i' n) (hi : i ≤ i') : Within r i n := by
  cases r with
  | bad e => exact h
  | ok j a => exact ⟨Nat.le_trans hi h.1, h.2⟩
theorem Within.ok {α : Type} {i j n : Nat} {a : α} (h1 : i ≤ j) (h2 : j ≤ n) : Within (.ok j a) i n := ⟨h1, h2⟩
theorem needB_from (s : ByteArray) : ∀ (t : List UInt8) (i : Nat), i ≤ s.size → Within (needB s t i) i s.size
  | [], i, hi => ⟨Nat.le_refl _, hi⟩
  | b :: t, i, hi => by
    unfold needB
    split
    · rename_i hb
      have hlt : i < s.size := by have := (List.getElem?_eq_some_iff.1 hb).1; rwa [str_len] at this
      exact (needB_from s t (i + 1) (by omega)).mono (by omega)
    · exact hi
def OneFrom (s : ByteArray) (one : Nat → Res Ty) : Prop := ∀ i, i ≤ s.size → Within (one i) i s.size
theorem get_lt {s : ByteArray} {i : Nat} {b : UInt8} (h : s.data.toList[i]? = some b) : i < s.size := by have := (List.getElem?_eq_some_iff.1 h).1; rwa [str_len] at this
theorem pTys_from {s : ByteArray} {one : Nat → Res Ty} (h : OneFrom s one) : ∀ (g : Nat) (acc : List Ty) (i : Nat), i ≤ s.size → Within (pTys s one g acc i) i s.size
  | 0, _, i, hi => hi
  | g + 1, acc, i, hi => by
    unfold pTys
    refine (h i hi).bind fun j t h1 h2 => ?_
    split
    · rename_i hb
      have := get_lt hb
      exact ((needB_from s [32] (j + 1) (by omega)).bind fun k _ h3 h4 => (pTys_from h g _ k h4).mono h3).mono (by omega)
    · exact ⟨h1, h2⟩
theorem pArgs_from {s : ByteArray} {one : Nat → Res Ty} (h : OneFrom s one) (i : Nat) (hi : i ≤ s.size) : Within (pArgs s one i) i s.size := by
  unfold pArgs
  split
  · rename_i hb
    have := get_lt hb
    exact ((pTys_from h _ _ (i + 1) (by omega)).bind fun j l h1 h2 => ((needB_from s [62] j h2).bind fun k _ h3 h4 => Within.ok h3 h4).mono h1).mono (by omega)
  · exact ⟨Nat.le_refl _, hi⟩
theorem pParts_from {s : ByteArray} {one : Nat → Res Ty} (h : OneFrom s one) : ∀ (g : Nat) (acc : List Part) (x : ByteArray) (i : Nat), i ≤ s.size → Within (pParts s one g acc x i) i s.size
  | 0, _, _, i, hi => hi
  | g + 1, acc, x, i, hi => by
    unfold pParts
    refine (pArgs_from h i hi).bind fun j l h1 h2 => ?_
    split
    · rename_i hb
      have hj := get_lt hb
      split
      · exact hj
      · exact (pParts_from h g _ _ _ (idL_le s (j + 1) (by omega))).mono (by omega)
    · exact ⟨h1, h2⟩
theorem pTakes_from {s : ByteArray} {one : Nat → Res Ty} (h : OneFrom s one) (i : Nat) (hi : i ≤ s.size) : Within (pTakes s one i) i s.size := by
  unfold pTakes
  split
  · exact ⟨Nat.le_refl _, hi⟩
  · exact pTys_from h _ _ i hi
theorem pOne_from (s : ByteArray) : ∀ (f : Nat), OneFrom s (pOne s f)
  | 0, i, hi => hi
  | f + 1, i, hi => by
    have IH := pOne_from s f
    have hle := idL_le s i hi
    unfold pOne
    split
    · exact hi
    · refine Within.mono (i' := i + idL s i) ?_ (by omega)
      have hr : ∀ k, Within (pRef s (pOne s f) k (i + idL s i)) (i + idL s i) s.size := fun k => (needB_from s [32] _ hle).bind fun j _ h1 h2 => ((IH j h2).bind fun m t h3 h4 => Within.ok h3 h4).mono h1
      split
      · exact hr 2
      split
      · exact hr 3
      split
      · exact (needB_from s [40] _ hle).bind fun j _ h1 h2 => ((pTakes_from IH j h2).bind fun k l h3 h4 => ((needB_from s [41, 32] k h4).bind fun m _ h5 h6 => ((IH m h6).bind fun q t h7 h8 => Within.ok h7 h8).mono h5).mono h3).mono h1
      · exact (pParts_from IH _ _ _ _ hle).bind fun j l h1 h2 => Within.ok h1 h2
/- Trees in a set of blocks. -/
structure SlS {α : Type} (w : World) (S : Nat → Prop) (sz : Nat) (R : α → List Value → Prop) (A : Option Addr) (n : Nat) (l : List α) : Prop where
  len : l.length = n
  cells : 0 < n → ∃ b o, A = some ⟨b, o, none⟩ ∧ S b ∧ b < w.heap.size ∧ ∀ i a, l[i]? = some a → ∃ cs : List Value, R a cs ∧ ∀ j v, cs[j]? = some v → w.cell? ⟨b, o + i * sz + j, none⟩ = some v
def PartS (w : World) (S : Nat → Prop) (R : Ty → List Value → Prop) (p : Part) (cs : List Value) : Prop :=
  ∃ A n cap, cs = [.string p.1, .slice A n cap] ∧ p.1.size ≤ maxLen ∧ n ≤ cap ∧ cap ≤ maxLen ∧ SlS w S 3 R A n p.2
def TyS (w : World) (S : Nat → Prop) : Nat → Ty → List Value → Prop
  | 0, _, _ => False
  | k + 1, t, cs => ∃ A n cap A' n' cap', cs = [.int .i64 t.kind, .slice A n cap, .slice A' n' cap'] ∧ n ≤ cap ∧ cap ≤ maxLen ∧ n' ≤ cap' ∧ cap' ≤ maxLen ∧
      SlS w S 2 (PartS w S (TyS w S k)) A n t.name ∧ SlS w S 3 (TyS w S k) A' n' t.of
/-- The blocks in S stay. -/
def StayS (S : Nat → Prop) (w w' : World) : Prop := w.heap.size ≤ w'.heap.size ∧ ∀ b o, S b → w.heap[b]? = some o → w'.heap[b]? = some o
section
variable {α : Type} {w w' : World} {S S' : Nat → Prop} {sz n : Nat} {R R' : α → List Value → Prop} {A : Option Addr} {l : List α}
theorem SlS.nil (w : World) (S : Nat → Prop) (sz : Nat) (R : α → List Value → Prop) (A : Option Addr) : SlS w S sz R A 0 [] := ⟨rfl, fun h => absurd h (by omega)⟩
theorem cell_stay {b i : Nat} (h : StayS S w w') (hb : S b) (hlt : b < w.heap.size) : w'.cell? ⟨b, i, none⟩ = w.cell? ⟨b, i, none⟩ := by
  have h1 := h.2 b _ hb (Array.getElem?_eq_getElem hlt)
  simp only [World.cell?, h1, Array.getElem?_eq_getElem hlt]
theorem SlS.stay (h : SlS w S sz R A n l) (hb : StayS S w w') (hS : ∀ b, S b → b < w.heap.size → S' b) (hR : ∀ a, a ∈ l → ∀ cs, R a cs → R' a cs) : SlS w' S' sz R' A n l := by
  refine ⟨h.len, fun hn => ?_⟩
  obtain ⟨b, o, e, hs, hlt, hc⟩ := h.cells hn
  refine ⟨b, o, e, hS b hs hlt, by have := hb.1; omega, fun i a ha => ?_⟩
  obtain ⟨cs, h1, h2⟩ := hc i a ha
  exact ⟨cs, hR a (List.mem_of_getElem? ha) cs h1, fun j v hv => (cell_stay hb hs hlt).trans (h2 j v hv)⟩
theorem SlS.toP {B : Nat} {R' : α → List Value → Prop} (h : SlS w S sz R A n l) (hS : ∀ b, S b → b < w.heap.size → b < B) (hR : ∀ a, a ∈ l → ∀ cs, R a cs → R' a cs) : SlP w B sz R' A n l := by
  refine ⟨h.len, fun hn => ?_⟩
  obtain ⟨b, o, e, hs, hlt, hc⟩ := h.cells hn
  refine ⟨b, o, e, hS b hs hlt, fun i a ha => ?_⟩
  obtain ⟨cs, h1, h2⟩ := hc i a ha
  exact ⟨cs, hR a (List.mem_of_getElem? ha) cs h1, h2⟩
end
theorem PartS.stay {w w' : World} {S S' : Nat → Prop} {R R' : Ty → List Value → Prop} {p : Part} {cs : List Value} (h : PartS w S R p cs) (hb : StayS S w w') (hS : ∀ b, S b → b < w.heap.size → S' b) (hR : ∀ a cs, R a cs → R' a cs) : PartS w' S' R' p cs := by
  obtain ⟨A, n, cap, e, h1, h2, h3, h4⟩ := h
  exact ⟨A, n, cap, e, h1, h2, h3, h4.stay hb hS (fun a _ => hR a)⟩
theorem TyS.stay {w w' : World} {S S' : Nat → Prop} (hb : StayS S w w') (hS : ∀ b, S b → b < w.heap.size → S' b) : ∀ {k : Nat} {t : Ty} {cs : List Value}, TyS w S k t cs → TyS w' S' k t cs
  | 0, _, _, h => h
  | k + 1, t, cs, h => by
    obtain ⟨A, n, cap, A', n', cap', e, h1, h2, h3, h4, h5, h6⟩ := h
    exact ⟨A, n, cap, A', n', cap', e, h1, h2, h3, h4, h5.stay hb hS (fun a _ cs h => h.stay hb hS (fun a cs h => TyS.stay hb hS h)), h6.stay hb hS (fun a _ cs h => TyS.stay hb hS h)⟩
theorem TyS.toP {w : World} {S : Nat → Prop} {B : Nat} (hS : ∀ b, S b → b < w.heap.size → b < B) : ∀ {k : Nat} {t : Ty} {cs : List Value}, TyS w S k t cs → TyIn w B k t cs
  | 0, _, _, h => h
  | k + 1, t, cs, h => by
    obtain ⟨A, n, cap, A', n', cap', e, h1, h2, h3, h4, h5, h6⟩ := h
    refine ⟨A, n, cap, A', n', cap', e, h1, h2, h3, h4, h5.toP hS (fun a _ cs h => ?_), h6.toP hS (fun a _ cs h => TyS.toP hS h)⟩
    obtain ⟨A, n, cap, e, h1, h2, h3, h4⟩ := h
    exact ⟨A, n, cap, e, h1, h2, h3, h4.toP hS (fun a _ cs h => TyS.toP hS h)⟩
theorem StayS.refl (S : Nat → Prop) (w : World) : StayS S w w := ⟨Nat.le_refl _, fun _ _ _ h => h⟩
theorem StayS.trans {S : Nat → Prop} {w w1 w2 : World} (h : StayS S w w1) (h' : StayS S w1 w2) : StayS S w w2 := ⟨Nat.le_trans h.1 h'.1, fun b o hs hb => h'.2 b o hs (h.2 b o hs hb)⟩
theorem TyS.deeper {w : World} {S : Nat → Prop} : ∀ {k : Nat} {t : Ty} {cs : List Value}, TyS w S k t cs → TyS w S (k + 1) t cs
  | 0, _, _, h => h.elim
  | k + 1, t, cs, h => by
    obtain ⟨A, n, cap, A', n', cap', e, h1, h2, h3, h4, h5, h6⟩ := h
    exact ⟨A, n, cap, A', n', cap', e, h1, h2, h3, h4, h5.stay (StayS.refl _ _) (fun _ h _ => h) (fun a _ cs h => h.stay (StayS.refl _ _) (fun _ h _ => h) (fun a cs h => TyS.deeper h)), h6.stay (StayS.refl _ _) (fun _ h _ => h) (fun a _ cs h => TyS.deeper h)⟩
/-- A row of one's own that is being filled: its elements are trees in the blocks from base on, other than the row's. -/
def OwnT {α : Type} (w : World) (base : Nat) (e : TypeId) (sz : Nat) (R : World → (Nat → Prop) → α → List Value → Prop) (v : Value) (n : Nat) (l : List α) : Prop :=
  ∃ css : List (List Value), w.ownsRow base e sz v n css.flatten ∧ css.length = n ∧ l.length = n ∧ ∀ (i : Nat) (a : α) (c : List Value), l[i]? = some a → css[i]? = some c → c.length = sz ∧ R w (fun b => base ≤ b ∧ v.ownBlock ≠ some b) a c
end Go.Proofs.Ythlhiegbiapllaa
