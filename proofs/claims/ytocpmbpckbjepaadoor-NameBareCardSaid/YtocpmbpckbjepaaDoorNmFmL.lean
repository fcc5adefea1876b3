/- Plain law of families: two keys part strings alike. -/
import Derived.Test.YtocpmbpckbjepaaDoorNmGC
import Derived.Test.YtocpmbpckbjepaaDoorNmBare
import Derived.Test.YtocpmbpckbjepaaDoorNmShl
namespace Go.Proofs.YtocpmbpckbjepaaDoor
open Go.RowKit
set_option linter.unusedVariables false
set_option linter.unusedSimpArgs false
/-- The program's key of a symbol: its identifiers behind dots. -/
def kO (y : Sym) : List UInt8 := y.name.flatMap fun p => 46 :: p.1.data.toList
/-- The reference's: the bare symbol, mangled. -/
noncomputable def kR (y : Sym) : List UInt8 := 43 :: mgSym (bareS y)
theorem split46 {r1 r2 : List UInt8} (hr1 : ∀ c, r1.head? = some c → c = 46) (hr2 : ∀ c, r2.head? = some c → c = 46) : ∀ (d1 d2 : List UInt8), (∀ c ∈ d1, c ≠ 46) → (∀ c ∈ d2, c ≠ 46) → d1 ++ r1 = d2 ++ r2 → d1 = d2 ∧ r1 = r2
  | [], [], _, _, h => ⟨rfl, h⟩
  | [], c :: d2, _, h2, h => absurd (hr1 c (by rw [show r1 = c :: (d2 ++ r2) from h]; rfl)) (h2 c (by simp))
  | c :: d1, [], h1, _, h => absurd (hr2 c (by rw [show r2 = c :: (d1 ++ r1) from h.symm]; rfl)) (h1 c (by simp))
  | c :: d1, c' :: d2, h1, h2, h => by
    rw [List.cons_append, List.cons_append, List.cons.injEq] at h
    obtain ⟨rfl, h⟩ := h
    obtain ⟨rfl, e⟩ := split46 hr1 hr2 d1 d2 (fun c hc => h1 c (by simp [hc])) (fun c hc => h2 c (by simp [hc])) h
    exact ⟨rfl, e⟩
theorem text_46 {s : ByteArray} (h : textE s = 0) : ∀ c ∈ s.data.toList, c ≠ 46 := by
  unfold textE at h
  split at h; · cases h
  split at h; · cases h
  split at h; · cases h
  split at h
  · rename_i ha
    intro c hc e
    have := List.all_eq_true.1 ha c hc
    rw [e] at this
    revert this
    decide
  · cases h
theorem dots_head (l : List Part) : ∀ c, (l.flatMap fun p => 46 :: p.1.data.toList).head? = some c → c = 46 := by
  intro c hc
  cases l with
  | nil => cases hc
  | cons p l => simp at hc; exact hc.symm
theorem kO_inj : ∀ (l l' : List Part), (∀ p ∈ l, textE p.1 = 0) → (∀ p ∈ l', textE p.1 = 0) → (l.flatMap fun p => 46 :: p.1.data.toList) = (l'.flatMap fun p => 46 :: p.1.data.toList) → l.map bareP = l'.map bareP
  | [], [], _, _, _ => rfl
  | [], p :: l', _, _, h => by simp at h
  | p :: l, [], _, _, h => by simp at h
  | p :: l, p' :: l', h1, h2, h => by
    rw [List.flatMap_cons, List.flatMap_cons, List.cons_append, List.cons_append, List.cons.injEq] at h
    obtain ⟨e, e2⟩ := split46 (dots_head l) (dots_head l') _ _ (text_46 (h1 p (by simp))) (text_46 (h2 p' (by simp))) h.2
    have hp : p.1 = p'.1 := ByteArray.ext (Array.toList_inj.1 e)
    rw [List.map_cons, List.map_cons, kO_inj l l' (fun p hp => h1 p (by simp [hp])) (fun p hp => h2 p (by simp [hp])) e2, bareP, bareP, hp]
theorem mg_bare (g : Ty → List Ty → List UInt8 × List Ty) (l : List Part) : ∀ d, mgFold (mgPart g) (l.map bareP) d = ((l.map bareP).flatMap (kyPart fun _ => []), d) := by
  induction l with
  | nil => intro d; rfl
  | cons p l ih =>
    intro d
    rw [List.map_cons, mgFold, show mgPart g (bareP p) d = (kyPart (fun _ => []) (bareP p), d) from by simp [mgPart, kyPart, bareP, mgFold]]
    simp only [ih]
    rw [List.flatMap_cons]
theorem mgSym_bare (y : Sym) : mgSym (bareS y) = 81 :: 78 :: ((y.name.map bareP).flatMap (kyPart fun _ => []) ++ 69 :: [90]) := by
  unfold mgSym mgName bareS
  simp only [mg_bare, mgFold]
  simp
theorem kR_iff {a b : Sym} (ha : (symE a).1 = 0) (hb : (symE b).1 = 0) : kO a = kO b ↔ kR a = kR b := by
  obtain ⟨ta, _⟩ := sym_txt ha
  obtain ⟨tb, _⟩ := sym_txt hb
  have key : kR a = kR b ↔ a.name.map bareP = b.name.map bareP := by
    unfold kR
    rw [mgSym_bare, mgSym_bare]
    refine ⟨fun h => ?_, fun h => by rw [h]⟩
    have h2 : ((a.name.map bareP).flatMap (kyPart fun _ => []) ++ 69 :: [90]) = ((b.name.map bareP).flatMap (kyPart fun _ => []) ++ 69 :: [90]) := by simpa using h
    refine (parts_inj (g := fun _ => []) (P := fun _ => False) (fun _ _ _ _ h => h.elim) (fun _ h => h.elim) _ _ _ _ ?_ ?_ h2).1
    · intro p hp
      obtain ⟨q, hq, rfl⟩ := List.mem_map.1 hp
      exact ⟨(ta q hq).1, fun x hx => by simp [bareP] at hx⟩
    · intro p hp
      obtain ⟨q, hq, rfl⟩ := List.mem_map.1 hp
      exact ⟨(tb q hq).1, fun x hx => by simp [bareP] at hx⟩
  rw [key]
  refine ⟨fun h => kO_inj _ _ (fun p hp => (ta p hp).1) (fun p hp => (tb p hp).1) h, fun h => ?_⟩
  unfold kO
  have e : ∀ l : List Part, (l.flatMap fun p => 46 :: p.1.data.toList) = ((l.map bareP).flatMap fun p => 46 :: p.1.data.toList) := fun l => by
    rw [List.flatMap_map]; rfl
  rw [e a.name, e b.name, h]
/-- The keys of a string. -/
def k1 (s : ByteArray) : List UInt8 := if dmE s = 0 then kO (dmY s) else 61 :: s.data.toList
noncomputable def k2 (s : ByteArray) : List UInt8 := if dmE s = 0 then kR (dmY s) else 45 :: s.data.toList
theorem kO_head {y : Sym} (h : (symE y).1 = 0) (l : List UInt8) : kO y ≠ 61 :: l := by
  obtain ⟨_, h1, _⟩ := sym_good h
  unfold kO
  cases hn : y.name with
  | nil => rw [hn] at h1; simp at h1
  | cons p r => simp
theorem keys_iff (s t : ByteArray) : k1 s = k1 t ↔ k2 s = k2 t := by
  unfold k1 k2
  by_cases hs : dmE s = 0 <;> by_cases ht : dmE t = 0
  · rw [if_pos hs, if_pos ht, if_pos hs, if_pos ht]; exact kR_iff (dmY_good hs) (dmY_good ht)
  · rw [if_pos hs, if_neg ht, if_pos hs, if_neg ht]
    exact ⟨fun h => absurd h (kO_head (dmY_good hs) _), fun h => by simp [kR] at h⟩
  · rw [if_neg hs, if_pos ht, if_neg hs, if_pos ht]
    exact ⟨fun h => absurd h.symm (kO_head (dmY_good ht) _), fun h => by simp [kR] at h⟩
  · rw [if_neg hs, if_neg ht, if_neg hs, if_neg ht]
    simp
/- Families by any key. -/
abbrev Fst := List ByteArray × List (List Nat)
def famIx (K : ByteArray → List UInt8) (R : List ByteArray) (s : ByteArray) : Nat := R.findIdx fun r => K r == K s
def famStep (K : ByteArray → List UInt8) (st : Fst) (i : Nat) (s : ByteArray) : Fst :=
  if famIx K st.1 s < st.1.length then (st.1, st.2.modify (famIx K st.1 s) (· ++ [i])) else (st.1 ++ [s], st.2 ++ [[i]])
def famGo (K : ByteArray → List UInt8) : List ByteArray → Nat → Fst → Fst
  | [], _, st => st
  | s :: l, i, st => famGo K l (i + 1) (famStep K st i s)
def fmly (K : ByteArray → List UInt8) (l : List ByteArray) : Fst := famGo K l 0 ([], [])
theorem famGo_snoc (K : ByteArray → List UInt8) (s : ByteArray) : ∀ (l : List ByteArray) (i : Nat) (st : Fst), famGo K (l ++ [s]) i st = famStep K (famGo K l i st) (i + l.length) s
  | [], i, st => by simp [famGo]
  | x :: l, i, st => by rw [List.cons_append, famGo, famGo_snoc K s l, famGo, List.length_cons, show i + 1 + l.length = i + (l.length + 1) by omega]
theorem fam_snoc (K : ByteArray → List UInt8) (l : List ByteArray) (s : ByteArray) : fmly K (l ++ [s]) = famStep K (fmly K l) l.length s := by
  unfold fmly; rw [famGo_snoc, Nat.zero_add]
theorem fam_take (K : ByteArray → List UInt8) {l : List ByteArray} {j : Nat} {s : ByteArray} (h : l[j]? = some s) : fmly K (l.take (j + 1)) = famStep K (fmly K (l.take j)) j s := by
  have hj := (List.getElem?_eq_some_iff.1 h).1
  rw [take_succ_get h, fam_snoc, List.length_take, Nat.min_eq_left (by omega)]
theorem fam_keys {K K' : ByteArray → List UInt8} (h : ∀ s t, K s = K t ↔ K' s = K' t) (l : List ByteArray) : fmly K l = fmly K' l := by
  have hx : ∀ R s, famIx K R s = famIx K' R s := fun R s => by
    unfold famIx
    congr 1
    funext r
    rw [Bool.eq_iff_iff, beq_iff_eq, beq_iff_eq]
    exact h r s
  refine snoc_ind (P := fun l => fmly K l = fmly K' l) rfl (fun l x ih => ?_) l
  rw [fam_snoc, fam_snoc, ih]
  unfold famStep
  rw [hx]
/-- What holds of families. -/
structure FamOk (K : ByteArray → List UInt8) (j : Nat) (st : Fst) : Prop where
  len : st.2.length = st.1.length
  most : st.1.length ≤ j
  nodup : (st.1.map K).Nodup
  rows : ∀ x ∈ st.2, x.length ≤ j
theorem famIx_lt {K : ByteArray → List UInt8} {R : List ByteArray} {s : ByteArray} (h : famIx K R s < R.length) : ∃ r, R[famIx K R s]? = some r ∧ K r = K s := by
  have h1 := List.findIdx_getElem (xs := R) (p := fun r => K r == K s) (w := h)
  exact ⟨R[famIx K R s], List.getElem?_eq_getElem h, beq_iff_eq.1 h1⟩
theorem famIx_mem {K : ByteArray → List UInt8} {R : List ByteArray} {s : ByteArray} : famIx K R s < R.length ↔ K s ∈ R.map K := by
  unfold famIx
  rw [List.findIdx_lt_length, List.mem_map]
  exact ⟨fun ⟨r, hr, e⟩ => ⟨r, hr, beq_iff_eq.1 e⟩, fun ⟨r, hr, e⟩ => ⟨r, hr, beq_iff_eq.2 e⟩⟩
theorem famStep_ok {K : ByteArray → List UInt8} {j : Nat} {st : Fst} {s : ByteArray} (h : FamOk K j st) : FamOk K (j + 1) (famStep K st j s) := by
  obtain ⟨h1, h2, h3, h4⟩ := h
  unfold famStep
  split
  · refine ⟨by simpa using h1, by show st.1.length ≤ j + 1; omega, h3, fun x hx => ?_⟩
    obtain ⟨i, hi, e⟩ := List.mem_iff_getElem.1 hx
    rw [List.getElem_modify] at e
    have hi2 : i < st.2.length := by simpa using hi
    have := h4 _ (List.getElem_mem hi2)
    split at e
    · rw [← e]; simp; omega
    · rw [← e]; omega
  · rename_i hn
    refine ⟨by simpa using h1, by simp; omega, ?_, fun x hx => ?_⟩
    · rw [List.map_append, List.nodup_append]
      refine ⟨h3, by simp, fun a ha b hb => ?_⟩
      simp at hb
      subst hb
      exact fun e => hn (famIx_mem.2 (e ▸ ha))
    · rcases List.mem_append.1 hx with hx | hx
      · have := h4 x hx; omega
      · obtain rfl := List.mem_singleton.1 hx; simp
theorem fam_ok (K : ByteArray → List UInt8) (l : List ByteArray) : FamOk K l.length (fmly K l) :=
  snoc_ind (P := fun l => FamOk K l.length (fmly K l)) ⟨rfl, Nat.le_refl _, List.nodup_nil, fun x hx => by cases hx⟩ (fun l x ih => by rw [fam_snoc, List.length_append]; exact famStep_ok ih) l
theorem fam_ok_take (K : ByteArray → List UInt8) (l : List ByteArray) (j : Nat) (hj : j ≤ l.length) : FamOk K j (fmly K (l.take j)) := by
  have := fam_ok K (l.take j)
  rwa [List.length_take, Nat.min_eq_left hj] at this
end Go.Proofs.YtocpmbpckbjepaaDoor
