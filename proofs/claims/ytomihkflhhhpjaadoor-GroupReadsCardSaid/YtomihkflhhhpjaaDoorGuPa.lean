/- The reference's reading of acts: plain law (what it reads, the program reads; where it fails, the program's rule fails too). -/
import Derived.Test.YtomihkflhhhpjaaDoorGuRs
import Derived.Test.YtomihkflhhhpjaaDoorGuNu
import Derived.Lib.IndexMore
namespace Go.Proofs.YtomihkflhhhpjaaDoor
open Go.RowKit
set_option linter.unusedVariables false
set_option linter.unusedSimpArgs false
def nsp (c : UInt8) : Bool := c != 32
def tw (r : List UInt8) : List UInt8 := r.takeWhile nsp
def wdI (w : List UInt8) : Nat := if w = wA 1 then 1 else if w = wA 2 then 2 else if w = wA 3 then 3 else if w = wA 4 then 4 else 0
/-- What the reference reads of an act. -/
def rfA (r : List UInt8) : Option (Ac × List UInt8) :=
  if Lib.hasPrefix r (wA 6) = true then (rdQ (r.drop 4)).map fun x => (⟨6, 0, bs x.1⟩, x.2)
  else if Lib.hasPrefix r (wA 5) = true then (numP (tw (r.drop 5))).map fun n => (⟨5, (n : Nat), ⟨#[]⟩⟩, (r.drop 5).drop (tw (r.drop 5)).length)
  else if wdI (tw r) = 0 then none else some (⟨wdI (tw r), 0, ⟨#[]⟩⟩, r.drop (tw r).length)
theorem cutP_iff {p r r' : List UInt8} : cutP p r = some r' ↔ r = p ++ r' := by
  unfold cutP
  constructor
  · intro h
    split at h
    · rename_i h9
      have h8 := List.isPrefixOf_iff_prefix.1 h9
      obtain ⟨t, rfl⟩ := h8
      rw [← Option.some.inj h, List.drop_left]
    · cases h
  · rintro rfl
    have h9 : Lib.hasPrefix (p ++ r') p = true := List.isPrefixOf_iff_prefix.2 (List.prefix_append _ _)
    rw [if_pos h9, List.drop_left]
theorem cutP_pre {p r : List UInt8} : Lib.hasPrefix r p = true ↔ ∃ r', cutP p r = some r' := by
  unfold cutP
  constructor
  · intro h; exact ⟨_, if_pos h⟩
  · rintro ⟨r', h⟩
    split at h
    · assumption
    · cases h
/-- Behind a word: the end, or a space. -/
def HOk (r : List UInt8) : Prop := r = [] ∨ ∃ t, r = 32 :: t
theorem tw_of {p r' : List UInt8} (hp : ∀ c ∈ p, nsp c = true) (h : HOk r') : tw (p ++ r') = p := by
  unfold tw
  rw [List.takeWhile_append_of_pos hp]
  rcases h with rfl | ⟨t, rfl⟩
  · simp
  · simp [nsp]
theorem tw_cut (r : List UInt8) : cutP (tw r) r = some (r.drop (tw r).length) ∧ HOk (r.drop (tw r).length) := by
  have h1 : r = tw r ++ r.dropWhile nsp := (List.takeWhile_append_dropWhile).symm
  have h2 : r.drop (tw r).length = r.dropWhile nsp := by
    have := congrArg (List.drop (tw r).length) h1
    rw [List.drop_left] at this
    exact this
  rw [h2]
  refine ⟨cutP_iff.2 h1, ?_⟩
  cases hd : r.dropWhile nsp with
  | nil => exact .inl rfl
  | cons c t =>
    have := List.head_dropWhile_not nsp (l := r) (by rw [hd]; simp)
    simp only [hd, List.head_cons] at this
    right
    refine ⟨t, ?_⟩
    have h9 : c = 32 := by simpa [nsp] using this
    rw [h9]
theorem rdAs_bad {r : List UInt8} (h : ¬ HOk r) (f : Nat) (acc : List Ac) : rdAs f r acc = none := by
  cases f with
  | zero => rfl
  | succ f =>
    rw [rdAs, if_neg (fun e => h (.inl e))]
    cases hc : cutP [32] r with
    | none => rfl
    | some t => exact absurd (.inr ⟨t, cutP_iff.1 hc⟩) h
theorem wA_nsp : ∀ k, k < 7 → ∀ c ∈ wA k, nsp c = true := by decide
theorem wA_head : ∀ j, 1 ≤ j → j < 7 → ∀ k, 1 ≤ k → k < 7 → (wA j).head? = (wA k).head? → j = k := by
  intro j h1 h2 k h3 h4
  have : ∀ j, j < 7 → ∀ k, k < 7 → 1 ≤ j → 1 ≤ k → (wA j).head? = (wA k).head? → j = k := by decide
  exact this j h2 k h4 h1 h3
theorem wA_ne : ∀ k, k < 7 → 1 ≤ k → wA k ≠ [] := by decide
theorem head_app {p : List UInt8} (a : List UInt8) (h : p ≠ []) : (p ++ a).head? = p.head? := by
  cases p with
  | nil => exact absurd rfl h
  | cons c t => rfl
theorem wA_uniq {j k : Nat} {r a b : List UInt8} (h1 : 1 ≤ j) (h2 : j < 7) (h3 : 1 ≤ k) (h4 : k < 7) (ha : cutP (wA j) r = some a) (hb : cutP (wA k) r = some b) : j = k := by
  refine wA_head j h1 h2 k h3 h4 ?_
  have e1 := congrArg List.head? (cutP_iff.1 ha)
  have e2 := congrArg List.head? (cutP_iff.1 hb)
  rw [head_app _ (wA_ne j h2 h1)] at e1
  rw [head_app _ (wA_ne k h4 h3)] at e2
  rw [← e1, ← e2]
theorem rdOn_up {r r' : List UInt8} {k : Nat} (h3 : 1 ≤ k) (h4 : k < 7) (h : cutP (wA k) r = some r') : ∀ (f i : Nat), 1 ≤ i → i ≤ k → i + f = 7 → rdOn wA r i f = some (k, r')
  | 0, i, _, hi, e => by omega
  | f + 1, i, h1, hi, e => by
    by_cases hik : i = k
    · subst hik; exact rdOn_hit h
    · cases hc : cutP (wA i) r with
      | some a => exact absurd (wA_uniq h1 (by omega) h3 h4 hc h) hik
      | none => rw [rdOn_miss hc]; exact rdOn_up h3 h4 h f (i + 1) (by omega) (by omega) (by omega)
theorem rdOn_inv {r r' : List UInt8} {k : Nat} : ∀ (f i : Nat), i + f = 7 → rdOn wA r i f = some (k, r') → i ≤ k ∧ k < 7 ∧ cutP (wA k) r = some r'
  | 0, i, _, h => by cases h
  | f + 1, i, e, h => by
    cases hc : cutP (wA i) r with
    | some a =>
      rw [rdOn_hit hc] at h
      cases h
      exact ⟨Nat.le_refl _, by omega, hc⟩
    | none =>
      rw [rdOn_miss hc] at h
      have := rdOn_inv f (i + 1) (by omega) h
      exact ⟨by omega, this.2⟩
theorem rdA_of {r r' : List UInt8} {k : Nat} (h3 : 1 ≤ k) (h4 : k < 7) (h : cutP (wA k) r = some r') : rdA r = if k = 5 then rdN r' else if k = 6 then (rdQ r').map fun x => (⟨6, 0, bs x.1⟩, x.2) else some (⟨k, 0, ⟨#[]⟩⟩, r') := by
  rw [rdA, rdOn_up h3 h4 h 6 1 (Nat.le_refl _) h3 rfl]
theorem rdA_no {r : List UInt8} (h : ∀ k r', 1 ≤ k → k < 7 → cutP (wA k) r ≠ some r') : rdA r = none := by
  rw [rdA]
  cases hc : rdOn wA r 1 6 with
  | none => rfl
  | some x => obtain ⟨h1, h2, h3⟩ := rdOn_inv (k := x.1) (r' := x.2) 6 1 rfl hc; exact absurd h3 (h _ _ h1 h2)
theorem wdI_iff {w : List UInt8} {k : Nat} (h1 : 1 ≤ k) (h4 : k ≤ 4) (h : w = wA k) : wdI w = k := by
  subst h
  have : ∀ k, k < 5 → 1 ≤ k → wdI (wA k) = k := by decide
  exact this k (by omega) h1
theorem wdI_inv {w : List UInt8} (h : wdI w ≠ 0) : 1 ≤ wdI w ∧ wdI w ≤ 4 ∧ w = wA (wdI w) := by
  unfold wdI at h ⊢
  split
  · simp_all
  split
  · simp_all
  split
  · simp_all
  split
  · simp_all
  · simp_all
theorem pre_of {p r r' : List UInt8} (h : cutP p r = some r') : Lib.hasPrefix r p = true := cutP_pre.2 ⟨_, h⟩
theorem drop_of {p r r' : List UInt8} (h : cutP p r = some r') : r.drop p.length = r' := by rw [cutP_iff.1 h, List.drop_left]
theorem dg_nsp {c : UInt8} (h : dgB c = true) : nsp c = true := by
  have := dgB_iff.1 h
  unfold nsp
  rw [bne_iff_ne]
  intro e
  rw [e] at this
  exact absurd this.1 (by decide)
theorem numP_iff {d : List UInt8} (hd : ∀ c ∈ d, dgB c = true) : numP d = if badN d then none else some (dgV d) := by
  have ha : d.all dgB = true := List.all_eq_true.2 hd
  have hbn : badN d ↔ (d.length < 1 ∨ 3 < d.length ∨ (1 < d.length ∧ d[0]? = some 48)) := by unfold badN; rw [List.head?_eq_getElem?]
  unfold numP
  by_cases h : badN d
  · rw [if_pos h, if_neg]
    rintro ⟨a, b, c, _⟩
    rw [hbn] at h
    rcases h with h | h | h
    · omega
    · omega
    · exact c h
  · rw [if_neg h, if_pos]
    rw [hbn] at h
    exact ⟨by omega, by omega, fun hh => h (.inr (.inr hh)), ha⟩
theorem numP_all {d : List UInt8} {n : Nat} (h : numP d = some n) : ∀ c ∈ d, dgB c = true := by
  unfold numP at h
  split at h
  · rename_i h9; exact List.all_eq_true.1 h9.2.2.2
  · cases h
/-- A count: both read it alike, where what is behind it may stand. -/
theorem twd_of {d r' : List UInt8} (hd : ∀ c ∈ d, dgB c = true) (h : HOk r') : (d ++ r').takeWhile dgB = d := by
  rw [List.takeWhile_append_of_pos hd]
  rcases h with rfl | ⟨t, rfl⟩
  · simp
  · simp [dgB]
theorem rdN_some {r5 : List UInt8} {n : Nat} (h : numP (tw r5) = some n) : rdN r5 = some (⟨5, (n : Nat), ⟨#[]⟩⟩, r5.drop (tw r5).length) := by
  have ha := numP_all h
  obtain ⟨h1, h2⟩ := tw_cut r5
  have h3 : r5.takeWhile dgB = tw r5 := by
    have := twd_of ha h2
    rw [← cutP_iff.1 h1] at this
    exact this
  rw [numP_iff ha] at h
  split at h
  · cases h
  · rename_i hb
    rw [rdN, h3, if_neg hb, Option.some.inj h]
theorem rdN_none {r5 : List UInt8} (h : numP (tw r5) = none) : rdN r5 = none ∨ ∃ a r', rdN r5 = some (a, r') ∧ ¬ HOk r' := by
  by_cases hb : badN (r5.takeWhile dgB)
  · left; rw [rdN, if_pos hb]
  · right
    refine ⟨_, _, by rw [rdN, if_neg hb], fun hok => ?_⟩
    have hd : ∀ c ∈ r5.takeWhile dgB, dgB c = true := tw_dig
    have e : r5 = r5.takeWhile dgB ++ r5.drop (r5.takeWhile dgB).length := by
      have := (List.take_append_drop (r5.takeWhile dgB).length r5).symm
      rw [tw_take] at this
      exact this
    have h3 := tw_of (fun c hc => dg_nsp (hd c hc)) hok
    rw [← e] at h3
    rw [h3, numP_iff hd, if_neg hb] at h
    cases h
theorem rfA_some {r : List UInt8} {x : Ac × List UInt8} (h : rfA r = some x) : rdA r = some x := by
  unfold rfA at h
  by_cases h6 : Lib.hasPrefix r (wA 6) = true
  · rw [if_pos h6] at h
    obtain ⟨r6, hc⟩ := cutP_pre.1 h6
    rw [rdA_of (by omega) (by omega) hc, if_neg (by omega), if_pos rfl, ← drop_of hc]
    exact h
  · rw [if_neg h6] at h
    by_cases h5 : Lib.hasPrefix r (wA 5) = true
    · rw [if_pos h5] at h
      obtain ⟨r5, hc⟩ := cutP_pre.1 h5
      rw [rdA_of (by omega) (by omega) hc, if_pos rfl, ← drop_of hc]
      obtain ⟨n, hn, rfl⟩ := Option.map_eq_some_iff.1 h
      exact rdN_some hn
    · rw [if_neg h5] at h
      by_cases hw : wdI (tw r) = 0
      · rw [if_pos hw] at h; cases h
      · rw [if_neg hw] at h
        obtain ⟨a1, a2, a3⟩ := wdI_inv hw
        have hc := (tw_cut r).1
        rw [a3] at hc
        rw [← Option.some.inj h]
        have h9 := rdA_of a1 (by omega) hc
        rw [if_neg (by omega), if_neg (by omega), ← a3] at h9
        exact h9
theorem rfA_none {r : List UInt8} (h : rfA r = none) : rdA r = none ∨ ∃ a r', rdA r = some (a, r') ∧ ¬ HOk r' := by
  unfold rfA at h
  by_cases h6 : Lib.hasPrefix r (wA 6) = true
  · rw [if_pos h6] at h
    obtain ⟨r6, hc⟩ := cutP_pre.1 h6
    left
    rw [rdA_of (by omega) (by omega) hc, if_neg (by omega), if_pos rfl, ← drop_of hc]
    exact h
  · rw [if_neg h6] at h
    by_cases h5 : Lib.hasPrefix r (wA 5) = true
    · rw [if_pos h5] at h
      obtain ⟨r5, hc⟩ := cutP_pre.1 h5
      rw [rdA_of (by omega) (by omega) hc, if_pos rfl, ← drop_of hc]
      exact rdN_none (Option.map_eq_none_iff.1 h)
    · rw [if_neg h5] at h
      by_cases hex : ∃ k r', 1 ≤ k ∧ k < 7 ∧ cutP (wA k) r = some r'
      · obtain ⟨k, r', k1, k2, hc⟩ := hex
        have k5 : k ≠ 5 := by rintro rfl; exact h5 (pre_of hc)
        have k6 : k ≠ 6 := by rintro rfl; exact h6 (pre_of hc)
        right
        refine ⟨⟨k, 0, ⟨#[]⟩⟩, r', by rw [rdA_of k1 k2 hc, if_neg k5, if_neg k6], fun hok => ?_⟩
        have h3 := tw_of (wA_nsp k k2) hok
        rw [← cutP_iff.1 hc] at h3
        rw [wdI_iff k1 (by omega) h3, if_neg (by omega)] at h
        cases h
      · left
        exact rdA_no fun k r' k1 k2 hc => hex ⟨k, r', k1, k2, hc⟩
/-- Where the reference finds no act, the program's rule fails. -/
theorem rfA_fail {r : List UInt8} (h : rfA r = none) (f : Nat) (acc : List Ac) : (match rdA r with | none => none | some (a, r') => rdAs f r' (acc ++ [a])) = none := by
  rcases rfA_none h with h | ⟨a, r', h, hb⟩
  · rw [h]
  · rw [h]; exact rdAs_bad hb f _
theorem indexS_mid (c : UInt8) : ∀ (a b : List UInt8), c ∉ a → Lib.index (a ++ c :: b) [c] = (a.length : Int)
  | [], b, _ => by
    show Lib.index (c :: b) [c] = 0
    rw [Lib.index, if_pos (by simp)]
  | d :: a, b, h => by
    have hd : ¬ c = d := fun e => h (by rw [e]; exact List.mem_cons_self)
    have ih := indexS_mid c a b (fun e => h (List.mem_cons_of_mem _ e))
    show Lib.index (d :: (a ++ c :: b)) [c] = _
    rw [Lib.index, if_neg (by simp; exact hd), ih, if_neg (by simp <;> omega)]
    simp
theorem indexS_none (c : UInt8) : ∀ (a : List UInt8), c ∉ a → Lib.index a [c] = -1
  | [], _ => rfl
  | d :: a, h => by
    have hd : ¬ c = d := fun e => h (by rw [e]; exact List.mem_cons_self)
    rw [Lib.index, if_neg (by simp; exact hd), indexS_none c a (fun e => h (List.mem_cons_of_mem _ e))]
    rfl
theorem cutS_mid {c : UInt8} {a : List UInt8} (b : List UInt8) (h : c ∉ a) : Lib.cut (a ++ c :: b) [c] = (a, b, true) := by
  rw [Lib.cut, indexS_mid c a b h, if_pos (by omega)]
  simp
theorem cutS_none {c : UInt8} {a : List UInt8} (h : c ∉ a) : Lib.cut a [c] = (a, [], false) := by
  rw [Lib.cut, indexS_none c a h, if_neg (by decide)]
theorem mem_tw {c : UInt8} : ∀ {l : List UInt8}, c ∈ tw l → nsp c = true
  | [], h => by simp [tw] at h
  | a :: l, h => by
    unfold tw at h
    rw [List.takeWhile_cons] at h
    cases hp : nsp a with
    | false => rw [hp] at h; simp at h
    | true =>
      rw [hp] at h
      rcases List.mem_cons.1 h with rfl | h
      · exact hp
      · exact mem_tw h
theorem cut32 (l : List UInt8) : (Lib.cut l [32]).1 = tw l := by
  obtain ⟨h1, h2⟩ := tw_cut l
  have h9 : (32 : UInt8) ∉ tw l := fun hm => by
    have := mem_tw hm
    simp [nsp] at this
  have h3 := cutP_iff.1 h1
  rcases h2 with h2 | ⟨t, h2⟩
  · rw [h2, List.append_nil] at h3
    have := cutS_none h9
    rw [← h3] at this
    rw [this, ← h3]
  · rw [h2] at h3
    have := cutS_mid t h9
    rw [← h3] at this
    rw [this]
end Go.Proofs.YtomihkflhhhpjaaDoor
