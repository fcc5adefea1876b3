/- A region that draws its order: what only reads is taken first while a condition on the world holds; the condition need not hold any more when operation k has come up, which waits for all that is taken so. No program. -/
import Derived.StillTail
import Derived.OrdersHeld
import Derived.RegionTactic
namespace Go.Proofs.YtnkccilgbhogbaaDoor
section
variable {P : Program} {ops : Array Oper} {Q : Exit → Act → World → Prop} {md : Region.Mode} {S : World → Prop} {k : Nat}
/-- Operation j waits for operation i, through at most f others. -/
def waitsFor (md : Region.Mode) (ops : Array Oper) : Nat → Nat → Nat → Bool
  | 0, _, _ => false
  | f + 1, j, i => ((ops[j]?).map fun o => o.after.any fun e => Region.binds md e && (e.on == i || waitsFor md ops f e.on i)).getD false
/-- What has come up came up behind all that it waits for. -/
def Shut (md : Region.Mode) (ops : Array Oper) (L : Array Bool) : Prop := ∀ (j : Nat) (o : Oper), ops[j]? = some o → L.getD j false = true → ∀ e ∈ o.after, Region.binds md e = true → L.getD e.on false = true
theorem waits_listed {L : Array Bool} (hS : Shut md ops L) : ∀ (f j i : Nat) (o : Oper), ops[j]? = some o → (∀ e ∈ o.after, Region.binds md e = true → L.getD e.on false = true) → waitsFor md ops f j i = true → L.getD i false = true
  | 0, _, _, _, _, _, h => by cases h
  | f + 1, j, i, o, ho, hall, h => by
    simp only [waitsFor, ho, Option.map_some, Option.getD_some] at h
    obtain ⟨e, he, hb⟩ := Array.any_eq_true'.1 h
    simp only [Bool.and_eq_true, Bool.or_eq_true, beq_iff_eq] at hb
    have h1 := hall e he hb.1
    rcases hb.2 with h2 | h2
    · rw [← h2]; exact h1
    · cases f with
      | zero => cases h2
      | succ f =>
        cases ho2 : ops[e.on]? with
        | none => simp [waitsFor, ho2] at h2
        | some o2 => exact waits_listed hS (f + 1) e.on i o2 ho2 (hS _ _ ho2 h1) h2
theorem Shut.set {L : Array Bool} (hS : Shut md ops L) {i : Nat} (hr : i ∈ Region.ready md ops L) : Shut md ops (L.setIfInBounds i true) := by
  intro j o ho hl e he hb
  by_cases hji : j = i
  · subst hji
    obtain ⟨_, o', ho', hall⟩ := mem_ready.1 hr
    rw [ho] at ho'
    obtain rfl := Option.some.inj ho'
    exact getD_set_true (hall e he hb)
  · rw [getD_set_ne false (Ne.symm hji)] at hl
    exact getD_set_true (hS j o ho hl e he hb)
/-- Whatever order is picked; till k has come up, S holds behind each operation. -/
def wpAnyC (P : Program) (md : Region.Mode) (ops : Array Oper) (Q : Exit → Act → World → Prop) (S : World → Prop) (k : Nat) : Nat → Array Bool → Act → World → Prop
  | 0, listed, a, w => Region.ready md ops listed = [] ∧ Q .normal a w
  | fuel + 1, listed, a, w =>
    (Region.ready md ops listed = [] → Q .normal a w) ∧
    ∀ i ∈ Region.ready md ops listed, wpOp P ops Q i (fun a' w' => ((listed.setIfInBounds i true).getD k false = false → S w') ∧ wpAnyC P md ops Q S k fuel (listed.setIfInBounds i true) a' w') a w
theorem wpAny_of_C : ∀ (fuel : Nat) (listed : Array Bool) (a : Act) (w : World), wpAnyC P md ops Q S k fuel listed a w → wpAny P md ops Q fuel listed a w
  | 0, _, _, _, h => h
  | fuel + 1, _, _, _, h => ⟨h.1, fun i hi => wpOp_mono (fun a' w' h' => wpAny_of_C fuel _ a' w' h'.2) (h.2 i hi)⟩
theorem wpAnyC_of_any : ∀ (fuel : Nat) (listed : Array Bool) (a : Act) (w : World), listed.getD k false = true → wpAny P md ops Q fuel listed a w → wpAnyC P md ops Q S k fuel listed a w
  | 0, _, _, _, _, h => h
  | fuel + 1, _, _, _, hu, h => ⟨h.1, fun i hi => wpOp_mono (fun a' w' h' => ⟨fun hf => (by rw [getD_set_true hu] at hf; cases hf), wpAnyC_of_any fuel _ a' w' (getD_set_true hu) h'⟩) (h.2 i hi)⟩
theorem wpAnyC_first {i f : Nat} {oi : Oper} {v : Value} (hi : ops[i]? = some oi) (hki : k ≠ i) (hwt : waitsFor md ops f k i = true) (hsel : ∀ (j : Nat) (o : Oper) cs b, ops[j]? = some o → o.op ≠ .select cs b)
    (hQ : ∀ c a w, Q (.panic c) (a.put oi.dst v) w → Q (.panic c) a w) :
    ∀ (fuel : Nat) (listed : Array Bool) (a : Act) (w : World), Shut md ops listed →
      (∀ j oj, ops[j]? = some oj → j ≠ i → listed.getD j true = false → (∀ e ∈ oj.after, Region.binds md e = true → e.on ≠ i) → oi.apart ops oj = true) →
      i ∈ Region.ready md ops listed → YieldsIf P ops S oi v a → S w →
      wpAnyC P md ops Q S k fuel (listed.setIfInBounds i true) (a.put oi.dst v) w → wpAnyC P md ops Q S k (fuel + 1) listed a w := by
  intro fuel
  induction fuel with
  | zero =>
    intro listed a w _ _ hr hy hS H
    refine ⟨fun h => (by rw [h] at hr; cases hr), fun j hj => ?_⟩
    by_cases hji : j = i
    · subst hji; exact hy.wpOp hi hS ⟨fun _ => hS, H⟩
    · have := ready_mono hj hji
      rw [H.1] at this
      cases this
  | succ fuel ih =>
    intro listed a w hsh hfree hr hy hS H
    refine ⟨fun h => (by rw [h] at hr; cases hr), fun j hj => ?_⟩
    by_cases hji : j = i
    · subst hji; exact hy.wpOp hi hS ⟨fun _ => hS, H⟩
    · have hun := getD_both (mem_ready.1 hr).1
      have h1 := H.2 j (ready_mono hj hji)
      obtain ⟨hjun, oj, hoj, hall⟩ := mem_ready.1 hj
      have hjk : j ≠ k := fun e => by
        subst e
        rw [waits_listed hsh f j i oj hoj hall hwt] at hun
        cases hun
      have hku : listed.getD k false = false := by
        rw [Bool.eq_false_iff]
        intro hc
        have hko : ∃ o, ops[k]? = some o := by
          cases f with
          | zero => cases hwt
          | succ f =>
            cases ho : ops[k]? with
            | none => simp [waitsFor, ho] at hwt
            | some o => exact ⟨o, rfl⟩
        obtain ⟨o, ho⟩ := hko
        rw [waits_listed hsh f k i o ho (hsh k o ho hc) hwt] at hun
        cases hun
      have hks : ((listed.setIfInBounds i true).setIfInBounds j true).getD k false = false := by rw [getD_set_ne false hjk, getD_set_ne false (Ne.symm hki)]; exact hku
      have hnot : ∀ e ∈ oj.after, Region.binds md e = true → e.on ≠ i := fun e he hb heq => by
        have h1 := hall e he hb
        rw [heq, hun] at h1
        cases h1
      have h2 := wpOp_putIf hoj (hfree j oj hoj hji hjun hnot) (fun cs b => hsel i oi cs b hi) (fun cs b => hsel j oj cs b hoj) hQ hy h1
      have hfree' : ∀ q oq, ops[q]? = some oq → q ≠ i → (listed.setIfInBounds j true).getD q true = false →
          (∀ e ∈ oq.after, Region.binds md e = true → e.on ≠ i) → oi.apart ops oq = true := fun q oq hq hqi hun hno => by
        refine hfree q oq hq hqi ?_ hno
        by_cases hjq : j = q
        · subst hjq; exact hjun
        · rw [getD_set_ne true hjq] at hun; exact hun
      refine wpOp_mono (fun a' w' h3 => ⟨fun _ => h3.2.1 hks, ih (listed.setIfInBounds j true) a' w' (hsh.set hj) hfree' (ready_mono hr (Ne.symm hji)) h3.1 (h3.2.1 hks) ?_⟩) h2
      rw [Array.setIfInBounds_comm _ _ hji]
      exact h3.2.2
/-- Operation i is taken first: it may come up, and yields v in every world that meets S. -/
theorem wpAnyC_take {i f : Nat} {oi : Oper} {v : Value} {d : Option Nat} {fuel : Nat} {listed : Array Bool} {a : Act} {w : World} (hi : ops[i]? = some oi) (hd : oi.dst = d)
    (hs : Region.noSelect ops = true) (hf : Region.free md ops listed i = true) (hr : (Region.ready md ops listed).contains i = true) (hsh : Shut md ops listed) (hki : k ≠ i) (hwt : waitsFor md ops f k i = true)
    (hQ : ∀ c a w, Q (.panic c) (a.put d v) w → Q (.panic c) a w) (hS : S w) (hy : YieldsIf P ops S oi v a)
    (h : Shut md ops (listed.setIfInBounds i true) → wpAnyC P md ops Q S k fuel (listed.setIfInBounds i true) (a.put d v) w) : wpAnyC P md ops Q S k (fuel + 1) listed a w := by
  subst hd
  have hr' : i ∈ Region.ready md ops listed := by simpa using hr
  exact wpAnyC_first hi hki hwt (Region.noSelect_spec hs) hQ fuel listed a w hsh (Region.free_spec hi hf) hr' hy hS (h (hsh.set hr'))
/-- The same of an operation that yields v in whatever world. -/
theorem wpAnyC_first0 {i : Nat} {oi : Oper} {v : Value} (hi : ops[i]? = some oi) (hki : k ≠ i) (hsel : ∀ (j : Nat) (o : Oper) cs b, ops[j]? = some o → o.op ≠ .select cs b)
    (hQ : ∀ c a w, Q (.panic c) (a.put oi.dst v) w → Q (.panic c) a w) :
    ∀ (fuel : Nat) (listed : Array Bool) (a : Act) (w : World),
      (∀ j oj, ops[j]? = some oj → j ≠ i → listed.getD j true = false → (∀ e ∈ oj.after, Region.binds md e = true → e.on ≠ i) → oi.apart ops oj = true) →
      i ∈ Region.ready md ops listed → YieldsIf P ops (fun _ => True) oi v a → (listed.getD k false = false → S w) →
      wpAnyC P md ops Q S k fuel (listed.setIfInBounds i true) (a.put oi.dst v) w → wpAnyC P md ops Q S k (fuel + 1) listed a w := by
  intro fuel
  induction fuel with
  | zero =>
    intro listed a w _ hr hy hS H
    refine ⟨fun h => (by rw [h] at hr; cases hr), fun j hj => ?_⟩
    by_cases hji : j = i
    · subst hji; exact hy.wpOp hi trivial ⟨fun hu => hS (by rw [getD_set_ne false (Ne.symm hki)] at hu; exact hu), H⟩
    · have := ready_mono hj hji
      rw [H.1] at this
      cases this
  | succ fuel ih =>
    intro listed a w hfree hr hy hS H
    refine ⟨fun h => (by rw [h] at hr; cases hr), fun j hj => ?_⟩
    by_cases hji : j = i
    · subst hji; exact hy.wpOp hi trivial ⟨fun hu => hS (by rw [getD_set_ne false (Ne.symm hki)] at hu; exact hu), H⟩
    · have hun := getD_both (mem_ready.1 hr).1
      have h1 := H.2 j (ready_mono hj hji)
      obtain ⟨hjun, oj, hoj, hall⟩ := mem_ready.1 hj
      have hks : (listed.setIfInBounds j true).getD k false = false → ((listed.setIfInBounds i true).setIfInBounds j true).getD k false = false := fun hu => by
        rw [Array.setIfInBounds_comm _ _ (Ne.symm hji), getD_set_ne false (Ne.symm hki)]; exact hu
      have hnot : ∀ e ∈ oj.after, Region.binds md e = true → e.on ≠ i := fun e he hb heq => by
        have h1 := hall e he hb
        rw [heq, hun] at h1
        cases h1
      have h2 := wpOp_putIf hoj (hfree j oj hoj hji hjun hnot) (fun cs b => hsel i oi cs b hi) (fun cs b => hsel j oj cs b hoj) hQ hy h1
      have hfree' : ∀ q oq, ops[q]? = some oq → q ≠ i → (listed.setIfInBounds j true).getD q true = false →
          (∀ e ∈ oq.after, Region.binds md e = true → e.on ≠ i) → oi.apart ops oq = true := fun q oq hq hqi hun hno => by
        refine hfree q oq hq hqi ?_ hno
        by_cases hjq : j = q
        · subst hjq; exact hjun
        · rw [getD_set_ne true hjq] at hun; exact hun
      refine wpOp_mono (fun a' w' h3 => ⟨fun hu => h3.2.1 (hks hu), ih (listed.setIfInBounds j true) a' w' hfree' (ready_mono hr (Ne.symm hji)) h3.1 (fun hu => h3.2.1 (hks hu)) ?_⟩) h2
      rw [Array.setIfInBounds_comm _ _ hji]
      exact h3.2.2
theorem wpAnyC_take0 {i : Nat} {oi : Oper} {v : Value} {d : Option Nat} {fuel : Nat} {listed : Array Bool} {a : Act} {w : World} (hi : ops[i]? = some oi) (hd : oi.dst = d)
    (hs : Region.noSelect ops = true) (hf : Region.free md ops listed i = true) (hr : (Region.ready md ops listed).contains i = true) (hsh : Shut md ops listed) (hki : k ≠ i)
    (hQ : ∀ c a w, Q (.panic c) (a.put d v) w → Q (.panic c) a w) (hS : S w) (hy : YieldsIf P ops (fun _ => True) oi v a)
    (h : Shut md ops (listed.setIfInBounds i true) → wpAnyC P md ops Q S k fuel (listed.setIfInBounds i true) (a.put d v) w) : wpAnyC P md ops Q S k (fuel + 1) listed a w := by
  subst hd
  have hr' : i ∈ Region.ready md ops listed := by simpa using hr
  exact wpAnyC_first0 hi hki (Region.noSelect_spec hs) hQ fuel listed a w (Region.free_spec hi hf) hr' hy (fun _ => hS) (h (hsh.set hr'))
/-- The same behind k. -/
theorem wpAnyC_take1 {i : Nat} {oi : Oper} {v : Value} {d : Option Nat} {fuel : Nat} {listed : Array Bool} {a : Act} {w : World} (hi : ops[i]? = some oi) (hd : oi.dst = d)
    (hs : Region.noSelect ops = true) (hf : Region.free md ops listed i = true) (hr : (Region.ready md ops listed).contains i = true) (hsh : Shut md ops listed) (hst : listed.getD k false = true) (hki : k ≠ i)
    (hQ : ∀ c a w, Q (.panic c) (a.put d v) w → Q (.panic c) a w) (hy : YieldsIf P ops (fun _ => True) oi v a)
    (h : Shut md ops (listed.setIfInBounds i true) → wpAnyC P md ops Q S k fuel (listed.setIfInBounds i true) (a.put d v) w) : wpAnyC P md ops Q S k (fuel + 1) listed a w := by
  subst hd
  have hr' : i ∈ Region.ready md ops listed := by simpa using hr
  exact wpAnyC_first0 hi hki (Region.noSelect_spec hs) hQ fuel listed a w (Region.free_spec hi hf) hr' hy (fun h => by rw [hst] at h; cases h) (h (hsh.set hr'))
theorem wpAnyC_done {listed : Array Bool} {a : Act} {w : World} (hr : Region.ready md ops listed = []) (h : Q .normal a w) : wpAnyC P md ops Q S k 0 listed a w := ⟨hr, h⟩
/-- The ones that may come up, each by itself. -/
def AllC (P : Program) (md : Region.Mode) (ops : Array Oper) (Q : Exit → Act → World → Prop) (S : World → Prop) (k : Nat) (fuel : Nat) (listed : Array Bool) (a : Act) (w : World) (rs : List Nat) : Prop :=
  ∀ i ∈ rs, wpOp P ops Q i (fun a' w' => ((listed.setIfInBounds i true).getD k false = false → S w') ∧ wpAnyC P md ops Q S k fuel (listed.setIfInBounds i true) a' w') a w
theorem AllC.nil {fuel : Nat} {listed : Array Bool} {a : Act} {w : World} : AllC P md ops Q S k fuel listed a w [] := fun _ h => by cases h
theorem AllC.cons {fuel : Nat} {listed : Array Bool} {a : Act} {w : World} {i : Nat} {o : Oper} {rs : List Nat} (ho : ops[i]? = some o) (hr : (Region.ready md ops listed).contains i = true) (hsh : Shut md ops listed)
    (h : ∀ K' : Act → World → Prop, (∀ a w, ((listed.setIfInBounds i true).getD k false = false → S w) → (Shut md ops (listed.setIfInBounds i true) → wpAnyC P md ops Q S k fuel (listed.setIfInBounds i true) a w) → K' a w) →
      if Region.wanted o (yielded ops a.tmps) = true then Oper.wp P o a w K' Q else K' (a.put o.dst undef) w)
    (hs : AllC P md ops Q S k fuel listed a w rs) : AllC P md ops Q S k fuel listed a w (i :: rs) := fun j hj => by
  rcases List.mem_cons.1 hj with rfl | hj
  · exact wpOp_step ho fun K' hK => h K' fun a w h1 h2 => hK a w ⟨h1, h2 (hsh.set (by simpa using hr))⟩
  · exact hs j hj
theorem wpAnyC_ready {rs : List Nat} {fuel : Nat} {listed : Array Bool} {a : Act} {w : World} (hr : Region.ready md ops listed = rs) (hne : rs ≠ []) (h : AllC P md ops Q S k fuel listed a w rs) : wpAnyC P md ops Q S k (fuel + 1) listed a w :=
  ⟨fun h0 => absurd (hr ▸ h0) hne, hr ▸ h⟩
/-- Behind k the rest comes up in the text's order. -/
theorem wpAnyC_seq {l : List Oper} (n : Nat) {f : Nat} {listed : Array Bool} {a : Act} {w : World} (hf : (l.drop n).length = f) (hst : listed.getD k false = true) (hB : Region.seqB md l.toArray (l.drop n).length n listed = true) (h : wpList P l.toArray Q (l.drop n) a w) : wpAnyC P md l.toArray Q S k f listed a w := by
  subst hf
  exact wpAnyC_of_any _ _ _ _ hst (wpAny_of_seq (l.drop n) n listed a w (fun j => by simp [List.getElem?_drop]) hB h)
/-- k itself comes up next, and the rest in the text's order. -/
theorem wpAnyC_tail {l : List Oper} {f : Nat} {listed : Array Bool} {a : Act} {w : World} (hf : (l.drop k).length = f + 1) (hk : k < listed.size) (hB : Region.seqB md l.toArray (l.drop k).length k listed = true) (h : wpList P l.toArray Q (l.drop k) a w) : wpAnyC P md l.toArray Q S k (f + 1) listed a w := by
  have h1 := wpAny_of_seq (l.drop k) k listed a w (fun j => by simp [List.getElem?_drop]) hB h
  rw [hf] at h1 hB
  simp only [Region.seqB, Bool.and_eq_true, decide_eq_true_eq] at hB
  refine ⟨h1.1, fun i hi => ?_⟩
  have h2 := h1.2 i hi
  rw [hB.1] at hi
  obtain rfl : i = k := by simpa using hi
  have hu : (listed.setIfInBounds i true).getD i false = true := by simp [hk]
  exact wpOp_mono (fun a' w' h' => ⟨fun hf => (by rw [hu] at hf; cases hf), wpAnyC_of_any _ _ _ _ hu h'⟩) h2
theorem wp_region_chain {l : List Oper} {id N : Nat} {a : Act} {w : World} (S : World → Prop) (k : Nat) (hm : P.follows .mixedOrders = true) (hN : l.length = N)
    (h : Shut .any l.toArray (Array.replicate l.toArray.size false) → wpAnyC P .any l.toArray Q S k N (Array.replicate l.toArray.size false) a w.drew) : (Code.region id l.toArray true).wp P Q a w := by
  refine wp_region_any hm (wpAny_of_C (S := S) (k := k) _ _ _ _ ?_)
  have e : l.toArray.size = N := by simpa using hN
  have := h (fun j o _ hl => by rw [getD_replicate_false] at hl; cases hl)
  rw [← e] at this
  exact this
end
end Go.Proofs.YtnkccilgbhogbaaDoor
