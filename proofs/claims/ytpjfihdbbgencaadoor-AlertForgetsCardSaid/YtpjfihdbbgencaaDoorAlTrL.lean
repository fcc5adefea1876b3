/- Plain law of AlertTurns: notices of a rule alternate, and what is said of each rule. -/
import Derived.Test.YtpjfihdbbgencaaDoorAlPM
import Derived.Test.YtpjfihdbbgencaaDoorMapI
namespace Go.Proofs.YtpjfihdbbgencaaDoor
open Go.RowKit Go.Maps
set_option linter.unusedVariables false
set_option linter.unusedSimpArgs false
def firesB (st : Int) : Bool := decide (st = 2) || decide (st = 3)
theorem goS_fires (st si : Int) (h : Bool) (t hold rest : Int) (sil : Bool) (h0 : (goS st si h t hold rest sil).2.2 = 0) : firesB (goS st si h t hold rest sil).1 = firesB st := by
  unfold goS at h0 ⊢
  dsimp only at h0 ⊢
  repeat' split at h0
  all_goals first | (exact absurd h0 (by decide)) | skip
  all_goals (repeat' split)
  all_goals (cases h <;> simp_all [firesB])
theorem goS_kind (st si : Int) (h : Bool) (t hold rest : Int) (sil : Bool) (hk : (goS st si h t hold rest sil).2.2 ≠ 0) : (goS st si h t hold rest sil).2.2 = (if firesB st then 2 else 1) ∧ firesB (goS st si h t hold rest sil).1 = !firesB st := by
  unfold goS at hk ⊢
  dsimp only at hk ⊢
  repeat' split at hk
  all_goals first | (exact absurd rfl hk) | skip
  all_goals (repeat' split)
  all_goals (cases h <;> simp_all [firesB])
theorem tk_fires {cs : List Ct} {sl : List Sil} {t : Int} {x : Wd} (h : (tkR cs sl t x).2.2 = 0) : firesB (tkW cs sl t x).st = firesB x.st := goS_fires _ _ _ _ _ _ _ h
theorem tk_kind {cs : List Ct} {sl : List Sil} {t : Int} {x : Wd} (h : (tkR cs sl t x).2.2 ≠ 0) : (tkR cs sl t x).2.2 = (if firesB x.st then 2 else 1) ∧ firesB (tkW cs sl t x).st = !firesB x.st := goS_kind _ _ _ _ _ _ _ h
theorem mem_tkN {cs : List Ct} {sl : List Sil} {t : Int} {x : Wd} {nt : Nt} (h : nt ∈ tkN cs sl t x) : (tkR cs sl t x).2.2 ≠ 0 ∧ nt = ⟨t, x.r.name, (tkR cs sl t x).2.2, (seeV cs x.r t).1⟩ := by
  unfold tkN at h
  split at h
  · cases h
  · rename_i hne
    exact ⟨hne, by simpa using h⟩
theorem mem_ns {cs : List Ct} {sl : List Sil} {t : Int} {ws : List Wd} {nt : Nt} (h : nt ∈ ws.flatMap (tkN cs sl t)) : ∃ x ∈ ws, (tkR cs sl t x).2.2 ≠ 0 ∧ nt = ⟨t, x.r.name, (tkR cs sl t x).2.2, (seeV cs x.r t).1⟩ := by
  obtain ⟨x, hx, hm⟩ := List.mem_flatMap.1 h
  exact ⟨x, hx, mem_tkN hm⟩
theorem ns_of {cs : List Ct} {sl : List Sil} {t : Int} {ws : List Wd} {x : Wd} (hx : x ∈ ws) (h : (tkR cs sl t x).2.2 ≠ 0) : x.r.name ∈ (ws.flatMap (tkN cs sl t)).map (·.rule) := by
  refine List.mem_map.2 ⟨⟨t, x.r.name, (tkR cs sl t x).2.2, (seeV cs x.r t).1⟩, List.mem_flatMap.2 ⟨x, hx, ?_⟩, rfl⟩
  unfold tkN
  rw [if_neg h]
  exact List.mem_singleton.2 rfl
theorem nodup_ns {cs : List Ct} {sl : List Sil} {t : Int} : ∀ {ws : List Wd}, (ws.map fun x => x.r.name).Nodup → ((ws.flatMap (tkN cs sl t)).map (·.rule)).Nodup
  | [], _ => by simp
  | x :: ws, h => by
    rw [List.map_cons, List.nodup_cons] at h
    have ih := nodup_ns (cs := cs) (sl := sl) (t := t) h.2
    rw [List.flatMap_cons, List.map_append]
    by_cases hk : (tkR cs sl t x).2.2 = 0
    · rw [show tkN cs sl t x = [] by unfold tkN; rw [if_pos hk]]
      simpa using ih
    · rw [show tkN cs sl t x = [⟨t, x.r.name, (tkR cs sl t x).2.2, (seeV cs x.r t).1⟩] by unfold tkN; rw [if_neg hk]]
      rw [List.map_cons, List.map_nil, List.singleton_append, List.nodup_cons]
      refine ⟨fun hm => ?_, ih⟩
      obtain ⟨nt, hnt, he⟩ := List.mem_map.1 hm
      obtain ⟨y, hy, _, rfl⟩ := mem_ns hnt
      exact h.1 (List.mem_map.2 ⟨y, hy, he⟩)
theorem nodup_inj {ws : List Wd} (h : (ws.map fun x => x.r.name).Nodup) : ∀ {x y : Wd}, x ∈ ws → y ∈ ws → x.r.name = y.r.name → x = y := by
  induction ws with
  | nil => intro x y hx; cases hx
  | cons z ws ih =>
    rw [List.map_cons, List.nodup_cons] at h
    intro x y hx hy e
    rcases List.mem_cons.1 hx with rfl | hx' <;> rcases List.mem_cons.1 hy with rfl | hy'
    · rfl
    · exact absurd (List.mem_map.2 ⟨y, hy', e.symm⟩ : x.r.name ∈ ws.map fun x => x.r.name) h.1
    · exact absurd (List.mem_map.2 ⟨x, hx', e⟩ : y.r.name ∈ ws.map fun x => x.r.name) h.1
    · exact ih h.2 hx' hy' e
theorem nodup_names {l : List Rl} (h : rlErr l = 0) : (l.map (·.name)).Nodup := by
  unfold rlErr at h
  split at h
  · cases h
  rw [List.nodup_iff_pairwise_ne, List.pairwise_iff_getElem]
  intro i j hi hj hij e
  rw [List.length_map] at hi hj
  have h2 := firstErr_all h j hj
  unfold rlErrAt at h2
  rw [List.getElem?_eq_getElem hj] at h2
  simp only at h2
  split at h2
  · split at h2
    · cases h2
    · rename_i hc
      refine hc ?_
      rw [List.contains_iff_mem, rlKeys]
      rw [List.getElem_map, List.getElem_map] at e
      refine List.mem_map.2 ⟨l[i], List.mem_iff_getElem.2 ⟨i, by rw [List.length_take]; omega, by rw [List.getElem_take]⟩, by rw [e]⟩
  · cases h2
def keyN (r : ByteArray) : Lit := .string r.data.toList
theorem keyN_ne {a b : ByteArray} (h : a ≠ b) : keyN a ≠ keyN b := by
  intro e
  unfold keyN at e
  injection e with e
  exact h (ByteArray.ext (Array.toList_inj.1 e))
/-- What is said of each rule, where 'names' have been told now. -/
structure ParOk (D : DataW Unit) (j : Nat) (names : List ByteArray) (f : Wd → Wd) (ws : List Wd) : Prop where
  map : IsMap D
  par : ∀ x ∈ ws, ∃ c : Nat, D.atKey (keyN x.r.name) (.lit (.int .i64 0)) = .lit (.int .i64 (c : Int)) ∧ c ≤ j + 1 ∧ (x.r.name ∉ names → c ≤ j) ∧ (x.r.name ∈ names → decide (c % 2 = 1) = firesB (f x).st) ∧ (x.r.name ∉ names → decide (c % 2 = 1) = firesB x.st)
theorem ParOk.start (l : List Rl) (t : Int) (f : Wd → Wd) : ParOk (.map []) 0 [] f (l.map (wd0 t)) := by
  refine ⟨isMap_empty, fun x hx => ⟨0, rfl, by omega, fun _ => Nat.le_refl _, fun h => (by cases h), fun _ => ?_⟩⟩
  obtain ⟨r, _, rfl⟩ := List.mem_map.1 hx
  simp [wd0, firesB]
theorem ParOk.other {D : DataW Unit} {j : Nat} {f g : Wd → Wd} {ws : List Wd} (h : ParOk D j [] f ws) : ParOk D j [] g ws :=
  ⟨h.map, fun x hx => by obtain ⟨c, h1, h2, h3, _, h4⟩ := h.par x hx; exact ⟨c, h1, h2, h3, fun h => (by cases h), h4⟩⟩
theorem ParOk.step {D : DataW Unit} {j : Nat} {names : List ByteArray} {f : Wd → Wd} {ws : List Wd} (h : ParOk D j names f ws) (hn : (ws.map fun x => x.r.name).Nodup) {x : Wd} (hx : x ∈ ws) (hm : x.r.name ∉ names) (hf : firesB (f x).st = !firesB x.st) {c : Int}
    (hc : D.atKey (keyN x.r.name) (.lit (.int .i64 0)) = .lit (.int .i64 c)) : ParOk (D.put (keyN x.r.name) (.lit (.int .i64 (c + 1)))) j (names ++ [x.r.name]) f ws := by
  refine ⟨h.map.put _ _, fun y hy => ?_⟩
  by_cases e : y.r.name = x.r.name
  · obtain rfl := nodup_inj hn hy hx e
    obtain ⟨c', h1, h2, h3, _, h4⟩ := h.par y hy
    rw [h1] at hc
    injection hc with hc
    injection hc with _ hc
    subst hc
    refine ⟨c' + 1, by rw [atKey_put_same h.map (show WideAt.IsKeyLit (keyN y.r.name) from trivial)]; simp, ?_, fun hnm => absurd (List.mem_append_right _ (List.mem_singleton.2 rfl)) hnm, fun _ => ?_, fun hnm => absurd (List.mem_append_right _ (List.mem_singleton.2 rfl)) hnm⟩
    · have := h3 hm; omega
    · rw [hf, ← h4 hm]
      by_cases hp : c' % 2 = 1
      · simp [hp]; omega
      · simp [hp]; omega
  · obtain ⟨c', h1, h2, h3, h5, h4⟩ := h.par y hy
    have hmm : y.r.name ∈ names ++ [x.r.name] ↔ y.r.name ∈ names := by simp [e]
    exact ⟨c', by rw [atKey_put_other (keyN_ne e)]; exact h1, h2, fun hnm => h3 (fun hh => hnm (hmm.2 hh)), fun hh => h5 (hmm.1 hh), fun hnm => h4 (fun hh => hnm (hmm.2 hh))⟩
theorem ParOk.done {D : DataW Unit} {j : Nat} {cs : List Ct} {sl : List Sil} {t : Int} {ws : List Wd} {g : Wd → Wd} (h : ParOk D j ((ws.flatMap (tkN cs sl t)).map (·.rule)) (tkW cs sl t) ws) (hn : (ws.map fun x => x.r.name).Nodup) : ParOk D (j + 1) [] g (ws.map (tkW cs sl t)) := by
  refine ⟨h.map, fun y hy => ?_⟩
  obtain ⟨x, hx, rfl⟩ := List.mem_map.1 hy
  obtain ⟨c, h1, h2, h3, h5, h4⟩ := h.par x hx
  refine ⟨c, h1, by omega, fun _ => h2, fun h => (by cases h), fun _ => ?_⟩
  by_cases hk : (tkR cs sl t x).2.2 = 0
  · have hnot : x.r.name ∉ (ws.flatMap (tkN cs sl t)).map (·.rule) := fun hm => by
      obtain ⟨nt, hnt, he⟩ := List.mem_map.1 hm
      obtain ⟨y, hy, hyk, rfl⟩ := mem_ns hnt
      obtain rfl := nodup_inj hn hy hx he
      exact hyk hk
    rw [h4 hnot, tk_fires hk]
  · exact h5 (ns_of hx hk)
/-- The notice at place q: of which rule, and that it has not been told yet. -/
theorem at_ns {cs : List Ct} {sl : List Sil} {t : Int} {ws : List Wd} {q : Nat} {nt : Nt} (hn : (ws.map fun x => x.r.name).Nodup) (h : (ws.flatMap (tkN cs sl t))[q]? = some nt) :
    ∃ x ∈ ws, nt.rule = x.r.name ∧ nt.at_ = t ∧ nt.kind = (if firesB x.st then 2 else 1) ∧ firesB (tkW cs sl t x).st = !firesB x.st ∧ x.r.name ∉ ((ws.flatMap (tkN cs sl t)).take q).map (·.rule) := by
  obtain ⟨x, hx, hk, rfl⟩ := mem_ns (List.mem_of_getElem? h)
  obtain ⟨h1, h2⟩ := tk_kind hk
  refine ⟨x, hx, rfl, rfl, h1, h2, fun hm => ?_⟩
  have hnd := nodup_ns (cs := cs) (sl := sl) (t := t) hn
  rw [List.nodup_iff_pairwise_ne, List.pairwise_iff_getElem] at hnd
  obtain ⟨hq, he⟩ := List.getElem?_eq_some_iff.1 h
  obtain ⟨nt, hnt, e⟩ := List.mem_map.1 hm
  obtain ⟨i, hi, rfl⟩ := List.mem_iff_getElem.1 hnt
  rw [List.length_take] at hi
  have h3 := hnd i q (by rw [List.length_map]; omega) (by rw [List.length_map]; omega) (by omega)
  rw [List.getElem_map, List.getElem_map, he] at h3
  rw [List.getElem_take] at e
  exact h3 e
end Go.Proofs.YtpjfihdbbgencaaDoor
