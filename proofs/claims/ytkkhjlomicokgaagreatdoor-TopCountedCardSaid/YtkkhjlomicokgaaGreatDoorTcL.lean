/- Plain law of TopCounted: what the groups add up to, and what the rule says. -/
import Derived.Test.YtkkhjlomicokgaaGreatDoorTpK
import Derived.Test.YtkkhjlomicokgaaGreatDoorAlPw
namespace Go.Proofs.YtkkhjlomicokgaaGreatDoor.Bk
open Go.RowKit
set_option linter.unusedVariables false
set_option linter.unusedSimpArgs false
/-- Records of a book in which each event weighs one; k events in all. -/
structure One (l : List Pr) (k : Nat) (last : Int) (i : Nat) : Prop where
  nd : (l.map Pr.p).Nodup
  len : l.length ≤ i
  eq : ∀ r ∈ l, r.ev = r.wt
  rng : ∀ r ∈ l, (0 ≤ r.g ∧ r.g ≤ last) ∧ 0 ≤ r.ev ∧ r.ev ≤ k
  sum : sumL (l.map Pr.ev) = k
  la : 0 ≤ last ∧ last ≤ i
theorem One.start : One [] 0 0 0 := ⟨by simp, Nat.le_refl _, by simp, by simp, rfl, by omega⟩
section
variable {l : List Pr} {k i : Nat} {last at_ : Int}
theorem One.more (h : One l k last i) : One l k last (i + 1) := ⟨h.nd, by have := h.len; omega, h.eq, h.rng, h.sum, by have := h.la; omega⟩
theorem One.ok (h : One l k last i) (hk : k ≤ 1000) (hi : i ≤ 1000) : ∀ r ∈ l, PrOk r := fun r hr => by
  have h1 := h.rng r hr
  have h2 := h.eq r hr
  have h3 := h.la
  exact ⟨by omega, by omega, by omega⟩
theorem sum_upP (s : List UInt8) (at_ : Int) : ∀ l : List Pr, (l.map Pr.p).Nodup → s ∈ l.map Pr.p → sumL ((upP s at_ 1 l).map Pr.ev) = sumL (l.map Pr.ev) + 1
  | [], _, h => by simp at h
  | r :: l, hn, h => by
    rw [List.map_cons, List.nodup_cons] at hn
    have h0 : ∀ m : List Pr, s ∉ m.map Pr.p → upP s at_ 1 m = m := fun m hm => by
      have h9 : upP s at_ 1 m = m.map id := List.map_congr_left fun x hx => if_neg fun e => hm (List.mem_map.2 ⟨x, hx, e⟩)
      rw [h9, List.map_id]
    by_cases e : r.p = s
    · have hs : s ∉ l.map Pr.p := e ▸ hn.1
      have e2 : upP s at_ 1 (r :: l) = upR at_ 1 r :: upP s at_ 1 l := by simp [upP, e]
      rw [e2, h0 l hs]
      simp only [List.map_cons, sumL, upR]
      omega
    · have hm : s ∈ l.map Pr.p := by
        rw [List.map_cons, List.mem_cons] at h
        exact h.resolve_left (fun e2 => e e2.symm)
      have e2 : upP s at_ 1 (r :: l) = r :: upP s at_ 1 l := by simp [upP, e]
      rw [e2]
      simp only [List.map_cons, sumL]
      rw [sum_upP s at_ l hn.2 hm]
      omega
theorem One.old (h : One l k last i) {s : List UInt8} (hs : s ∈ l.map Pr.p) : One (upP s at_ 1 l) (k + 1) last (i + 1) := by
  have hin : ∀ y ∈ upP s at_ 1 l, ∃ x ∈ l, y = x ∨ y = upR at_ 1 x := fun y hy => by
    obtain ⟨x, hx, rfl⟩ := List.mem_map.1 hy
    refine ⟨x, hx, ?_⟩
    split
    · exact .inr rfl
    · exact .inl rfl
  refine ⟨by rw [upP_keys]; exact h.nd, by rw [upP, List.length_map]; have := h.len; omega, fun y hy => ?_, fun y hy => ?_, ?_, by have := h.la; omega⟩
  · obtain ⟨x, hx, rfl | rfl⟩ := hin y hy
    · exact h.eq _ hx
    · have := h.eq _ hx; simp only [upR]; omega
  · obtain ⟨x, hx, rfl | rfl⟩ := hin y hy
    · have := h.rng _ hx; omega
    · have := h.rng _ hx; simp only [upR]; omega
  · rw [sum_upP s at_ l h.nd hs, h.sum]; omega
theorem One.new (h : One l k last i) {s : List UInt8} (hs : s ∉ l.map Pr.p) : One (l ++ [newR s last at_ 1]) (k + 1) (last + 1) (i + 1) := by
  have hin : ∀ y ∈ l ++ [newR s last at_ 1], y ∈ l ∨ y = newR s last at_ 1 := fun y hy => by simpa using hy
  have hla := h.la
  refine ⟨?_, by have := h.len; simp; omega, fun y hy => ?_, fun y hy => ?_, ?_, by omega⟩
  · rw [List.map_append, List.nodup_append]
    refine ⟨h.nd, by simp, fun a ha b hb => ?_⟩
    simp at hb
    subst hb
    exact fun e => hs (by exact e ▸ ha)
  · rcases hin y hy with hy | rfl
    · exact h.eq y hy
    · rfl
  · rcases hin y hy with hy | rfl
    · have := h.rng y hy; omega
    · simp only [newR]; omega
  · rw [List.map_append, sumL_append, h.sum]
    simp [sumL, newR]
end
/-- The groups' sums are the sum of all. -/
theorem sum_groups : ∀ (l : List Pr) (ids : List Int), ids.Nodup → (∀ r ∈ l, r.g ∈ ids) → sumL (ids.map fun i => sumL ((ofG i l).map Pr.ev)) = sumL (l.map Pr.ev)
  | [], ids, _, _ => by
    have : ∀ m : List Int, sumL (m.map fun i => sumL ((ofG i []).map Pr.ev)) = 0 := fun m => by
      induction m with
      | nil => rfl
      | cons a m ih => simp only [List.map_cons, sumL]; rw [ih]; simp [ofG, sumL]
    exact this ids
  | r :: l, ids, hn, hin => by
    have ih := sum_groups l ids hn (fun x hx => hin x (List.mem_cons_of_mem _ hx))
    have hone : ∀ m : List Int, m.Nodup → sumL (m.map fun i => sumL ((ofG i (r :: l)).map Pr.ev)) = sumL (m.map fun i => sumL ((ofG i l).map Pr.ev)) + (if r.g ∈ m then r.ev else 0) := fun m => by
      induction m with
      | nil => intro _; simp [sumL]
      | cons a m ih2 =>
        intro hm
        rw [List.nodup_cons] at hm
        have ih3 := ih2 hm.2
        simp only [List.map_cons, sumL]
        rw [ih3]
        by_cases e : r.g = a
        · have : r.g ∉ m := e ▸ hm.1
          rw [if_neg this, if_pos (by simp [e])]
          have e2 : ofG a (r :: l) = r :: ofG a l := by simp [ofG, e]
          rw [e2]
          simp only [List.map_cons, sumL]
          omega
        · have e2 : ofG a (r :: l) = ofG a l := by simp [ofG, e]
          rw [e2]
          have e3 : (r.g ∈ a :: m) ↔ r.g ∈ m := by simp [e]
          simp only [e3]
          omega
    rw [hone ids hn, ih, if_pos (hin r List.mem_cons_self)]
    simp only [List.map_cons, sumL]
    omega
theorem sumL_congr {l : List Pr} (h : ∀ r ∈ l, r.ev = r.wt) : sumL (l.map Pr.ev) = sumL (l.map Pr.wt) := by
  rw [List.map_congr_left h]
theorem grO_one {l : List Pr} (h : ∀ r ∈ l, r.ev = r.wt) (i : Int) : (grO i l).ev = (grO i l).wt := sumL_congr fun r hr => h r (List.mem_filter.1 hr).1
theorem nodup_of_up {gs : List Gr} (h : gs.Pairwise fun x y => x.id < y.id) : (gs.map Gr.id).Nodup := by
  rw [List.nodup_iff_pairwise_ne, List.pairwise_map]
  exact h.imp fun h => by omega
/-- What the groups in memory have together. -/
theorem sum_grs {B : Nat} {w : World} {v : Value} {l : List Pr} {es : List Ge} (h : GrsIn B w v l es) : sumL (es.map Ge.ev) = sumL (l.map Pr.ev) := by
  have h1 := nodup_of_up h.gr.up
  rw [List.map_map, show (Gr.id ∘ fun e : Ge => grO e.id l) = Ge.id from rfl] at h1
  rw [← sum_groups l (es.map Ge.id) h1 fun r hr => ?_]
  · rw [List.map_map]
    exact congrArg sumL (List.map_congr_left fun e he => (h.at_ e he).1)
  · obtain ⟨g, hg, e⟩ := (h.gr.has r.g).2 ⟨r, hr, rfl⟩
    obtain ⟨x, hx, rfl⟩ := List.mem_map.1 hg
    exact List.mem_map.2 ⟨x, hx, by rw [← e]; rfl⟩
theorem len_grs {B : Nat} {w : World} {v : Value} {l : List Pr} {es : List Ge} (h : GrsIn B w v l es) : es.length ≤ l.length := by
  have h1 := nodup_of_up h.gr.up
  rw [List.map_map, show (Gr.id ∘ fun e : Ge => grO e.id l) = Ge.id from rfl] at h1
  have h2 : (es.map Ge.id).length ≤ (l.map Pr.g).length := h1.length_le_of_subset fun i hi => by
    obtain ⟨x, hx, rfl⟩ := List.mem_map.1 hi
    obtain ⟨r, hr, e⟩ := (h.gr.has x.id).1 ⟨_, List.mem_map.2 ⟨x, hx, rfl⟩, rfl⟩
    exact List.mem_map.2 ⟨r, hr, e⟩
  simpa using h2
open al
def rlAll : Rl := ⟨⟨#[97, 108, 108]⟩, ⟨#[]⟩, 1, 1, 604800, 0, 0⟩
/-- Counts of one each, none later than t. -/
def Cnt1 (cs : List Ct) (t : Int) : Prop := ∀ c ∈ cs, ∃ a : Int, c = ⟨⟨#[107]⟩, a, 1⟩ ∧ 0 ≤ a ∧ a ≤ t
theorem Cnt1.up {cs : List Ct} {t u : Int} (h : Cnt1 cs t) (htu : t ≤ u) : Cnt1 cs u := fun c hc => by
  obtain ⟨a, e, h1, h2⟩ := h c hc
  exact ⟨a, e, h1, by omega⟩
theorem Cnt1.snoc {cs : List Ct} {t : Int} (h : Cnt1 cs t) (h0 : 0 ≤ t) : Cnt1 (cs ++ [⟨⟨#[107]⟩, t, 1⟩]) t := fun c hc => by
  rcases List.mem_append.1 hc with hc | hc
  · exact h c hc
  · simp at hc
    exact ⟨t, hc, h0, Int.le_refl _⟩
theorem Cnt1.sum {t : Int} (ht : t ≤ 400000) : ∀ {cs : List Ct}, Cnt1 cs t → sumC ⟨#[]⟩ (t - 604800) t cs = cs.length
  | [], _ => rfl
  | c :: cs, h => by
    obtain ⟨a, rfl, h1, h2⟩ := h c List.mem_cons_self
    have ih := Cnt1.sum ht (cs := cs) fun x hx => h x (List.mem_cons_of_mem _ hx)
    have hh : hitB ⟨#[]⟩ (t - 604800) t ⟨⟨#[107]⟩, a, 1⟩ = true := by
      unfold hitB
      rw [decide_eq_true (show t - 604800 < a by omega), decide_eq_true (show a ≤ t from h2)]
      rfl
    have e : sumC ⟨#[]⟩ (t - 604800) t (⟨⟨#[107]⟩, a, 1⟩ :: cs) = 1 + sumC ⟨#[]⟩ (t - 604800) t cs := by simp [sumC, hh]
    rw [e, ih, List.length_cons]
    omega
theorem rlAll_ok : rlErr [rlAll] = 0 := by decide +kernel
theorem wdAll_ok : WdOk 0 (wd0 0 rlAll) := ⟨by decide, by decide, by decide, by decide, by decide, by decide, by decide, by decide⟩
/-- What the rule says at last. -/
theorem said_all {cs : List Ct} {t : Int} (h : Cnt1 cs t) (ht : t ≤ 400000) : (tkW cs [] t (wd0 0 rlAll)).va = cs.length ∧ decide ((tkW cs [] t (wd0 0 rlAll)).st = 2) = decide (0 < (cs.length : Int)) := by
  have e : seeV cs rlAll t = ((cs.length : Int), 0) := by
    rw [seeV, if_neg (by decide)]
    exact congrArg (fun x => (x, (0 : Int))) (Cnt1.sum ht h)
  have e2 : (seeV cs (wd0 0 rlAll).r t) = ((cs.length : Int), 0) := e
  refine ⟨by rw [tkW]; simp only; rw [e2], ?_⟩
  rw [tkW, tkR]
  simp only
  rw [e2]
  have e3 : holdsB (wd0 0 rlAll).r (cs.length : Int) 0 = decide (1 ≤ (cs.length : Int)) := rfl
  rw [show ((cs.length : Int), (0 : Int)).1 = (cs.length : Int) from rfl, show ((cs.length : Int), (0 : Int)).2 = 0 from rfl, e3]
  have e4 : silB (wd0 0 rlAll).r.name t [] = false := rfl
  rw [e4]
  by_cases hp : 0 < (cs.length : Int)
  · rw [decide_eq_true (show 1 ≤ (cs.length : Int) by omega), decide_eq_true hp]
    simp [goS, wd0, rlAll]
  · rw [decide_eq_false (show ¬ 1 ≤ (cs.length : Int) by omega), decide_eq_false hp]
    simp [goS, wd0, rlAll]
end Go.Proofs.YtkkhjlomicokgaaGreatDoor.Bk
