/- GroupSums: what is kept in a round; each print once; the sums. -/
import Derived.Test.YtmogfmpcfdlpfaaDoorBkUl
import Derived.Test.YtmogfmpcfdlpfaaDoorMapB
namespace Go.Proofs.YtmogfmpcfdlpfaaDoor.Bk
open Go.RowKit Go.Maps Go.Sort
set_option linter.unusedVariables false
set_option linter.unusedSimpArgs false
/-- The groups' sums are the sum of all. -/
theorem sum_groupsF (f : Pr → Int) : ∀ (l : List Pr) (ids : List Int), ids.Nodup → (∀ r ∈ l, r.g ∈ ids) → sumL (ids.map fun i => sumL ((ofG i l).map f)) = sumL (l.map f)
  | [], ids, _, _ => by
    have : ∀ m : List Int, sumL (m.map fun i => sumL ((ofG i []).map f)) = 0 := fun m => by
      induction m with
      | nil => rfl
      | cons a m ih => simp only [List.map_cons, sumL]; rw [ih]; simp [ofG, sumL]
    exact this ids
  | r :: l, ids, hn, hin => by
    have ih := sum_groupsF f l ids hn (fun x hx => hin x (List.mem_cons_of_mem _ hx))
    have hone : ∀ m : List Int, m.Nodup → sumL (m.map fun i => sumL ((ofG i (r :: l)).map f)) = sumL (m.map fun i => sumL ((ofG i l).map f)) + (if r.g ∈ m then f r else 0) := fun m => by
      induction m with
      | nil => intro _; simp [sumL]
      | cons a m ih2 =>
        intro hm
        rw [List.nodup_cons] at hm
        have ih3 := ih2 hm.2
        simp only [List.map_cons, sumL]
        rw [ih3]
        by_cases e : r.g = a
        · have : r.g ∉ m := e ▸ hm.1
          rw [if_neg this, if_pos (by simp [e])]
          have e2 : ofG a (r :: l) = r :: ofG a l := by simp [ofG, e]
          rw [e2]
          simp only [List.map_cons, sumL]
          omega
        · have e2 : ofG a (r :: l) = ofG a l := by simp [ofG, e]
          rw [e2]
          have e3 : (r.g ∈ a :: m) ↔ r.g ∈ m := by simp [e]
          simp only [e3]
          omega
    rw [hone ids hn, ih, if_pos (hin r List.mem_cons_self)]
    simp only [List.map_cons, sumL]
    omega
theorem ids_nodup {B : Nat} {w : World} {v : Value} {l : List Pr} {es : List Ge} (h : GrsIn B w v l es) : (es.map Ge.id).Nodup := by
  have h1 := nodup_of_upG h.gr.up
  rwa [List.map_map, show (Gr.id ∘ fun e : Ge => grO e.id l) = Ge.id from rfl] at h1
theorem ids_all {B : Nat} {w : World} {v : Value} {l : List Pr} {es : List Ge} (h : GrsIn B w v l es) : ∀ r ∈ l, r.g ∈ es.map Ge.id := fun r hr => by
  obtain ⟨g, hg, e⟩ := (h.gr.has r.g).2 ⟨r, hr, rfl⟩
  obtain ⟨x, hx, rfl⟩ := List.mem_map.1 hg
  exact List.mem_map.2 ⟨x, hx, by rw [← e]; rfl⟩
theorem sum_both {B : Nat} {w : World} {v : Value} {l : List Pr} {es : List Ge} (h : GrsIn B w v l es) : sumL (es.map Ge.ev) = sumL (l.map Pr.ev) ∧ sumL (es.map Ge.wt) = sumL (l.map Pr.wt) := by
  refine ⟨?_, ?_⟩
  · rw [← sum_groupsF Pr.ev l _ (ids_nodup h) (ids_all h), List.map_map]
    exact congrArg sumL (List.map_congr_left fun e he => (h.at_ e he).1)
  · rw [← sum_groupsF Pr.wt l _ (ids_nodup h) (ids_all h), List.map_map]
    exact congrArg sumL (List.map_congr_left fun e he => (h.at_ e he).2.1)
theorem prs_nodup {l : List Pr} (h : (l.map Pr.p).Nodup) (id : Int) : (prs id l).Nodup := by
  rw [prs, (srtP_perm _).nodup_iff]
  exact h.sublist (List.filter_sublist.map _)
/-- The prints of the first groups. -/
def seenL (l : List Pr) (es : List Ge) (j : Nat) : List (List UInt8) := (es.take j).flatMap fun e => prs e.id l
theorem seenL_succ {l : List Pr} {es : List Ge} {j : Nat} {x : Ge} (h : es[j]? = some x) : seenL l es (j + 1) = seenL l es j ++ prs x.id l := by
  rw [seenL, take_succ_get h, List.flatMap_append, List.flatMap_singleton]; rfl
theorem not_seen {l : List Pr} (hnd : (l.map Pr.p).Nodup) {es : List Ge} (hid : (es.map Ge.id).Nodup) {j q : Nat} {x : Ge} {s : List UInt8} (hx : es[j]? = some x) (hs : (prs x.id l)[q]? = some s) : (seenL l es j ++ (prs x.id l).take q).contains s = false := by
  rw [Bool.eq_false_iff]
  intro hc
  rw [List.contains_iff_mem] at hc
  obtain ⟨r, hr, hg, hp⟩ := mem_prs.1 (List.mem_of_getElem? hs)
  rcases List.mem_append.1 hc with hc | hc
  · obtain ⟨y, hy, hsy⟩ := List.mem_flatMap.1 hc
    obtain ⟨r2, hr2, hg2, hp2⟩ := mem_prs.1 hsy
    obtain rfl := all_come.nodup_inj hnd hr2 hr (hp2.trans hp.symm)
    obtain ⟨i, hi, e⟩ := List.mem_iff_getElem.1 hy
    rw [List.length_take] at hi
    have hjl := (List.getElem?_eq_some_iff.1 hx).1
    have h1 := List.pairwise_iff_getElem.1 (List.nodup_iff_pairwise_ne.1 hid) i j (by rw [List.length_map]; omega) (by rw [List.length_map]; exact hjl) (by omega)
    rw [List.getElem_map, List.getElem_map] at h1
    rw [List.getElem_take] at e
    have e2 := (List.getElem?_eq_some_iff.1 hx).2
    exact h1 (by rw [e, e2, ← hg2, hg])
  · obtain ⟨i, hi, e⟩ := List.mem_iff_getElem.1 hc
    rw [List.length_take] at hi
    rw [List.getElem_take] at e
    have hql := (List.getElem?_eq_some_iff.1 hs).1
    have e2 := (List.getElem?_eq_some_iff.1 hs).2
    have h1 := List.pairwise_iff_getElem.1 (List.nodup_iff_pairwise_ne.1 (prs_nodup hnd x.id)) i q (by omega) hql (by omega)
    exact h1 (by rw [e, e2])
/-- A book in the rounds. -/
def SJ (B p mb : Nat) (l0 : List Pr) (ss : List Stp) (l : List Pr) (i : Nat) (w : World) : Prop :=
  ∃ (mn : Nat) (last : Int) (sv : Value) (bk : List UInt8 → Nat), BS B w p mb mn last sv l bk ss ∧ Rec l last i ∧ Chain l0 ss l ∧ B ≤ w.heap.size
section
variable {B p mb : Nat} {l0 l : List Pr} {ss : List Stp} {i : Nat} {w w' : World}
theorem SJ.below (h : SJ B p mb l0 ss l i w) (hb : Below w.heap.size w w') : SJ B p mb l0 ss l i w' := by
  obtain ⟨mn, last, sv, bk, h1, h2, h3, h4⟩ := h
  exact ⟨mn, last, sv, bk, h1.below hb, h2, h3, Nat.le_trans h4 hb.size⟩
theorem SJ.keep1 (h : SJ B p mb l0 ss l i w) {M : Nat} (hk : Keep M (fun k => k = M) w w') (hM : w.heap.size ≤ M) : SJ B p mb l0 ss l i w' := by
  obtain ⟨mn, last, sv, bk, h1, h2, h3, h4⟩ := h
  exact ⟨mn, last, sv, bk, h1.keep fun k o hb e => hk.keep k o e (fun e2 => by have := lt_of_block e; omega), h2, h3, Nat.le_trans h4 hk.be.size⟩
end
/-- What an operation of the round leaves. -/
def NX (X : UX) (ss : List Stp) (l : List Pr) (i : Nat) (w w' : World) : Prop :=
  ∃ (ss' : List Stp) (l' : List Pr), SJ X.B X.p X.mb X.l0 ss' l' (i + 1) w' ∧ ss'.length ≤ ss.length + 1 ∧ sumL (l'.map Pr.ev) = sumL (l.map Pr.ev) ∧ sumL (l'.map Pr.wt) = sumL (l.map Pr.wt) ∧ Below X.B w w'
section
variable {X : UX} {ss : List Stp} {l : List Pr} {i : Nat} {w w' : World}
theorem UJ.sj (h : UJ X ss l i w) : SJ X.B X.p X.mb X.l0 ss l i w := by
  obtain ⟨mn, last, sv, bk, h1, h2, h3, h4, h5, h6, h7, h8⟩ := h
  exact ⟨mn, last, sv, bk, h1, h2, h3, by omega⟩
theorem Merge_nx (h : UJ X ss l i w) (hi : i ≤ 100) (hss : ss.length < 300) (a b : Int) :
    Calls Tryd.prog 9 #[.pointer (some ⟨X.p, 0, none⟩), .int .i64 a, .int .i64 b] w fun e w' => ∃ x : Int, e = .returned (.int .i64 x) ∧ NX X ss l i w w' := by
  refine (Merge_uj h hi hss a b).mono ?_
  rintro e w' ⟨x, rfl, hb, ⟨_, hu⟩ | ⟨_, st, l', hu, h1, h2⟩⟩
  · exact ⟨x, rfl, ss, l, (hu.moreU (Nat.le_succ _)).sj, by omega, rfl, rfl, hb⟩
  · exact ⟨x, rfl, ss ++ [st], l', hu.sj, by simp, h1, h2, hb⟩
theorem Split_nx (h : UJ X ss l i w) (hi : i ≤ 100) (hss : ss.length < 300) (a : Int) (A : Option Addr) (n c : Nat) (ps : List (List UInt8)) (hs : Sl w w.heap.size se 1 A n ps) (hn : n ≤ maxLen) (hsz : ∀ s ∈ ps, s.length ≤ maxLen)
    (hsep : 0 < n → ∀ b o, A = some ⟨b, o, none⟩ → b < X.B ∨ (X.z1 ≤ b ∧ b < X.z2) ∨ ∃ cs, w.heap[b]? = some (.cells cs 9 (0, 0))) :
    Calls Tryd.prog 10 #[.pointer (some ⟨X.p, 0, none⟩), .int .i64 a, .slice A n c] w fun e w' => ∃ z x : Int, e = .returned (.tuple #[.int .i64 z, .int .i64 x]) ∧ NX X ss l i w w' := by
  refine (Split_uj h hi hss a A n c ps hs hn hsz hsep).mono ?_
  rintro e w' ⟨z, x, rfl, hb, ⟨_, hu⟩ | ⟨_, st, l', hu, h1, h2⟩⟩
  · exact ⟨z, x, rfl, ss, l, (hu.moreU (Nat.le_succ _)).sj, by omega, rfl, rfl, hb⟩
  · exact ⟨z, x, rfl, ss ++ [st], l', hu.sj, by simp, h1, h2, hb⟩
theorem Undo_nx (h : UJ X ss l i w) (hi : i ≤ 100) (hss : ss.length < 300) :
    Calls Tryd.prog 11 #[.pointer (some ⟨X.p, 0, none⟩)] w fun e w' => ∃ b : Bool, e = .returned (.bool b) ∧ NX X ss l i w w' := by
  refine (Undo_uj h hi hss).mono ?_
  rintro e w' ⟨hb, ⟨rfl, rfl, rfl⟩ | ⟨ss', st, l', rfl, rfl, hu, h1, h2⟩⟩
  · exact ⟨false, rfl, [], l, (h.moreU (Nat.le_succ _)).sj, by simp, rfl, rfl, hb⟩
  · exact ⟨true, rfl, ss', l', hu.sj, by simp; omega, h1, h2, hb⟩
end
end Go.Proofs.YtmogfmpcfdlpfaaDoor.Bk
