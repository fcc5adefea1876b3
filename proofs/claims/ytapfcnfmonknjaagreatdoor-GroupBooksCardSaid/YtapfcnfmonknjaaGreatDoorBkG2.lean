/- Groups: what the two loops keep. Plain law, and the pieces of memory. -/
import Derived.Test.YtapfcnfmonknjaaGreatDoorBkG
namespace Go.Proofs.YtapfcnfmonknjaaGreatDoor.Bk
open Go.RowKit Go.Maps Go.Sort
set_option linter.unusedVariables false
set_option linter.unusedSimpArgs false
theorem law_i : Keyed Tryz.prog 3 := int_keyed Tryz.underlying3
theorem wf_i {x : Int} (h : 0 ≤ x ∧ x ≤ 1000000) : (Lit.int .i64 x).wf = true := by
  rw [Lit.wf]
  simp only [Bool.and_eq_true, decide_eq_true_eq]
  exact ⟨show (-9223372036854775808 : Int) ≤ _ by omega, show _ ≤ (9223372036854775807 : Int) by omega⟩
theorem key_i {x : Int} (h : 0 ≤ x ∧ x ≤ 1000000) : keyOf Tryz.prog 3 (.int .i64 x) = some (.int .i64 x) := keyOf_int_mk Tryz.underlying3 (wf_i h)
theorem zero_g (w : World) : (zeroValue 75).run Tryz.prog w = .ok (.pointer none) w := by kernel_rfl
theorem key_inv {key : Value} {kl : Lit} (h : keyOf Tryz.prog 9 key = some kl) : ∃ s : ByteArray, key = .string s ∧ kl = .string s.data.toList := by
  have hk := Tryz.underlying9
  cases key <;> simp [keyOf, hk, mapKey] at h
  obtain ⟨_, rfl⟩ := h
  exact ⟨_, rfl, rfl⟩
theorem ptE_inv2 {v : Value} {y : DataW Unit × List MemPlace} (h : ptE v = some y) : ∃ q, v = ptV q := by obtain ⟨q, e, _⟩ := ptE_inv h; exact ⟨q, e⟩
theorem info_grp : (Tryz.prog.info? 44).map (fun i => (i.zero, i.size, i.bytes)) = some (some (.agg #[.int .i64 0, .slice none 0 0, .int .i64 0, .int .i64 0, .int .i64 0, .int .i64 0]), 6, 64) := by kernel_rfl
theorem info_strg : (Tryz.prog.info? 9).map (fun i => (i.zero, i.size, i.bytes)) = some (some (.string ByteArray.empty), 1, 16) := by kernel_rfl
/-- What came is in the groups. -/
structure GIn (m : List Pr) (is : List Int) (gd : Int → Gr) : Prop where
  ids : ∀ i, i ∈ is ↔ ∃ r ∈ m, r.g = i
  eq : ∀ i ∈ is, gd i = rawG i m
def addG (g : Gr) (r : Pr) : Gr := ⟨g.id, g.ps ++ [r.p], g.ev + r.ev, g.wt + r.wt, min g.fi r.fi, max g.la r.la⟩
def zerG (r : Pr) : Gr := ⟨r.g, [], 0, 0, r.fi, r.la⟩
section
variable {m : List Pr} {is : List Int} {gd : Int → Gr} {r : Pr}
theorem GIn.start (gd : Int → Gr) : GIn [] [] gd := ⟨fun i => by simp, fun i hi => by simp at hi⟩
theorem GIn.old (h : GIn m is gd) (hr : r.g ∈ is) : GIn (m ++ [r]) is (upd gd r.g (addG (gd r.g) r)) := by
  refine ⟨fun i => ?_, fun i hi => ?_⟩
  · rw [h.ids]
    constructor
    · rintro ⟨x, hx, e⟩; exact ⟨x, List.mem_append_left _ hx, e⟩
    · rintro ⟨x, hx, e⟩
      rcases List.mem_append.1 hx with hx | hx
      · exact ⟨x, hx, e⟩
      · obtain rfl : x = r := by simpa using hx
        exact e ▸ (h.ids _).1 hr
  · by_cases e : i = r.g
    · subst e
      rw [upd_same, rawG_same m r ((h.ids _).1 hr), h.eq _ hr]
      rfl
    · rw [upd_other _ _ e, rawG_other m (Ne.symm e)]; exact h.eq i hi
theorem GIn.new (h : GIn m is gd) (hr : r.g ∉ is) : GIn (m ++ [r]) (is ++ [r.g]) (upd (upd gd r.g (zerG r)) r.g (addG (upd gd r.g (zerG r) r.g) r)) := by
  have hno : ¬ ∃ x ∈ m, x.g = r.g := fun e => hr ((h.ids _).2 e)
  refine ⟨fun i => ?_, fun i hi => ?_⟩
  · rw [List.mem_append, h.ids]
    constructor
    · rintro (⟨x, hx, e⟩ | e)
      · exact ⟨x, List.mem_append_left _ hx, e⟩
      · exact ⟨r, by simp, (List.mem_singleton.1 e).symm⟩
    · rintro ⟨x, hx, e⟩
      rcases List.mem_append.1 hx with hx | hx
      · exact .inl ⟨x, hx, e⟩
      · obtain rfl : x = r := by simpa using hx
        exact .inr (by simp [e])
  · by_cases e : i = r.g
    · subst e
      rw [upd_same, upd_same, rawG_new m r hno]
      simp [addG, zerG]
    · rw [upd_other _ _ e, upd_other _ _ e, rawG_other m (Ne.symm e)]
      rcases List.mem_append.1 hi with hi | hi
      · exact h.eq i hi
      · exact absurd (by simpa using hi) e
end
theorem sumL_le {M : Int} (hM : 0 ≤ M) : ∀ l : List Int, (∀ x ∈ l, 0 ≤ x ∧ x ≤ M) → 0 ≤ sumL l ∧ sumL l ≤ l.length * M
  | [], _ => by simp [sumL]
  | x :: l, h => by
    have h1 := h x List.mem_cons_self
    have h2 := sumL_le hM l fun y hy => h y (List.mem_cons_of_mem _ hy)
    rw [sumL, List.length_cons]
    refine ⟨by omega, ?_⟩
    have : ((l.length + 1 : Nat) : Int) * M = l.length * M + M := by rw [Int.natCast_add, Int.add_mul]; simp
    omega
/-- What each record of a book may be. -/
structure PrOk (r : Pr) : Prop where
  g : 0 ≤ r.g ∧ r.g ≤ 1000000
  ev : 0 ≤ r.ev ∧ r.ev ≤ 1000000
  wt : 0 ≤ r.wt ∧ r.wt ≤ 1000000000000
theorem rawG_rng {m : List Pr} (h : ∀ r ∈ m, PrOk r) (hm : m.length ≤ 1000) (i : Int) : (0 ≤ (rawG i m).ev ∧ (rawG i m).ev ≤ 1000000000) ∧ (0 ≤ (rawG i m).wt ∧ (rawG i m).wt ≤ 1000000000000000) := by
  have hl : ((ofG i m).length : Int) ≤ 1000 := by have := ofG_len i m; omega
  have hs : ∀ r ∈ ofG i m, PrOk r := fun r hr => h r (List.mem_filter.1 hr).1
  have h1 := sumL_le (M := 1000000) (by decide) ((ofG i m).map Pr.ev) (fun x hx => by obtain ⟨r, hr, rfl⟩ := List.mem_map.1 hx; exact (hs r hr).ev)
  have h2 := sumL_le (M := 1000000000000) (by decide) ((ofG i m).map Pr.wt) (fun x hx => by obtain ⟨r, hr, rfl⟩ := List.mem_map.1 hx; exact (hs r hr).wt)
  rw [List.length_map] at h1 h2
  simp only [rawG]
  omega
theorem rawG_len (i : Int) (m : List Pr) : (rawG i m).ps.length ≤ m.length := by simp only [rawG, List.length_map]; exact ofG_len i m
/-- All records have come. -/
theorem all_come {l m : List Pr} {left : Lit → Bool} (h : Got Lit.string (l.map Pr.p) (m.map Pr.p) left) (hd : ∀ kl, left kl = false) (hn : (l.map Pr.p).Nodup) (hsub : ∀ r ∈ m, r ∈ l) : m.Perm l := by
  have hp := h.done hd hn
  have hl : l.Nodup := (List.pairwise_map.1 hn).imp fun hne e => hne (congrArg Pr.p e)
  have hm : m.Nodup := (List.pairwise_map.1 h.nd).imp fun hne e => hne (congrArg Pr.p e)
  rw [List.perm_ext_iff_of_nodup hm hl]
  refine fun x => ⟨hsub x, fun hx => ?_⟩
  obtain ⟨y, hy, e⟩ := List.mem_map.1 (hp.mem_iff.2 (List.mem_map.2 ⟨x, hx, rfl⟩))
  have : y = x := nodup_inj hn (hsub y hy) hx e
  exact this ▸ hy
where
  nodup_inj : ∀ {l : List Pr}, (l.map Pr.p).Nodup → ∀ {x y : Pr}, x ∈ l → y ∈ l → x.p = y.p → x = y := fun {l} => by
    induction l with
    | nil => intro _ x y hx; simp at hx
    | cons a l ih =>
      intro hn x y hx hy e
      rw [List.map_cons, List.nodup_cons] at hn
      rcases List.mem_cons.1 hx with ex | hx1
      · rcases List.mem_cons.1 hy with ey | hy1
        · rw [ex, ey]
        · exact absurd (List.mem_map.2 ⟨y, hy1, by rw [← e, ex]⟩) hn.1
      · rcases List.mem_cons.1 hy with ey | hy1
        · exact absurd (List.mem_map.2 ⟨x, hx1, by rw [e, ey]⟩) hn.1
        · exact ih hn.2 hx1 hy1 e
def slA : Value → Option Addr
  | .slice a _ _ => a
  | _ => none
def slN : Value → Nat
  | .slice _ n _ => n
  | _ => 0
def slC : Value → Nat
  | .slice _ _ c => c
  | _ => 0
def mkE (i : Int) (v : Value) (g : Gr) : Ge := ⟨i, slA v, slN v, slC v, g.ev, g.wt, g.fi, g.la⟩
/-- The groups of l lie in w behind v. -/
structure GrsIn (B : Nat) (w : World) (v : Value) (l : List Pr) (es : List Ge) : Prop where
  own : w.ownsRow B 44 6 v es.length (es.flatMap Ge.cs)
  gr : IsGr l (es.map fun e => grO e.id l)
  at_ : ∀ e ∈ es, e.ev = (grO e.id l).ev ∧ e.wt = (grO e.id l).wt ∧ e.fi = (grO e.id l).fi ∧ e.la = (grO e.id l).la
  ps : ∀ e ∈ es, w.ownsRow B 9 1 e.sl (grO e.id l).ps.length ((grO e.id l).ps.map encStr)
section
variable {B b n : Nat} {w w' : World} {D : DataW Unit} {is : List Int} {gk : Int → Nat} {gv : Int → Value} {gd : Int → Gr}
theorem GM.iter (h : GM B w b n D is gk gv gd) {r : Nat} (hg : w.grownBy w' (some r)) (hr : r ≠ b) (hB : r < B) : GM B w' b n D is gk gv gd :=
  h.keep fun k o hk e => (hg.block k (lt_of_block e) (fun e2 => by
    have hk1 : k = r := by cases e2; rfl
    rcases hk with rfl | ⟨i, hi, rfl⟩ | ⟨i, hi, e3⟩
    · exact hr hk1.symm
    · have := h.lo i hi; omega
    · have := ((h.row i hi).lt k e3).1; omega)).trans e
/-- A block that is none of theirs turns. -/
theorem GM.off (h : GM B w b n D is gk gv gd) {r : Nat} (hg : w.grownBy w' (some r)) (hr : ¬ GB b is gk gv r) : GM B w' b n D is gk gv gd :=
  h.keep fun k o hk e => (hg.block k (lt_of_block e) (fun e2 => hr (by cases e2; exact hk))).trans e
theorem GM.offv (h : GM B w b n D is gk gv gd) {r : Option Nat} (hg : w.grownBy w' r) (hr : ∀ k, r = some k → ¬ GB b is gk gv k) : GM B w' b n D is gk gv gd :=
  h.keep fun k o hk e => (hg.block k (lt_of_block e) (fun e2 => hr k e2.symm hk)).trans e
/-- A row is sorted where it lies. -/
theorem GM.sort (h : GM B w b n D is gk gv gd) {i : Int} (hi : i ∈ is) (g : Gr) (hg : g.id = i) (he : g.arr (gv i) = (gd i).arr (gv i))
    (hrow : w'.ownsRow B 9 1 (gv i) g.ps.length (g.ps.map encStr)) (hgr : w.grownBy w' (gv i).ownBlock) : GM B w' b n D is gk gv (upd gd i g) := by
  have h1 := h.set hi g (gv i) hg (by rw [he]; exact (hgr.block _ (lt_of_block (h.cell i hi)) (fun e => (h.rsep hi hi).1 e.symm)).trans (h.cell i hi)) hrow (.inl rfl) (fun k o e _ hne => (hgr.block k (lt_of_block e) (fun e2 => hne e2.symm)).trans e)
  have e : upd gv i (gv i) = gv := by
    funext j
    by_cases e : j = i
    · subst e; exact upd_same _ _ _
    · exact upd_other _ _ e
  rwa [e] at h1
theorem GM.sl (h : GM B w b n D is gk gv gd) {i : Int} (hi : i ∈ is) : gv i = .slice (slA (gv i)) (slN (gv i)) (slC (gv i)) := by
  obtain ⟨A, c, e⟩ := own_sl (h.row i hi)
  rw [e]; rfl
end
theorem rawG_id (i : Int) (m : List Pr) : (rawG i m).id = i := rfl
theorem grO_id (i : Int) (m : List Pr) : (grO i m).id = i := rfl
/-- The sorted row is the groups of all. -/
theorem grs_of {B : Nat} {w : World} {v : Value} {l m : List Pr} {is ts : List Int} {gv : Int → Value} {es : List Ge} (hml : m.Perm l) (hids : ∀ i, i ∈ is ↔ ∃ r ∈ m, r.g = i) (hts : ts.Perm is)
    (hp : es.Perm (ts.map fun i => mkE i (gv i) (grO i m))) (hs : es.Pairwise fun x y => x.id < y.id) (ho : w.ownsRow B 44 6 v es.length (es.flatMap Ge.cs))
    (hsl : ∀ i ∈ is, gv i = .slice (slA (gv i)) (slN (gv i)) (slC (gv i))) (hr : ∀ i ∈ is, w.ownsRow B 9 1 (gv i) (grO i m).ps.length ((grO i m).ps.map encStr)) : GrsIn B w v l es := by
  have hin : ∀ e ∈ es, ∃ i ∈ is, e = mkE i (gv i) (grO i m) := fun e he => by
    obtain ⟨i, hi, e2⟩ := List.mem_map.1 (hp.mem_iff.1 he)
    exact ⟨i, hts.mem_iff.1 hi, e2.symm⟩
  refine ⟨ho, ⟨?_, fun i => ?_, fun g hg => ?_⟩, fun e he => ?_, fun e he => ?_⟩
  · rw [List.pairwise_map]
    exact hs.imp fun {x y} h => by rw [grO_id, grO_id]; exact h
  · rw [show (∃ r ∈ l, r.g = i) ↔ ∃ r ∈ m, r.g = i from ⟨fun ⟨r, h1, h2⟩ => ⟨r, hml.mem_iff.2 h1, h2⟩, fun ⟨r, h1, h2⟩ => ⟨r, hml.mem_iff.1 h1, h2⟩⟩, ← hids i]
    constructor
    · rintro ⟨g, hg, e⟩
      obtain ⟨x, hx, rfl⟩ := List.mem_map.1 hg
      obtain ⟨j, hj, rfl⟩ := hin x hx
      rw [grO_id] at e
      exact e ▸ hj
    · intro hi
      refine ⟨grO i l, List.mem_map.2 ⟨mkE i (gv i) (grO i m), hp.mem_iff.2 (List.mem_map.2 ⟨i, hts.mem_iff.2 hi, rfl⟩), rfl⟩, rfl⟩
  · obtain ⟨x, hx, rfl⟩ := List.mem_map.1 hg
    rw [grO_id]
  · obtain ⟨j, hj, rfl⟩ := hin e he
    rw [show (mkE j (gv j) (grO j m)).id = j from rfl, ← grO_perm hml j]
    exact ⟨rfl, rfl, rfl, rfl⟩
  · obtain ⟨j, hj, rfl⟩ := hin e he
    rw [show (mkE j (gv j) (grO j m)).id = j from rfl, ← grO_perm hml j, show (mkE j (gv j) (grO j m)).sl = gv j from (hsl j hj).symm]
    exact hr j hj
end Go.Proofs.YtapfcnfmonknjaaGreatDoor.Bk
