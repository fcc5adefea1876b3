/- Books through Take, Merge, Split, Undo: what is kept; plain law and memory. -/
import Derived.Test.YtmogfmpcfdlpfaaDoorBkEq
namespace Go.Proofs.YtmogfmpcfdlpfaaDoor.Bk
open Go.RowKit Go.Maps Go.Sort
set_option linter.unusedVariables false
set_option linter.unusedSimpArgs false
/-- Records of a book behind i Takes; each weight within 1000. -/
structure Rec (l : List Pr) (last : Int) (i : Nat) : Prop where
  nd : (l.map Pr.p).Nodup
  len : l.length ≤ i
  sz : ∀ r ∈ l, r.p.length ≤ 200
  rng : ∀ r ∈ l, (0 ≤ r.g ∧ r.g ≤ 1000) ∧ (0 ≤ r.ev ∧ r.ev ≤ i) ∧ (0 ≤ r.wt ∧ r.wt ≤ 1000 * i)
  la : 0 ≤ last ∧ last ≤ i
theorem Rec.start : Rec [] 0 0 := ⟨by simp, Nat.le_refl _, by simp, by simp, by omega⟩
section
variable {l : List Pr} {last : Int} {i : Nat}
theorem Rec.more (h : Rec l last i) {j : Nat} (hj : i ≤ j) : Rec l last j := ⟨h.nd, by have := h.len; omega, h.sz, fun r hr => by have := h.rng r hr; omega, by have := h.la; omega⟩
theorem Rec.ok (h : Rec l last i) (hi : i ≤ 1000) : ∀ r ∈ l, PrOk r := fun r hr => by
  have h1 := h.rng r hr
  have h2 := h.la
  exact ⟨by omega, by omega, by omega⟩
theorem mem_upP {s : List UInt8} {t wt : Int} {l : List Pr} {y : Pr} (h : y ∈ upP s t wt l) : ∃ x ∈ l, y = x ∨ y = upR t wt x := by
  obtain ⟨x, hx, rfl⟩ := List.mem_map.1 h
  refine ⟨x, hx, ?_⟩
  split
  · exact .inr rfl
  · exact .inl rfl
theorem sum_up2 (s : List UInt8) (t wt : Int) : ∀ l : List Pr, (l.map Pr.p).Nodup → s ∈ l.map Pr.p → sumL ((upP s t wt l).map Pr.ev) = sumL (l.map Pr.ev) + 1 ∧ sumL ((upP s t wt l).map Pr.wt) = sumL (l.map Pr.wt) + wt
  | [], _, h => by simp at h
  | r :: l, hn, h => by
    rw [List.map_cons, List.nodup_cons] at hn
    have h0 : ∀ m : List Pr, s ∉ m.map Pr.p → upP s t wt m = m := fun m hm => by
      have h9 : upP s t wt m = m.map id := List.map_congr_left fun x hx => if_neg fun e => hm (List.mem_map.2 ⟨x, hx, e⟩)
      rw [h9, List.map_id]
    by_cases e : r.p = s
    · have hs : s ∉ l.map Pr.p := e ▸ hn.1
      have e2 : upP s t wt (r :: l) = upR t wt r :: upP s t wt l := by simp [upP, e]
      rw [e2, h0 l hs]
      simp only [List.map_cons, sumL, upR]
      omega
    · have hm : s ∈ l.map Pr.p := by
        rw [List.map_cons, List.mem_cons] at h
        exact h.resolve_left (fun e2 => e e2.symm)
      have e2 : upP s t wt (r :: l) = r :: upP s t wt l := by simp [upP, e]
      have ih := sum_up2 s t wt l hn.2 hm
      rw [e2]
      simp only [List.map_cons, sumL]
      omega
theorem Rec.old (h : Rec l last i) {s : List UInt8} {t wt : Int} (hw : 0 ≤ wt ∧ wt ≤ 1000) : Rec (upP s t wt l) last (i + 1) := by
  refine ⟨by rw [upP_keys]; exact h.nd, by rw [upP, List.length_map]; have := h.len; omega, fun y hy => ?_, fun y hy => ?_, by have := h.la; omega⟩
  · obtain ⟨x, hx, rfl | rfl⟩ := mem_upP hy
    · exact h.sz _ hx
    · have h9 := h.sz x hx; exact h9
  · obtain ⟨x, hx, rfl | rfl⟩ := mem_upP hy
    · have := h.rng _ hx; omega
    · have := h.rng _ hx; simp only [upR]; omega
theorem Rec.new (h : Rec l last i) (hi : i ≤ 500) {s : List UInt8} (hs : s ∉ l.map Pr.p) (hsz : s.length ≤ 200) {t wt : Int} (hw : 0 ≤ wt ∧ wt ≤ 1000) : Rec (l ++ [newR s last t wt]) (last + 1) (i + 1) := by
  have hin : ∀ y ∈ l ++ [newR s last t wt], y ∈ l ∨ y = newR s last t wt := fun y hy => by simpa using hy
  have hla := h.la
  refine ⟨?_, by have := h.len; simp; omega, fun y hy => ?_, fun y hy => ?_, by omega⟩
  · rw [List.map_append, List.nodup_append]
    refine ⟨h.nd, by simp, fun a ha b hb => ?_⟩
    simp at hb
    subst hb
    exact fun e => hs (by exact e ▸ ha)
  · rcases hin y hy with hy | rfl
    · exact h.sz y hy
    · exact hsz
  · rcases hin y hy with hy | rfl
    · have := h.rng y hy; omega
    · simp only [newR]; omega
theorem Rec.mv (h : Rec l last i) (ps : List (List UInt8)) (id : Int) {last' : Int} (hid : 0 ≤ id ∧ id ≤ 1000) (hl : last ≤ last') (hl2 : last' ≤ i + 1) : Rec (mvL ps id l) last' (i + 1) := by
  have hla := h.la
  refine ⟨by rw [mvL_keys]; exact h.nd, by rw [mvL, List.length_map]; have := h.len; omega, fun y hy => ?_, fun y hy => ?_, by omega⟩
  · obtain ⟨x, hx, e, _⟩ := mem_mvL hy
    rw [e]; exact h.sz x hx
  · obtain ⟨x, hx, _, ⟨_, rfl⟩ | ⟨_, rfl⟩⟩ := mem_mvL hy
    · have := h.rng x hx
      exact ⟨hid, by show 0 ≤ x.ev ∧ x.ev ≤ _; omega, by show 0 ≤ x.wt ∧ x.wt ≤ _; omega⟩
    · have := h.rng y hx; omega
end
/-- What goes away and comes back is as it was. -/
theorem mvL_undo {l : List Pr} (hnd : (l.map Pr.p).Nodup) {ps : List (List UInt8)} {a b : Int} (h : ∀ s ∈ ps, ∃ r ∈ l, r.g = b ∧ r.p = s) : mvL ps b (mvL ps a l) = l := by
  rw [mvL, mvL, List.map_map]
  have h9 : l.map ((fun r : Pr => if r.p ∈ ps then { r with g := b } else r) ∘ fun r : Pr => if r.p ∈ ps then { r with g := a } else r) = l.map id := List.map_congr_left fun r hr => by
    simp only [Function.comp_apply, id]
    by_cases hp : r.p ∈ ps
    · obtain ⟨x, hx, hg, hxp⟩ := h r.p hp
      obtain rfl := all_come.nodup_inj hnd hx hr hxp
      rw [if_pos hp, if_pos (show ({ x with g := a } : Pr).p ∈ ps from hp)]
      obtain ⟨xp, xg, xe, xw, xf, xl⟩ := x
      simp only at hg
      rw [hg]
    · rw [if_neg hp, if_neg hp]
  rw [h9, List.map_id]
def ChainR (l0 : List Pr) : List Stp → List Pr → Prop
  | [], l => l = l0
  | st :: r, l => (st.kind = 1 ∨ st.kind = 2) ∧ st.ps.length ≤ 1000 ∧ (∀ s ∈ st.ps, s ∈ l.map Pr.p ∧ s.length ≤ 200) ∧ (0 ≤ (if st.kind = 1 then st.b else st.a) ∧ (if st.kind = 1 then st.b else st.a) ≤ 1000) ∧ ChainR l0 r (undL st l)
def Chain (l0 : List Pr) (ss : List Stp) (l : List Pr) : Prop := ChainR l0 ss.reverse l
theorem Chain.snoc {l0 l : List Pr} {ss : List Stp} {st : Stp} : Chain l0 (ss ++ [st]) l ↔ ((st.kind = 1 ∨ st.kind = 2) ∧ st.ps.length ≤ 1000 ∧ (∀ s ∈ st.ps, s ∈ l.map Pr.p ∧ s.length ≤ 200) ∧ (0 ≤ (if st.kind = 1 then st.b else st.a) ∧ (if st.kind = 1 then st.b else st.a) ≤ 1000) ∧ Chain l0 ss (undL st l)) := by
  unfold Chain
  rw [List.reverse_append]
  rfl
/-- Take, whatever it answers. -/
theorem Take_bs {B p mb mn : Nat} {last : Int} {sv : Value} {l : List Pr} {bk : List UInt8 → Nat} {ss : List Stp} {w : World} {i : Nat} (h : BS B w p mb mn last sv l bk ss) (hR : Rec l last i) (hi : i ≤ 100) (hmn : mn ≤ i) (t wt : Int) (ht : 0 ≤ t ∧ t ≤ 1000) (hw : 1 ≤ wt ∧ wt ≤ 1000) (s : ByteArray) (hs : s.size ≤ maxLen) (hBz : B ≤ w.heap.size) :
    Calls Tryd.prog 7 #[.pointer (some ⟨p, 0, none⟩), .string s, .int .i64 t, .int .i64 wt] w fun e w' => ∃ (y : Int) (b : Bool) (x : Int) (mn' : Nat) (last' : Int) (l' : List Pr) (bk' : List UInt8 → Nat), e = .returned (.tuple #[.int .i64 y, .bool b, .int .i64 x]) ∧
      BS B w' p mb mn' last' sv l' bk' ss ∧ Rec l' last' (i + 1) ∧ mn' ≤ i + 1 ∧ (x = 0 → sumL (l'.map Pr.ev) = sumL (l.map Pr.ev) + 1 ∧ sumL (l'.map Pr.wt) = sumL (l.map Pr.wt) + wt) ∧ (x ≠ 0 → l' = l) ∧ Below B w w' := by
  by_cases hE : tkE s t wt = 0
  · have hsz := isP_size (tkE_ok hE).1
    by_cases hin : s.data.toList ∈ l.map Pr.p
    · obtain ⟨r, hr, hrp⟩ := List.mem_map.1 hin
      have hok := hR.ok (by omega) r hr
      refine (Take_old h.bm s t wt hE r hr hrp hok.ev hok.wt hBz).mono ?_
      rintro e w' ⟨rfl, hb, hk⟩
      exact ⟨_, _, 0, mn, last, _, bk, rfl, h.book hb (fun k o e u => hk.keep k o e u) (fun k hk => .inr (.inr ⟨r, hr, hk⟩)), hR.old (by omega), by omega, fun _ => sum_up2 _ t wt l hR.nd hin, fun h => absurd rfl h, hk.be⟩
    · have hla := hR.la
      refine (Take_new h.bm s t wt hE hin (by have := hR.len; omega) (by omega) (by omega) hBz).mono ?_
      rintro e w' ⟨rfl, ⟨k, hkz, hb⟩, hk⟩
      refine ⟨_, _, 0, mn + 1, last + 1, _, _, rfl, h.book hb (fun k o e u => hk.keep k o e u) (fun k hk => by rcases hk with h | h; exact .inl h; exact .inr (.inl h)), hR.new (by omega) hin (by rw [show s.data.toList.length = s.size from rfl, hsz]; decide) (by omega), by omega, fun _ => ?_, fun h => absurd rfl h, hk.be⟩
      rw [List.map_append, List.map_append, sumL_append, sumL_append]
      simp [sumL, newR]
  · refine (Take_bad p s t wt w hs hE).mono ?_
    rintro e w' ⟨rfl, hb⟩
    exact ⟨0, false, _, mn, last, l, bk, rfl, h.below hb, hR.more (Nat.le_succ _), by omega, fun h => absurd h hE, fun _ => rfl, hb.mono hBz⟩
/-- Groups that stay between two marks. -/
def GrsK (z1 z2 : Nat) (w : World) (v : Value) (l : List Pr) (es : List Ge) : Prop := GrsIn z1 w v l es ∧ (∀ k, v.ownBlock = some k → k < z2) ∧ ∀ e ∈ es, ∀ k, e.sl.ownBlock = some k → k < z2
theorem GrsK.keep {z1 z2 : Nat} {w w' : World} {v : Value} {l : List Pr} {es : List Ge} (h : GrsK z1 z2 w v l es) (hk : ∀ k o, z1 ≤ k → k < z2 → w.heap[k]? = some o → w'.heap[k]? = some o) : GrsK z1 z2 w' v l es := by
  obtain ⟨h1, h2, h3⟩ := h
  exact ⟨⟨own_stayB h1.own fun k o e eo => hk k o (h1.own.lt k e).1 (h2 k e) eo, h1.gr, h1.at_, fun x hx => own_stayB (h1.ps x hx) fun k o e eo => hk k o ((h1.ps x hx).lt k e).1 (h3 x hx k e) eo⟩, h2, h3⟩
theorem GrsK.of {z1 : Nat} {w : World} {v : Value} {l : List Pr} {es : List Ge} (h : GrsIn z1 w v l es) : GrsK z1 w.heap.size w v l es := ⟨h, fun k e => (h.own.lt k e).2, fun x hx k e => ((h.ps x hx).lt k e).2⟩
/-- A book and the groups that it had. -/
structure UX where
  B : Nat
  z1 : Nat
  z2 : Nat
  p : Nat
  mb : Nat
  l0 : List Pr
  lg : List Pr
  v0 : Value
  es0 : List Ge
def UJ (X : UX) (ss : List Stp) (l : List Pr) (i : Nat) (w : World) : Prop :=
  ∃ (mn : Nat) (last : Int) (sv : Value) (bk : List UInt8 → Nat), BS X.B w X.p X.mb mn last sv l bk ss ∧ Rec l last i ∧ Chain X.l0 ss l ∧ (∀ k, SB X.p X.mb sv l bk ss k → k < X.z1 ∨ X.z2 ≤ k) ∧ GrsK X.z1 X.z2 w X.v0 X.lg X.es0 ∧ X.z2 ≤ w.heap.size ∧ X.B ≤ X.z1 ∧ X.z1 ≤ X.z2
section
variable {X : UX} {ss : List Stp} {l : List Pr} {i : Nat} {w w' : World}
theorem UJ.below (h : UJ X ss l i w) (hb : Below w.heap.size w w') : UJ X ss l i w' := by
  obtain ⟨mn, last, sv, bk, h1, h2, h3, h4, h5, h6, h7, h8⟩ := h
  exact ⟨mn, last, sv, bk, h1.below hb, h2, h3, h4, h5.keep fun k o _ _ e => block_below e hb, Nat.le_trans h6 hb.size, h7, h8⟩
theorem keepG {sv : Value} {bk : List UInt8 → Nat} (h4 : ∀ k, SB X.p X.mb sv l bk ss k → k < X.z1 ∨ X.z2 ≤ k) (h5 : GrsK X.z1 X.z2 w X.v0 X.lg X.es0) (hk : Keep X.B (SB X.p X.mb sv l bk ss) w w') : GrsK X.z1 X.z2 w' X.v0 X.lg X.es0 :=
  h5.keep fun k o h1 h2 e => hk.keep k o e (fun hp => by rcases h4 k hp with h | h <;> omega)
theorem Merge_uj (h : UJ X ss l i w) (hi : i ≤ 100) (hss : ss.length < 300) (a b : Int) :
    Calls Tryd.prog 9 #[.pointer (some ⟨X.p, 0, none⟩), .int .i64 a, .int .i64 b] w fun e w' => ∃ x : Int, e = .returned (.int .i64 x) ∧ Below X.B w w' ∧ ((x ≠ 0 ∧ UJ X ss l i w') ∨ (x = 0 ∧ ∃ st l', UJ X (ss ++ [st]) l' (i + 1) w' ∧ sumL (l'.map Pr.ev) = sumL (l.map Pr.ev) ∧ sumL (l'.map Pr.wt) = sumL (l.map Pr.wt))) := by
  have h0 := h
  obtain ⟨mn, last, sv, bk, h1, h2, h3, h4, h5, h6, h7, h8⟩ := h
  have hlen := h2.len
  by_cases hE : mE l a b = 0
  · obtain ⟨n1, n2, n3⟩ := mE_ok hE
    refine (Merge_ok h1 h2.nd (by omega) h2.sz a b hE (by omega) (by omega)).mono ?_
    rintro e w' ⟨rfl, sv', st, k1, k2, k3, k4, k5, k6, k7⟩
    have hz := k6.be.size
    have hprs : ∀ s ∈ prs b l, ∃ r ∈ l, r.g = b ∧ r.p = s := fun s hs => mem_prs.1 hs
    have hu : undL st (mvL (prs b l) a l) = l := by rw [undL, k5, if_pos k2, k4]; exact mvL_undo h2.nd hprs
    obtain ⟨s0, hs0⟩ := List.exists_mem_of_ne_nil _ n2
    obtain ⟨r0, hr0, hg0, _⟩ := mem_prs.1 hs0
    have hga := (h2.rng r0 hr0).1
    obtain ⟨s1, hs1⟩ := List.exists_mem_of_ne_nil _ n1
    obtain ⟨r1, hr1, hg1, _⟩ := mem_prs.1 hs1
    have hgb := (h2.rng r1 hr1).1
    have hla := h2.la
    refine ⟨0, rfl, k6.be, .inr ⟨rfl, st, _, ⟨mn, last, sv', bk, k1, h2.mv _ a (by omega) (Int.le_refl _) (by omega), Chain.snoc.2 ⟨.inl k2, ?_, fun s hs => ?_, by rw [if_pos k2, k4]; omega, by rw [hu]; exact h3⟩, fun k hk => ?_, keepG h4 h5 k6, by omega, h7, h8⟩, ?_, ?_⟩⟩
    · rw [k5]; have := prs_len b l; omega
    · rw [k5] at hs
      obtain ⟨r, hr, _, e⟩ := hprs s hs
      exact ⟨by rw [mvL_keys]; exact List.mem_map.2 ⟨r, hr, e⟩, by rw [← e]; exact h2.sz r hr⟩
    · rcases k7 k hk with h | h
      · exact h4 k h
      · right; omega
    · rw [mvL, List.map_map]
      exact congrArg sumL (List.map_congr_left fun r _ => by simp only [Function.comp_apply]; split <;> rfl)
    · rw [mvL, List.map_map]
      exact congrArg sumL (List.map_congr_left fun r _ => by simp only [Function.comp_apply]; split <;> rfl)
  · refine (Merge_bad h1.bm h2.nd (by omega) a b hE).mono ?_
    rintro e w' ⟨rfl, hb⟩
    exact ⟨_, rfl, hb.mono (by omega), .inl ⟨hE, h0.below hb⟩⟩
theorem Split_uj (h : UJ X ss l i w) (hi : i ≤ 100) (hss : ss.length < 300) (a : Int) (A : Option Addr) (n c : Nat) (ps : List (List UInt8)) (hs : Sl w w.heap.size se 1 A n ps) (hn : n ≤ maxLen) (hsz : ∀ s ∈ ps, s.length ≤ maxLen)
    (hsep : 0 < n → ∀ b o, A = some ⟨b, o, none⟩ → b < X.B ∨ (X.z1 ≤ b ∧ b < X.z2) ∨ ∃ cs, w.heap[b]? = some (.cells cs 9 (0, 0))) :
    Calls Tryd.prog 10 #[.pointer (some ⟨X.p, 0, none⟩), .int .i64 a, .slice A n c] w fun e w' => ∃ z x : Int, e = .returned (.tuple #[.int .i64 z, .int .i64 x]) ∧ Below X.B w w' ∧ ((x ≠ 0 ∧ UJ X ss l i w') ∨ (x = 0 ∧ ∃ st l', UJ X (ss ++ [st]) l' (i + 1) w' ∧ sumL (l'.map Pr.ev) = sumL (l.map Pr.ev) ∧ sumL (l'.map Pr.wt) = sumL (l.map Pr.wt))) := by
  have h0 := h
  obtain ⟨mn, last, sv, bk, h1, h2, h3, h4, h5, h6, h7, h8⟩ := h
  have hlen := h2.len
  have hla := h2.la
  refine (Split_any h1 h2.nd (by omega) (by omega) a A n c ps hs hn hsz (fun h0 b o e => ?_) (by omega) (by omega)).mono ?_
  · rcases hsep h0 b o e with h | h | ⟨cs, h⟩
    · exact ⟨fun hb => by have := h1.ge (.inl hb); omega, fun hb => by have := h1.ge (.inr (.inl hb)); omega⟩
    · exact ⟨fun hb => by rcases h4 b (.inl hb) with h | h <;> omega, fun hb => by rcases h4 b (.inr (.inl hb)) with h | h <;> omega⟩
    · refine ⟨h1.bm.ne_row h (.inr rfl), fun hb => ?_⟩
      obtain ⟨cur, h9⟩ := row_blkB h1.row hb
      rw [h] at h9
      cases h9
  · rintro e w' ⟨z, x, rfl, ⟨hx, hb⟩ | ⟨rfl, hall, hps9, sv', st, k1, k2, k3, k5, k6, k7⟩⟩
    · exact ⟨z, x, rfl, hb.mono (by omega), .inl ⟨hx, h0.below hb⟩⟩
    · have hz := k6.be.size
      have hu : undL st (mvL ps (last + 1) l) = l := by rw [undL, k5, if_neg (by omega), k3]; exact mvL_undo h2.nd hall
      refine ⟨z, 0, rfl, k6.be, .inr ⟨rfl, st, _, ⟨mn, last + 1, sv', bk, k1, h2.mv _ (last + 1) (by omega) (by omega) (by omega), Chain.snoc.2 ⟨.inr k2, ?_, fun s hs => ?_, ?_, by rw [hu]; exact h3⟩, fun k hk => ?_, keepG h4 h5 k6, by omega, h7, h8⟩, ?_, ?_⟩⟩
      · rw [k5]; exact hps9.2
      · rw [k5] at hs
        obtain ⟨r, hr, _, e⟩ := hall s hs
        exact ⟨by rw [mvL_keys]; exact List.mem_map.2 ⟨r, hr, e⟩, by rw [← e]; exact h2.sz r hr⟩
      · rw [if_neg (by omega), k3]
        obtain ⟨s0, hs0⟩ := List.exists_mem_of_length_pos hps9.1
        obtain ⟨r0, hr0, hg0, _⟩ := hall s0 hs0
        have := (h2.rng r0 hr0).1
        omega
      · rcases k7 k hk with h | h
        · exact h4 k h
        · right; omega
      · rw [mvL, List.map_map]
        exact congrArg sumL (List.map_congr_left fun r _ => by simp only [Function.comp_apply]; split <;> rfl)
      · rw [mvL, List.map_map]
        exact congrArg sumL (List.map_congr_left fun r _ => by simp only [Function.comp_apply]; split <;> rfl)
theorem Undo_uj (h : UJ X ss l i w) (hi : i ≤ 100) (hss : ss.length < 300) :
    Calls Tryd.prog 11 #[.pointer (some ⟨X.p, 0, none⟩)] w fun e w' => Below X.B w w' ∧ ((ss = [] ∧ e = .returned (.bool false) ∧ w' = w) ∨ (∃ ss' st l', ss = ss' ++ [st] ∧ e = .returned (.bool true) ∧ UJ X ss' l' (i + 1) w' ∧ sumL (l'.map Pr.ev) = sumL (l.map Pr.ev) ∧ sumL (l'.map Pr.wt) = sumL (l.map Pr.wt))) := by
  obtain ⟨mn, last, sv, bk, h1, h2, h3, h4, h5, h6, h7, h8⟩ := h
  rcases List.eq_nil_or_concat ss with rfl | ⟨ss', st, rfl⟩
  · refine (Undo_none h1).mono ?_
    rintro e w' ⟨rfl, rfl⟩
    exact ⟨Below.refl _ _, .inl ⟨rfl, rfl, rfl⟩⟩
  · rw [List.concat_eq_append] at h1 h3 h4 hss ⊢
    obtain ⟨c1, c2, c3, c4, c5⟩ := Chain.snoc.1 h3
    rw [List.length_append, List.length_singleton] at hss
    refine (Undo_ok h1 c1 (fun s hs => (c3 s hs).1) (fun s hs => by have := (c3 s hs).2; unfold maxLen; omega) c2 (by omega) (by omega)).mono ?_
    rintro e w' ⟨rfl, sv', k1, k2, k3⟩
    have hz := k3.be.size
    have hla := h2.la
    refine ⟨k3.be, .inr ⟨ss', st, _, rfl, rfl, ⟨mn, last, sv', bk, k1, h2.mv _ _ c4 (Int.le_refl _) (by omega), c5, fun k hk => h4 k ?_, keepG h4 h5 k3, by omega, h7, h8⟩, ?_, ?_⟩⟩
    · rcases hk with hk | hk | ⟨s, hs, hk⟩
      · rcases hk with hk | hk | ⟨r, hr, hk⟩
        · exact .inl (.inl hk)
        · exact .inl (.inr (.inl hk))
        · obtain ⟨x, hx, e, _⟩ := mem_mvL hr
          exact .inl (.inr (.inr ⟨x, hx, by rw [hk, e]⟩))
      · exact .inr (.inl (by rw [← k2]; exact hk))
      · exact .inr (.inr ⟨s, List.mem_append_left _ hs, hk⟩)
    · rw [undL, mvL, List.map_map]
      exact congrArg sumL (List.map_congr_left fun r _ => by simp only [Function.comp_apply]; split <;> rfl)
    · rw [undL, mvL, List.map_map]
      exact congrArg sumL (List.map_congr_left fun r _ => by simp only [Function.comp_apply]; split <;> rfl)
theorem UJ.moreU (h : UJ X ss l i w) {j : Nat} (hj : i ≤ j) : UJ X ss l j w := by
  obtain ⟨mn, last, sv, bk, h1, h2, h3⟩ := h
  exact ⟨mn, last, sv, bk, h1, h2.more hj, h3⟩
end
theorem chainR_len {l0 : List Pr} : ∀ (r : List Stp) (l : List Pr), ChainR l0 r l → ∀ s ∈ r, s.ps.length ≤ 1000
  | [], _, _, s, hs => by simp at hs
  | st :: r, l, h, s, hs => by
    rcases List.mem_cons.1 hs with rfl | hs
    · exact h.2.1
    · exact chainR_len r _ h.2.2.2.2 s hs
theorem chain_len {l0 l : List Pr} {ss : List Stp} (h : Chain l0 ss l) : ∀ s ∈ ss, s.ps.length ≤ 1000 := fun s hs => chainR_len _ _ h s (List.mem_reverse.2 hs)
theorem _root_.Go.Proofs.YtmogfmpcfdlpfaaDoor.Sl.upS {α : Type} {w w' : World} {f : α → List Value} {sz n : Nat} {A : Option Addr} {l : List α} (h : Sl w w.heap.size f sz A n l) (hb : Below w.heap.size w w') : Sl w' w'.heap.size f sz A n l := Sl.up h hb
end Go.Proofs.YtmogfmpcfdlpfaaDoor.Bk
