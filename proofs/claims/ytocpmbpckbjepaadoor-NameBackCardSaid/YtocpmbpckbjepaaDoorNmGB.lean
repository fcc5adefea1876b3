/- NmBkL, NmBkA, NmBkB, NmBkC, NmBkP: texts of one's own, in one file. -/
import Derived.Test.YtocpmbpckbjepaaDoorNmGC
import Derived.Test.YtocpmbpckbjepaaDoorNmGA
import Derived.Test.YtocpmbpckbjepaaDoorNmChk
/- Plain law: what is mangled is read, and gives the symbol back. No program. -/
namespace Go.Proofs.YtocpmbpckbjepaaDoor
open Go.RowKit
set_option linter.unusedVariables false
set_option linter.unusedSimpArgs false
/-- The bytes b stand in s from i on. -/
def At (s : ByteArray) (i : Nat) (b : List UInt8) : Prop := b <+: s.data.toList.drop i
theorem At.app {s : ByteArray} {i : Nat} {a b : List UInt8} (h : At s i (a ++ b)) : At s i a ∧ At s (i + a.length) b := by
  obtain ⟨r, hr⟩ := h
  refine ⟨⟨b ++ r, by rw [← hr, List.append_assoc]⟩, ⟨r, ?_⟩⟩
  rw [← List.drop_drop, ← hr, List.append_assoc, List.drop_left]
theorem At.cons {s : ByteArray} {i : Nat} {c : UInt8} {b : List UInt8} (h : At s i (c :: b)) : s.data.toList[i]? = some c ∧ At s (i + 1) b := by
  have h2 := At.app (a := [c]) h
  obtain ⟨r, hr⟩ := h2.1
  refine ⟨?_, h2.2⟩
  have : (s.data.toList.drop i)[0]? = some c := by rw [← hr]; rfl
  rw [List.getElem?_drop] at this
  exact this
theorem At.mk_app {s : ByteArray} {i : Nat} {a b : List UInt8} (h : At s i a) (h' : At s (i + a.length) b) : At s i (a ++ b) := by
  obtain ⟨r, hr⟩ := h
  obtain ⟨r', hr'⟩ := h'
  rw [← List.drop_drop, ← hr, List.drop_left] at hr'
  exact ⟨r', by rw [← hr, ← hr', List.append_assoc]⟩
theorem At.mk_cons {s : ByteArray} {i : Nat} {c : UInt8} {b : List UInt8} (h : s.data.toList[i]? = some c) (h' : At s (i + 1) b) : At s i (c :: b) := by
  have hi := (List.getElem?_eq_some_iff.1 h)
  refine At.mk_app (a := [c]) ⟨s.data.toList.drop (i + 1), ?_⟩ h'
  rw [List.drop_eq_getElem_cons hi.1, hi.2]; rfl
theorem At.nil (s : ByteArray) (i : Nat) : At s i [] := List.nil_prefix
theorem At.le {s : ByteArray} {i : Nat} {b : List UInt8} (h : At s i b) (hi : i ≤ s.size) : i + b.length ≤ s.size := by
  have := h.length_le
  rw [List.length_drop, str_len] at this
  omega
theorem At.all {s : ByteArray} {b : List UInt8} (h : At s 0 b) (hl : b.length = s.size) : s.data.toList = b := by
  obtain ⟨r, hr⟩ := h
  rw [List.drop_zero] at hr
  have h2 : r.length = 0 := by
    have := congrArg List.length hr
    rw [List.length_append, str_len] at this
    omega
  rw [← hr, List.length_eq_zero_iff.1 h2, List.append_nil]
/- Numbers. -/
theorem takeWhile_stop {p : UInt8 → Bool} : ∀ (l : List UInt8) {c : UInt8} {r : List UInt8}, (∀ x ∈ l, p x = true) → p c = false → (l ++ c :: r).takeWhile p = l
  | [], c, r, _, h => by simp [h]
  | x :: l, c, r, h1, h => by
    rw [List.cons_append, List.takeWhile_cons, if_pos (h1 x (by simp)), takeWhile_stop l (fun y hy => h1 y (by simp [hy])) h]
theorem dgV_snocB (l : List UInt8) (c : UInt8) : dgV (l ++ [c]) = dgV l * 10 + (c.toNat - 48) := by unfold dgV; rw [List.foldl_append]; rfl
theorem hexc_val {u : Nat} (h : u < 10) : (hexc u).toNat - 48 = u := by
  have : ∀ u, u < 10 → (hexc u).toNat - 48 = u := by decide
  exact this u h
theorem val_hexc {c : UInt8} (h : digB c = true) : hexc (c.toNat - 48) = c ∧ c.toNat - 48 < 10 := by
  have hb : 48 ≤ c.toNat ∧ c.toNat ≤ 57 := by simpa [digB] using h
  refine ⟨?_, by omega⟩
  unfold hexc
  rw [if_pos (by omega), show 48 + (c.toNat - 48) = c.toNat by omega]
  simp
theorem dgV_digs (u : Nat) : dgV (digs 10 u) = u := by
  induction u using Nat.strongRecOn with
  | ind u ih =>
    by_cases h : u < 10
    · rw [digs_small h]
      show 0 * 10 + ((hexc u).toNat - 48) = u
      rw [hexc_val h]; omega
    · rw [digs_big (by omega) (by decide), dgV_snocB, ih (u / 10) (by omega), hexc_val (by omega)]
      omega
theorem digs_head (u : Nat) : 1 ≤ u → (digs 10 u).head? ≠ some 48 := by
  induction u using Nat.strongRecOn with
  | ind u ih =>
    intro h1
    by_cases h : u < 10
    · rw [digs_small h]
      have : ∀ u, u < 10 → 1 ≤ u → ([hexc u] : List UInt8).head? ≠ some 48 := by decide
      exact this u h h1
    · rw [digs_big (by omega) (by decide)]
      have := ih (u / 10) (by omega) (by omega)
      cases hd : digs 10 (u / 10) with
      | nil => exact absurd hd (digs_ne _)
      | cons c r => rw [hd] at this; simpa using this
/-- A number that has no zero ahead is written so. -/
theorem digs_dgV (l : List UInt8) : (∀ c ∈ l, digB c = true) → l ≠ [] → (1 < l.length → l.head? ≠ some 48) → digs 10 (dgV l) = l ∧ (1 ≤ dgV l ∨ l = [48]) := by
  refine snoc_ind (P := fun l => (∀ c ∈ l, digB c = true) → l ≠ [] → (1 < l.length → l.head? ≠ some 48) → digs 10 (dgV l) = l ∧ (1 ≤ dgV l ∨ l = [48])) (fun _ h _ => absurd rfl h) (fun l c ih h1 _ h3 => ?_) l
  obtain ⟨hc1, hc2⟩ := val_hexc (h1 c (by simp))
  cases hl : l with
  | nil =>
    rw [List.nil_append]
    have hv : dgV [c] = c.toNat - 48 := by show 0 * 10 + (c.toNat - 48) = _; omega
    rw [hv, digs_small hc2, hc1]
    refine ⟨rfl, ?_⟩
    by_cases h0 : c.toNat - 48 = 0
    · right; rw [← hc1, h0]; rfl
    · left; omega
  | cons x r =>
    rw [← hl]
    have hlen : 1 < (l ++ [c]).length := by rw [hl]; simp
    have hh : l.head? ≠ some 48 := by
      have := h3 hlen
      rw [hl] at this ⊢
      simpa using this
    obtain ⟨e1, e2⟩ := ih (fun c hc => h1 c (by simp [hc])) (by rw [hl]; simp) (fun _ => hh)
    have hpos : 1 ≤ dgV l := by
      rcases e2 with h | h
      · exact h
      · rw [h] at hh; exact absurd rfl hh
    rw [dgV_snocB]
    refine ⟨?_, .inl (by omega)⟩
    rw [digs_big (by omega) (by decide), show (dgV l * 10 + (c.toNat - 48)) / 10 = dgV l by omega, show (dgV l * 10 + (c.toNat - 48)) % 10 = c.toNat - 48 by omega, e1, hc1]
theorem snum_at {s : ByteArray} {i n : Nat} {c : UInt8} (hn : n ≤ 9999) (hc : digB c = false) (h : At s i (digs 10 n ++ [c])) : dNum s i = .ok (i + (digs 10 n).length) n := by
  have hd : dgs s i = digs 10 n := by
    obtain ⟨r, hr⟩ := h
    unfold dgs
    rw [← hr, List.append_assoc]
    exact takeWhile_stop _ (digs_dig n) hc
  have h4 := digs_len 10 (by decide) 4 n (by omega) (by decide)
  have h0 : (digs 10 n).length ≠ 0 := fun e => digs_ne n (List.length_eq_zero_iff.1 e)
  unfold dNum
  rw [hd, if_neg, dgV_digs]
  rintro (h1 | h1 | ⟨h1, h2⟩)
  · exact h0 h1
  · omega
  · have hn1 : 1 ≤ n := by
      rcases Nat.eq_zero_or_pos n with rfl | h
      · rw [digs_small (by decide)] at h1; simp at h1
      · exact h
    apply digs_head n hn1
    cases hg : digs 10 n with
    | nil => exact absurd hg (digs_ne n)
    | cons x r =>
      rw [hg] at h
      have := (At.cons h).1
      rw [this] at h2
      simpa using h2
theorem dNum_at {s : ByteArray} {i j n : Nat} (h : dNum s i = .ok j n) : At s i (digs 10 n) ∧ j = i + (digs 10 n).length := by
  obtain ⟨_, h2, h3, h4, h5⟩ := dNum_lt h
  unfold dNum at h
  split at h
  · cases h
  · rename_i hc
    have hne : dgs s i ≠ [] := fun e => by rw [e] at h5; simp at h5
    have hpre : dgs s i <+: s.data.toList.drop i := List.takeWhile_prefix _
    obtain ⟨e, _⟩ := digs_dgV (dgs s i) (dgs_dig s i) hne (fun h1 h2 => hc (.inr (.inr ⟨h1, by
      obtain ⟨r, hr⟩ := hpre
      cases hg : dgs s i with
      | nil => exact absurd hg hne
      | cons x y =>
        rw [hg] at hr h2
        have : (s.data.toList.drop i)[0]? = some x := by rw [← hr]; rfl
        rw [List.getElem?_drop, Nat.add_zero] at this
        rw [this]; simpa using h2⟩)))
    rw [h3, e]
    exact ⟨hpre, h2⟩
/- Identifiers. -/
theorem textE_iff {s : ByteArray} : textE s = 0 ↔ s.size ≠ 0 ∧ s.size ≤ 60 ∧ idK 0 s.data.toList = s.data.toList.length := by
  have key : ∀ (l : List UInt8) (j : Nat), 0 < j → (idK j l = l.length ↔ l.all (fun c => lettB c || digB c) = true) := by
    intro l
    induction l with
    | nil => intro j _; simp [idK]
    | cons c l ih =>
      intro j hj
      have ho : okId j c = (lettB c || digB c) := by unfold okId; simp [hj]
      rw [idK, ho, List.all_cons, List.length_cons]
      have h2 := ih (j + 1) (by omega)
      cases hc : (lettB c || digB c)
      · simp
      · rw [if_pos rfl]
        simp only [Bool.true_and]
        rw [← h2]; omega
  have hld : ∀ c : UInt8, lettB c = true → digB c = false := by
    intro c h
    unfold lettB at h; unfold digB
    simp only [Bool.or_eq_true, decide_eq_true_eq] at h
    simp only [decide_eq_false_iff_not]
    omega
  have hsz : s.size = s.data.toList.length := by rw [Array.length_toList]; rfl
  unfold textE
  cases hs : s.data.toList with
  | nil =>
    rw [hs] at hsz
    rw [if_pos (by simpa using hsz)]
    simp at hsz
    simp [hsz]
  | cons c l =>
    rw [hs] at hsz
    have h0 : s.size ≠ 0 := by rw [hsz]; simp
    rw [if_neg h0]
    by_cases h60 : 60 < s.size
    · rw [if_pos h60]
      constructor
      · intro h; cases h
      · rintro ⟨_, h, _⟩; omega
    · rw [if_neg h60]
      have hk := key l 1 (by decide)
      have ho : okId 0 c = lettB c := by unfold okId; simp
      rw [idK, ho, List.length_cons, show headDig (c :: l) = digB c from rfl, List.all_cons]
      cases hd : digB c
      · have hx : (lettB c || false) = lettB c := by simp
        rw [hx]
        cases hlc : lettB c
        · simp [h0]
        · rw [Bool.true_and, if_neg (by decide), if_pos rfl]
          cases hall : l.all (fun c => lettB c || digB c)
          · rw [hall] at hk
            have h3 : ¬ idK 1 l = l.length := fun e => by have := hk.1 e; cases this
            constructor
            · intro h; cases h
            · rintro ⟨_, _, h⟩; exact absurd (by simpa using h) h3
          · rw [hall] at hk
            have h3 := hk.2 rfl
            exact ⟨fun _ => ⟨h0, by omega, by simp [h3]⟩, fun _ => by simp⟩
      · have hlc : lettB c = false := by
          cases h : lettB c
          · rfl
          · rw [hld c h] at hd; cases hd
        simp [hlc]
end Go.Proofs.YtocpmbpckbjepaaDoor

/- Plain law: the reader's list of types and the writer's. No program. -/
namespace Go.Proofs.YtocpmbpckbjepaaDoor
open Go.RowKit
set_option linter.unusedVariables false
set_option linter.unusedSimpArgs false
/-- The type with a number; what a shape means. -/
def dTy (D : List Nd) (a : Nat) : Ty := match D[a]? with | some x => x.2 | none => Ty.mk 0 [] []
def decP (D : List Nd) (p : ByteArray × List Nat) : Part := (p.1, p.2.map (dTy D))
def decSh (D : List Nd) (sh : Shp) : Ty := Ty.mk sh.kind (sh.name.map (decP D)) (sh.of.map (dTy D))
def ShN (n : Nat) (sh : Shp) : Prop := (∀ p ∈ sh.name, ∀ a ∈ p.2, a < n) ∧ ∀ a ∈ sh.of, a < n
theorem dTy_pre {D D' : List Nd} (h : D <+: D') {a : Nat} (ha : a < D.length) : dTy D' a = dTy D a := by
  obtain ⟨r, rfl⟩ := h
  unfold dTy
  rw [List.getElem?_append_left ha]
theorem decTs_pre {D D' : List Nd} (h : D <+: D') {l : List Nat} (hl : ∀ a ∈ l, a < D.length) : l.map (dTy D') = l.map (dTy D) := List.map_congr_left fun a ha => dTy_pre h (hl a ha)
theorem decPs_pre {D D' : List Nd} (h : D <+: D') {l : List (ByteArray × List Nat)} (hl : ∀ p ∈ l, ∀ a ∈ p.2, a < D.length) : l.map (decP D') = l.map (decP D) := List.map_congr_left fun p hp => by
  unfold decP; rw [decTs_pre h (hl p hp)]
theorem decSh_pre {D D' : List Nd} (h : D <+: D') {sh : Shp} (hs : ShN D.length sh) : decSh D' sh = decSh D sh := by
  unfold decSh; rw [decPs_pre h hs.1, decTs_pre h hs.2]
theorem ShN.mono {n m : Nat} {sh : Shp} (h : ShN n sh) (hn : n ≤ m) : ShN m sh := ⟨fun p hp a ha => Nat.lt_of_lt_of_le (h.1 p hp a ha) hn, fun a ha => Nat.lt_of_lt_of_le (h.2 a ha) hn⟩
/-- The list of the reader is that of the writer. -/
structure Agr (D : List Nd) (d : List Ty) : Prop where
  tys : D.map (·.2) = d
  dec : ∀ x ∈ D, x.2 = decSh D x.1
  num : ∀ x ∈ D, ShN D.length x.1
  nodup : d.Nodup
theorem Agr.len {D : List Nd} {d : List Ty} (h : Agr D d) : D.length = d.length := by rw [← h.tys, List.length_map]
theorem Agr.at_ {D : List Nd} {d : List Ty} (h : Agr D d) (a : Nat) (ha : a < D.length) : d[a]? = some (dTy D a) := by
  unfold dTy
  rw [← h.tys, List.getElem?_map, List.getElem?_eq_getElem ha]
  rfl
theorem Agr.new {D : List Nd} {d : List Ty} {sh : Shp} {t : Ty} (h : Agr D d) (hs : ShN D.length sh) (ht : t = decSh D sh) (hn : t ∉ d) : Agr (D ++ [(sh, t)]) (d ++ [t]) := by
  have hp : D <+: D ++ [(sh, t)] := List.prefix_append _ _
  refine ⟨by rw [List.map_append, h.tys]; rfl, fun x hx => ?_, fun x hx => ?_, ?_⟩
  · rcases List.mem_append.1 hx with hx | hx
    · rw [decSh_pre hp (h.num x hx)]; exact h.dec x hx
    · obtain rfl := List.mem_singleton.1 hx
      rw [decSh_pre hp hs]; exact ht
  · rw [List.length_append]
    rcases List.mem_append.1 hx with hx | hx
    · exact (h.num x hx).mono (by omega)
    · obtain rfl := List.mem_singleton.1 hx; exact hs.mono (by omega)
  · rw [List.nodup_append]
    exact ⟨h.nodup, by simp, fun a ha b hb => by simp at hb; subst hb; exact fun e => hn (e ▸ ha)⟩
/-- A type that is not in the list has a shape that is not in the list, and the other way round. -/
theorem Agr.fresh {D : List Nd} {d : List Ty} {sh : Shp} (h : Agr D d) (hn : decSh D sh ∉ d) : sh ∉ D.map (·.1) := fun hm => by
  obtain ⟨x, hx, rfl⟩ := List.mem_map.1 hm
  exact hn (by rw [← h.dec x hx, ← h.tys]; exact List.mem_map.2 ⟨x, hx, rfl⟩)
theorem Agr.inj {D : List Nd} {d : List Ty} (h : Agr D d) {a b : Nat} (ha : a < D.length) (hb : b < D.length) (e : dTy D a = dTy D b) : a = b := by
  have h1 := h.at_ a ha
  have h2 := h.at_ b hb
  rw [e] at h1
  have := plc_of h.nodup h1
  rw [plc_of h.nodup h2] at this
  exact (Option.some.inj this).symm
theorem map_inj_on {α β : Type} {f : α → β} : ∀ {l l' : List α}, (∀ a ∈ l, ∀ b ∈ l', f a = f b → a = b) → l.map f = l'.map f → l = l'
  | [], [], _, _ => rfl
  | [], _ :: _, _, h => by simp at h
  | _ :: _, [], _, h => by simp at h
  | a :: l, b :: l', hi, h => by
    rw [List.map_cons, List.map_cons, List.cons.injEq] at h
    rw [hi a (by simp) b (by simp) h.1, map_inj_on (fun a ha b hb => hi a (by simp [ha]) b (by simp [hb])) h.2]
theorem Agr.decInj {D : List Nd} {d : List Ty} (h : Agr D d) {s1 s2 : Shp} (h1 : ShN D.length s1) (h2 : ShN D.length s2) (e : decSh D s1 = decSh D s2) : s1 = s2 := by
  obtain ⟨k1, n1, o1⟩ := s1
  obtain ⟨k2, n2, o2⟩ := s2
  unfold decSh at e
  simp only [Ty.mk.injEq] at e
  obtain ⟨e1, e2, e3⟩ := e
  have e1 : k1 = k2 := by omega
  subst e1
  have e3 : o1 = o2 := map_inj_on (fun a ha b hb => h.inj (h1.2 a ha) (h2.2 b hb)) e3
  have e2 : n1 = n2 := map_inj_on (fun p hp q hq (e : decP D p = decP D q) => by
    unfold decP at e
    rw [Prod.mk.injEq] at e
    exact Prod.ext e.1 (map_inj_on (fun a ha b hb => h.inj (h1.1 p hp a ha) (h2.1 q hq b hb)) e.2)) e2
  rw [e2, e3]
theorem Agr.fresh' {D : List Nd} {d : List Ty} {sh : Shp} (h : Agr D d) (hs : ShN D.length sh) (hn : sh ∉ D.map (·.1)) : decSh D sh ∉ d := fun hm => by
  rw [← h.tys] at hm
  obtain ⟨x, hx, e⟩ := List.mem_map.1 hm
  rw [h.dec x hx] at e
  exact hn (List.mem_map.2 ⟨x, hx, h.decInj (h.num x hx) hs e⟩)
/- What is written begins with a letter that tells the kind. -/
theorem mg_head {f : Nat} {t : Ty} (h : Good f t) (d : List Ty) : ∃ c r, (mgT f t d).1 = c :: r ∧ c ≠ 69 ∧ c ≠ 90 := by
  cases f with
  | zero => exact h.elim
  | succ f =>
    unfold mgT
    split
    · exact ⟨_, _, rfl, by decide, by decide⟩
    · unfold mgBody
      split
      · exact ⟨_, _, rfl, by decide, by decide⟩
      · split
        · exact ⟨_, _, rfl, by decide, by decide⟩
        · split <;> exact ⟨_, _, rfl, by decide, by decide⟩
end Go.Proofs.YtocpmbpckbjepaaDoor

/- Plain law: what is written is read. No program. -/
namespace Go.Proofs.YtocpmbpckbjepaaDoor
open Go.RowKit
set_option linter.unusedVariables false
set_option linter.unusedSimpArgs false
theorem strL (x : ByteArray) : x.data.toList.length = x.size := by rw [Array.length_toList]; rfl
theorem mgFold_old {α : Type} {g : α → List Ty → List UInt8 × List Ty} {S : α → Ty → Prop} (hg : ∀ a d x, x ∈ (g a d).2 → x ∈ d ∨ S a x) : ∀ (l : List α) (d : List Ty) (x : Ty), x ∈ (mgFold g l d).2 → x ∈ d ∨ ∃ a ∈ l, S a x
  | [], d, x, h => .inl h
  | a :: l, d, x, h => by
    rcases mgFold_old hg l _ x h with h | ⟨b, hb, h⟩
    · rcases hg a d x h with h | h
      · exact .inl h
      · exact .inr ⟨a, by simp, h⟩
    · exact .inr ⟨b, by simp [hb], h⟩
theorem mgT_old : ∀ (f : Nat) (t : Ty) (d : List Ty) (x : Ty), x ∈ (mgT f t d).2 → x ∈ d ∨ SizeOf.sizeOf x ≤ SizeOf.sizeOf t
  | 0, t, d, x, h => .inl h
  | f + 1, t, d, x, h => by
    have hb : ∀ x, x ∈ (mgBody (mgT f) t d).2 → x ∈ d ∨ SizeOf.sizeOf x < SizeOf.sizeOf t := fun x h => by
      have ho : ∀ x, x ∈ (mgFold (mgT f) t.of d).2 → x ∈ d ∨ SizeOf.sizeOf x < SizeOf.sizeOf t := fun x h => by
        rcases mgFold_old (S := fun y x => SizeOf.sizeOf x ≤ SizeOf.sizeOf y) (mgT_old f) _ _ x h with h | ⟨y, hy, h⟩
        · exact .inl h
        · exact .inr (Nat.lt_of_le_of_lt h (size_of hy))
      unfold mgBody at h
      split at h
      · rcases mgFold_old (g := mgPart (mgT f)) (S := fun p x => ∃ y ∈ p.2, SizeOf.sizeOf x ≤ SizeOf.sizeOf y) (fun p d x h => mgFold_old (S := fun y x => SizeOf.sizeOf x ≤ SizeOf.sizeOf y) (mgT_old f) p.2 d x h) _ _ x h with h | ⟨p, hp, y, hy, h⟩
        · exact .inl h
        · exact .inr (Nat.lt_of_le_of_lt h (size_name hp hy))
      · split at h <;> exact ho x h
    unfold mgT at h
    split at h
    · exact .inl h
    · rcases List.mem_append.1 h with h | h
      · exact (hb x h).imp id (fun h => Nat.le_of_lt h)
      · obtain rfl := List.mem_singleton.1 h; exact .inr (Nat.le_refl _)
theorem body_out {f : Nat} {t : Ty} {d : List Ty} (hn : t ∉ d) : t ∉ (mgBody (mgT f) t d).2 := fun h => by
  have ho : ∀ x, x ∈ (mgFold (mgT f) t.of d).2 → x ∈ d ∨ SizeOf.sizeOf x < SizeOf.sizeOf t := fun x h => by
    rcases mgFold_old (S := fun y x => SizeOf.sizeOf x ≤ SizeOf.sizeOf y) (mgT_old f) _ _ x h with h | ⟨y, hy, h⟩
    · exact .inl h
    · exact .inr (Nat.lt_of_le_of_lt h (size_of hy))
  have : t ∈ d ∨ SizeOf.sizeOf t < SizeOf.sizeOf t := by
    unfold mgBody at h
    split at h
    · rcases mgFold_old (g := mgPart (mgT f)) (S := fun p x => ∃ y ∈ p.2, SizeOf.sizeOf x ≤ SizeOf.sizeOf y) (fun p d x h => mgFold_old (S := fun y x => SizeOf.sizeOf x ≤ SizeOf.sizeOf y) (mgT_old f) p.2 d x h) _ _ t h with h | ⟨p, hp, y, hy, h⟩
      · exact .inl h
      · exact .inr (Nat.lt_of_le_of_lt h (size_name hp hy))
    · split at h <;> exact ho t h
  rcases this with h | h
  · exact hn h
  · exact absurd h (Nat.lt_irrefl _)
/-- Reading a type gives what was written. -/
def RdOk (s : ByteArray) (f : Nat) : Prop := ∀ (t : Ty) (d : List Ty) (D : List Nd) (i : Nat), Good f t → Txt f t → Agr D d → (mgT f t d).2.length ≤ 9999 → i ≤ s.size → At s i (mgT f t d).1 →
  ∃ a D', dOne s f D i = .ok (i + (mgT f t d).1.length) (a, t, D') ∧ Agr D' (mgT f t d).2 ∧ D <+: D' ∧ a < D'.length ∧ dTy D' a = t
theorem mgFold_pre {α : Type} {g : α → List Ty → List UInt8 × List Ty} (hg : ∀ a d, d <+: (g a d).2) : ∀ (l : List α) (d : List Ty), d <+: (mgFold g l d).2
  | [], d => List.prefix_refl d
  | a :: l, d => (hg a d).trans (mgFold_pre hg l _)
theorem mgPart_pre {g : Ty → List Ty → List UInt8 × List Ty} (hg : ∀ a d, d <+: (g a d).2) (p : Part) (d : List Ty) : d <+: (mgPart g p d).2 := mgFold_pre hg p.2 d
theorem mgT_pre : ∀ (f : Nat) (t : Ty) (d : List Ty), d <+: (mgT f t d).2
  | 0, t, d => List.prefix_refl d
  | f + 1, t, d => by
    unfold mgT
    split
    · exact List.prefix_refl d
    · refine List.IsPrefix.trans ?_ (List.prefix_append _ _)
      unfold mgBody
      split
      · exact mgFold_pre (mgPart_pre (mgT_pre f)) _ _
      · split <;> exact mgFold_pre (mgT_pre f) _ _
theorem dTys_ok {s : ByteArray} {f : Nat} (H : RdOk s f) : ∀ (l : List Ty) (g : Nat) (acc : List Ty) (ids : List Nat) (d : List Ty) (D : List Nd) (i : Nat),
    (∀ x ∈ l, Good f x ∧ Txt f x) → Agr D d → (mgFold (mgT f) l d).2.length ≤ 9999 → i ≤ s.size → At s i ((mgFold (mgT f) l d).1 ++ [69]) → s.size + 1 ≤ g + i → acc.length + l.length ≠ 0 →
    ∃ ids' D', dTys s (dOne s f) g acc ids D i = .ok (i + (mgFold (mgT f) l d).1.length + 1) (acc ++ l, ids ++ ids', D') ∧ Agr D' (mgFold (mgT f) l d).2 ∧ D <+: D' ∧ (∀ a ∈ ids', a < D'.length) ∧ ids'.map (dTy D') = l
  | [], g, acc, ids, d, D, i, _, hA, _, hi, hat, hg, hne => by
    have h1 := (At.cons (show At s i (69 :: []) from hat)).1
    have hlt := get_lt h1
    obtain ⟨g, rfl⟩ : ∃ g', g = g' + 1 := ⟨g - 1, by omega⟩
    refine ⟨[], D, ?_, hA, List.prefix_refl _, by simp, rfl⟩
    rw [dTys, if_pos ⟨by simpa using hne, h1⟩]
    simp [mgFold]
  | x :: l, g, acc, ids, d, D, i, hl, hA, hb, hi, hat, hg, hne => by
    obtain ⟨hx1, hx2⟩ := hl x (by simp)
    rw [mgFold] at hat hb ⊢
    simp only at hat hb ⊢
    rw [List.append_assoc] at hat
    obtain ⟨h1, h2⟩ := At.app hat
    have hp := mgFold_pre (mgT_pre f) l (mgT f x d).2
    obtain ⟨a, D1, e1, A1, P1, a1, t1⟩ := H x d D i hx1 hx2 hA (Nat.le_trans hp.length_le hb) hi h1
    have hle := h1.le hi
    obtain ⟨c, r, hc, hc1, _⟩ := mg_head hx1 d
    have hlen : 1 ≤ (mgT f x d).1.length := by rw [hc]; simp
    obtain ⟨g, rfl⟩ : ∃ g', g = g' + 1 := ⟨g - 1, by omega⟩
    obtain ⟨ids', D2, e2, A2, P2, a2, t2⟩ := dTys_ok H l g (acc ++ [x]) (ids ++ [a]) _ D1 (i + (mgT f x d).1.length) (fun y hy => hl y (by simp [hy])) A1 hb hle h2 (by omega) (by simp)
    refine ⟨a :: ids', D2, ?_, A2, P1.trans P2, ?_, ?_⟩
    · rw [dTys, if_neg, e1]
      · simp only [Res.bind]
        rw [e2]
        simp [Nat.add_assoc]
      · rintro ⟨_, h⟩
        have h3 := (At.cons (hc ▸ h1)).1
        rw [h3] at h
        exact hc1 (Option.some.inj h)
    · intro b hb
      rcases List.mem_cons.1 hb with rfl | hb
      · exact Nat.lt_of_lt_of_le a1 P2.length_le
      · exact a2 b hb
    · rw [List.map_cons, t2, dTy_pre P2 a1, t1]
theorem dId_at {s : ByteArray} {i : Nat} {x : ByteArray} (hi : i ≤ s.size) (hx : textE x = 0) (h : At s i (lenL x ++ x.data.toList)) : dId s i = .ok (i + (lenL x).length + x.size) x := by
  obtain ⟨h1, h2, h3⟩ := textE_iff.1 hx
  obtain ⟨c, r, hc, hd⟩ := text_head hx
  have hle := h.le hi
  rw [List.length_append, strL] at hle
  have hnum : dNum s i = .ok (i + (lenL x).length) x.size := by
    refine snum_at (c := c) (by omega) hd ?_
    rw [hc, show lenL x ++ c :: r = (lenL x ++ [c]) ++ r by simp] at h
    exact (At.app h).1
  obtain ⟨_, hA⟩ := At.app h
  have htk : (s.data.toList.drop (i + (lenL x).length)).take x.size = x.data.toList := by
    obtain ⟨q, hq⟩ := hA
    rw [← hq, List.take_left' (strL x)]
  unfold dId
  rw [hnum]
  simp only [Res.bind]
  rw [if_neg (by omega)]
  have hid : idN s (i + (lenL x).length) x.size = x.size := by
    unfold idN
    rw [htk, h3, strL]
  rw [if_pos hid]
  congr 1
  apply ByteArray.ext
  apply Array.toList_inj.1
  rw [ext_toL _ _ _ (by omega), htk]
theorem part_head (p : Part) (g : Ty → List Ty → List UInt8 × List Ty) (d : List Ty) : ∃ c r, (mgPart g p d).1 = c :: r ∧ digB c = true := by
  obtain ⟨c, r, h, hd⟩ := lenL_cons p.1
  exact ⟨c, _, by unfold mgPart; rw [h]; simp only [List.cons_append]; rfl, hd⟩
theorem parts_at_head (g : Ty → List Ty → List UInt8 × List Ty) (l : List Part) (d : List Ty) {s : ByteArray} {i : Nat} (h : At s i ((mgFold (mgPart g) l d).1 ++ [69])) : s.data.toList[i]? ≠ some 73 := by
  cases l with
  | nil => rw [(At.cons (show At s i (69 :: []) from h)).1]; decide
  | cons p l =>
    obtain ⟨c, r, hc, hd⟩ := part_head p g d
    rw [mgFold] at h
    simp only [hc, List.cons_append] at h
    rw [(At.cons h).1]
    intro e
    rw [Option.some.inj e] at hd
    exact absurd hd (by decide)
theorem dParts_ok {s : ByteArray} {f : Nat} (H : RdOk s f) : ∀ (l : List Part) (g : Nat) (acc : List Part) (sh : List (ByteArray × List Nat)) (d : List Ty) (D : List Nd) (i : Nat),
    (∀ p ∈ l, textE p.1 = 0 ∧ ∀ x ∈ p.2, Good f x ∧ Txt f x) → Agr D d → (mgFold (mgPart (mgT f)) l d).2.length ≤ 9999 → i ≤ s.size → At s i ((mgFold (mgPart (mgT f)) l d).1 ++ [69]) → s.size + 1 ≤ g + i → acc.length + l.length ≠ 0 →
    ∃ sh' D', dParts s (dOne s f) g acc sh D i = .ok (i + (mgFold (mgPart (mgT f)) l d).1.length + 1) (acc ++ l, sh ++ sh', D') ∧ Agr D' (mgFold (mgPart (mgT f)) l d).2 ∧ D <+: D' ∧ (∀ p ∈ sh', ∀ a ∈ p.2, a < D'.length) ∧ sh'.map (decP D') = l
  | [], g, acc, sh, d, D, i, _, hA, _, hi, hat, hg, hne => by
    have h1 := (At.cons (show At s i (69 :: []) from hat)).1
    have hlt := get_lt h1
    obtain ⟨g, rfl⟩ : ∃ g', g = g' + 1 := ⟨g - 1, by omega⟩
    refine ⟨[], D, ?_, hA, List.prefix_refl _, by simp, rfl⟩
    rw [dParts, if_pos ⟨by simpa using hne, h1⟩]
    simp [mgFold]
  | p :: l, g, acc, sh, d, D, i, hl, hA, hb, hi, hat, hg, hne => by
    obtain ⟨hx1, hx2⟩ := hl p (by simp)
    obtain ⟨c, r, hc, hcd⟩ := part_head p (mgT f) d
    rw [mgFold] at hat hb ⊢
    simp only at hat hb ⊢
    rw [List.append_assoc] at hat
    obtain ⟨h1, h2⟩ := At.app hat
    have hle := h1.le hi
    have hnI := parts_at_head _ _ _ h2
    have hp := mgFold_pre (mgPart_pre (mgT_pre f)) l (mgPart (mgT f) p d).2
    have hb1 := Nat.le_trans hp.length_le hb
    have hlen : 1 ≤ (mgPart (mgT f) p d).1.length := by rw [hc]; simp
    have hn69 : ¬ (acc.length ≠ 0 ∧ s.data.toList[i]? = some 69) := by
      rintro ⟨_, h⟩
      have h3 := (At.cons (hc ▸ h1)).1
      rw [h3] at h
      rw [Option.some.inj h] at hcd
      exact absurd hcd (by decide)
    obtain ⟨g, rfl⟩ : ∃ g', g = g' + 1 := ⟨g - 1, by omega⟩
    obtain ⟨k1, k2⟩ := At.app (show At s i ((lenL p.1 ++ p.1.data.toList) ++ (if p.2.length = 0 then [] else 73 :: ((mgFold (mgT f) p.2 d).1 ++ [69]))) from h1)
    have e1 := dId_at hi hx1 k1
    have hle1 := k1.le hi
    rw [List.length_append, strL, ← Nat.add_assoc] at k2 hle1
    obtain ⟨ids', D1, e2, A1, P1, a1, t1⟩ : ∃ ids' D1, dArgs s (dOne s f) D (i + (lenL p.1).length + p.1.size) = .ok (i + (mgPart (mgT f) p d).1.length) (p.2, ids', D1) ∧ Agr D1 (mgPart (mgT f) p d).2 ∧ D <+: D1 ∧ (∀ a ∈ ids', a < D1.length) ∧ ids'.map (dTy D1) = p.2 := by
      unfold dArgs
      by_cases h0 : p.2.length = 0
      · have hp2 : p.2 = [] := List.length_eq_zero_iff.1 h0
        have hlp : (mgPart (mgT f) p d).1.length = (lenL p.1).length + p.1.size := by unfold mgPart; rw [if_pos h0]; simp [strL]
        rw [hlp, ← Nat.add_assoc] at hnI ⊢
        rw [if_neg hnI, hp2]
        refine ⟨[], D, rfl, ?_, List.prefix_refl _, by simp, rfl⟩
        unfold mgPart; rw [hp2]; exact hA
      · have hlp : (mgPart (mgT f) p d).1.length = (lenL p.1).length + p.1.size + ((mgFold (mgT f) p.2 d).1.length + 1 + 1) := by unfold mgPart; rw [if_neg h0]; simp [Nat.add_assoc, strL]
        rw [if_neg h0] at k2
        obtain ⟨k3, k4⟩ := At.cons k2
        rw [if_pos k3]
        have hlt := get_lt k3
        obtain ⟨ids', D1, e2, A1, P1, a1, t1⟩ := dTys_ok H p.2 (s.size + 1) [] [] d D (i + (lenL p.1).length + p.1.size + 1) hx2 hA hb1 (by omega) k4 (by omega) (by simpa using h0)
        refine ⟨ids', D1, ?_, A1, P1, a1, t1⟩
        rw [e2, hlp, List.nil_append, List.nil_append]
        congr 1
        omega
    obtain ⟨sh', D2, e3, A2, P2, a2, t2⟩ := dParts_ok H l g (acc ++ [p]) (sh ++ [(p.1, ids')]) _ D1 (i + (mgPart (mgT f) p d).1.length) (fun y hy => hl y (by simp [hy])) A1 hb hle h2 (by omega) (by simp)
    refine ⟨(p.1, ids') :: sh', D2, ?_, A2, P1.trans P2, ?_, ?_⟩
    · rw [dParts, if_neg hn69, e1]
      simp only [Res.bind]
      rw [e2]
      simp only
      rw [show ((p.1, p.2) : Part) = p from rfl, e3]
      simp [Nat.add_assoc]
    · intro q hq
      rcases List.mem_cons.1 hq with rfl | hq
      · exact fun a ha => Nat.lt_of_lt_of_le (a1 a ha) P2.length_le
      · exact a2 q hq
    · rw [List.map_cons, t2]
      unfold decP
      simp only
      rw [decTs_pre P2 a1, t1]
theorem dNew_okB {D : List Nd} {d : List Ty} {i j : Nat} {sh : Shp} {t : Ty} (h : Agr D d) (hs : ShN D.length sh) (ht : decSh D sh = t) (hn : t ∉ d) :
    dNew D i sh t j = .ok j (D.length, t, D ++ [(sh, t)]) ∧ Agr (D ++ [(sh, t)]) (d ++ [t]) ∧ D.length < (D ++ [(sh, t)]).length ∧ dTy (D ++ [(sh, t)]) D.length = t := by
  refine ⟨?_, h.new hs ht.symm hn, by simp, ?_⟩
  · unfold dNew
    rw [if_neg (h.fresh (by rw [ht]; exact hn))]
  · unfold dTy
    rw [List.getElem?_append_right (Nat.le_refl _), Nat.sub_self]
    rfl
theorem read_ok (s : ByteArray) : ∀ f, RdOk s f
  | 0 => fun t d D i h => h.elim
  | f + 1 => fun t d D i hg ht hA hb hi hat => by
    have H := read_ok s f
    obtain ⟨⟨g1, g2⟩, g3, g4, g5, g6, g7⟩ := hg
    obtain ⟨t1, t2⟩ := ht
    obtain ⟨K, nm, of⟩ := t
    simp only [Ty.kind, Ty.name, Ty.of] at g1 g2 g3 g4 g5 g6 g7 t1 t2
    cases hpl : plc d (Ty.mk K nm of) with
    | some k =>
      have hmg : mgT (f + 1) (Ty.mk K nm of) d = (83 :: (toldL (k : Int) ++ [95]), d) := by rw [mgT, hpl]
      rw [hmg] at hat hb ⊢
      simp only at hat hb ⊢
      obtain ⟨k1, k2⟩ := At.cons hat
      rw [show toldL (k : Int) = digs 10 k from rfl] at k2 ⊢
      have hdk := (plc_some hpl).1
      have hkl := (List.getElem?_eq_some_iff.1 hdk).1
      have hkD : k < D.length := by rw [hA.len]; exact hkl
      have hnum := snum_at (n := k) (c := 95) (by omega) (by decide) k2
      have k3 := (At.cons (At.app k2).2).1
      have hty : dTy D k = Ty.mk K nm of := by have := hA.at_ k hkD; rw [hdk] at this; exact (Option.some.inj this).symm
      refine ⟨k, D, ?_, hA, List.prefix_refl _, hkD, hty⟩
      rw [dOne, if_pos k1]
      unfold dAgain
      rw [hnum]
      simp only [Res.bind]
      rw [if_pos k3]
      unfold dPick
      rw [List.getElem?_eq_getElem hkD]
      have : (D[k]).2 = Ty.mk K nm of := by rw [← hty]; unfold dTy; rw [List.getElem?_eq_getElem hkD]
      simp only [this]
      congr 1
      simp; omega
    | none =>
      have hnd := plc_none hpl
      have hmg : mgT (f + 1) (Ty.mk K nm of) d = ((mgBody (mgT f) (Ty.mk K nm of) d).1, (mgBody (mgT f) (Ty.mk K nm of) d).2 ++ [Ty.mk K nm of]) := by rw [mgT, hpl]
      rw [hmg] at hat hb ⊢
      simp only at hat hb ⊢
      rw [List.length_append] at hb
      rcases (show K = 1 ∨ K = 2 ∨ K = 3 ∨ K = 4 by omega) with rfl | rfl | rfl | rfl
      · obtain ⟨rfl, g31, g32⟩ := g3 rfl
        have hbd : mgBody (mgT f) (Ty.mk 1 nm []) d = (78 :: ((mgFold (mgPart (mgT f)) nm d).1 ++ [69]), (mgFold (mgPart (mgT f)) nm d).2) := rfl
        rw [hbd] at hat hb ⊢
        simp only at hat hb ⊢
        obtain ⟨k1, k2⟩ := At.cons hat
        have hlt := get_lt k1
        obtain ⟨sh, D1, e1, A1, P1, a1, t1'⟩ := dParts_ok H nm (s.size + 1) [] [] d D (i + 1) (fun p hp => ⟨(t1 p hp).1, fun x hx => ⟨(g6 p hp).2.2 x hx, (t1 p hp).2 x hx⟩⟩) hA (by omega) (by omega) k2 (by omega) (by simp; intro e; rw [e] at g31; simp at g31)
        have hn1 := body_out (f := f) hnd
        rw [hbd] at hn1
        obtain ⟨e2, A2, a2, t2'⟩ := dNew_okB (i := i) (j := i + 1 + (mgFold (mgPart (mgT f)) nm d).1.length + 1) (sh := ⟨1, sh, []⟩) (t := Ty.mk 1 nm []) A1 ⟨a1, by simp⟩ (by unfold decSh; rw [t1']; rfl) hn1
        refine ⟨_, _, ?_, A2, P1.trans (List.prefix_append _ _), a2, t2'⟩
        rw [dOne, if_neg (by rw [k1]; decide), if_pos k1]
        unfold dName
        rw [if_pos k1, e1]
        simp only [Res.bind, List.nil_append]
        rw [e2]
        congr 1
        simp; omega
      · obtain ⟨rfl, g41, g42⟩ := g4 (by decide)
        obtain ⟨x, rfl⟩ := one_of (g5 (by decide))
        have hbd : mgBody (mgT f) (Ty.mk 2 [] [x]) d = (82 :: ((mgT f x d).1 ++ []), (mgT f x d).2) := rfl
        rw [List.append_nil] at hbd
        rw [hbd] at hat hb ⊢
        simp only at hat hb ⊢
        obtain ⟨k1, k2⟩ := At.cons hat
        have hlt := get_lt k1
        obtain ⟨a, D1, e1, A1, P1, a1, t1'⟩ := H x d D (i + 1) (g7 x (by simp)) (t2 x (by simp)) hA (by omega) (by omega) k2
        have hn1 := body_out (f := f) hnd
        rw [hbd] at hn1
        obtain ⟨e2, A2, a2, t2'⟩ := dNew_okB (i := i) (j := i + 1 + (mgT f x d).1.length) (sh := ⟨2, [], [a]⟩) (t := Ty.mk 2 [] [x]) A1 ⟨by simp, by simpa using a1⟩ (by unfold decSh; simp [t1']) hn1
        refine ⟨_, _, ?_, A2, P1.trans (List.prefix_append _ _), a2, t2'⟩
        rw [dOne, if_neg (by rw [k1]; decide), if_neg (by rw [k1]; decide), if_pos k1, e1]
        simp only [Res.bind]
        rw [e2]
        congr 1
        simp; omega
      · obtain ⟨rfl, g41, g42⟩ := g4 (by decide)
        obtain ⟨x, rfl⟩ := one_of (g5 (by decide))
        have hbd : mgBody (mgT f) (Ty.mk 3 [] [x]) d = (76 :: ((mgT f x d).1 ++ []), (mgT f x d).2) := rfl
        rw [List.append_nil] at hbd
        rw [hbd] at hat hb ⊢
        simp only at hat hb ⊢
        obtain ⟨k1, k2⟩ := At.cons hat
        have hlt := get_lt k1
        obtain ⟨a, D1, e1, A1, P1, a1, t1'⟩ := H x d D (i + 1) (g7 x (by simp)) (t2 x (by simp)) hA (by omega) (by omega) k2
        have hn1 := body_out (f := f) hnd
        rw [hbd] at hn1
        obtain ⟨e2, A2, a2, t2'⟩ := dNew_okB (i := i) (j := i + 1 + (mgT f x d).1.length) (sh := ⟨3, [], [a]⟩) (t := Ty.mk 3 [] [x]) A1 ⟨by simp, by simpa using a1⟩ (by unfold decSh; simp [t1']) hn1
        refine ⟨_, _, ?_, A2, P1.trans (List.prefix_append _ _), a2, t2'⟩
        rw [dOne, if_neg (by rw [k1]; decide), if_neg (by rw [k1]; decide), if_neg (by rw [k1]; decide), if_pos k1, e1]
        simp only [Res.bind]
        rw [e2]
        congr 1
        simp; omega
      · obtain ⟨rfl, g41, g42⟩ := g4 (by decide)
        have hbd : mgBody (mgT f) (Ty.mk 4 [] of) d = (70 :: ((mgFold (mgT f) of d).1 ++ [69]), (mgFold (mgT f) of d).2) := rfl
        rw [hbd] at hat hb ⊢
        simp only at hat hb ⊢
        obtain ⟨k1, k2⟩ := At.cons hat
        have hlt := get_lt k1
        obtain ⟨ids, D1, e1, A1, P1, a1, t1'⟩ := dTys_ok H of (s.size + 1) [] [] d D (i + 1) (fun x hx => ⟨g7 x hx, t2 x hx⟩) hA (by omega) (by omega) k2 (by omega) (by simp; intro e; rw [e] at g41; simp at g41)
        have hn1 := body_out (f := f) hnd
        rw [hbd] at hn1
        obtain ⟨e2, A2, a2, t2'⟩ := dNew_okB (i := i) (j := i + 1 + (mgFold (mgT f) of d).1.length + 1) (sh := ⟨4, [], ids⟩) (t := Ty.mk 4 [] of) A1 ⟨by simp, a1⟩ (by unfold decSh; rw [t1']; rfl) hn1
        refine ⟨_, _, ?_, A2, P1.trans (List.prefix_append _ _), a2, t2'⟩
        rw [dOne, if_neg (by rw [k1]; decide), if_neg (by rw [k1]; decide), if_neg (by rw [k1]; decide), if_neg (by rw [k1]; decide), if_pos k1, e1]
        simp only [Res.bind, List.nil_append]
        rw [e2]
        congr 1
        simp; omega
/- The symbol. -/
theorem dTk_ok {s : ByteArray} : ∀ (l : List Ty) (g : Nat) (acc : List Ty) (d : List Ty) (D : List Nd) (i : Nat),
    (∀ x ∈ l, Good 12 x ∧ Txt 12 x) → Agr D d → (mgFold (mgT 12) l d).2.length ≤ 9999 → i ≤ s.size → At s i ((mgFold (mgT 12) l d).1 ++ [90]) → s.size + 1 ≤ g + i →
    dTk s g acc D i = if i + (mgFold (mgT 12) l d).1.length + 1 < s.size then .bad (i + (mgFold (mgT 12) l d).1.length + 1) else .ok (i + (mgFold (mgT 12) l d).1.length + 1) (acc ++ l)
  | [], g, acc, d, D, i, _, hA, _, hi, hat, hg => by
    have h1 := (At.cons (show At s i (90 :: []) from hat)).1
    have hlt := get_lt h1
    obtain ⟨g, rfl⟩ : ∃ g', g = g' + 1 := ⟨g - 1, by omega⟩
    rw [dTk, if_pos h1]
    simp [mgFold]
  | x :: l, g, acc, d, D, i, hl, hA, hb, hi, hat, hg => by
    obtain ⟨hx1, hx2⟩ := hl x (by simp)
    rw [mgFold] at hat hb ⊢
    simp only at hat hb ⊢
    rw [List.append_assoc] at hat
    obtain ⟨h1, h2⟩ := At.app hat
    have hp := mgFold_pre (mgT_pre 12) l (mgT 12 x d).2
    obtain ⟨a, D1, e1, A1, P1, a1, t1⟩ := read_ok s 12 x d D i hx1 hx2 hA (Nat.le_trans hp.length_le hb) hi h1
    have hle := h1.le hi
    obtain ⟨c, r, hc, _, hc1⟩ := mg_head hx1 d
    have hlen : 1 ≤ (mgT 12 x d).1.length := by rw [hc]; simp
    obtain ⟨g, rfl⟩ : ∃ g', g = g' + 1 := ⟨g - 1, by omega⟩
    have hz := dTk_ok l g (acc ++ [x]) _ D1 (i + (mgT 12 x d).1.length) (fun y hy => hl y (by simp [hy])) A1 hb hle h2 (by omega)
    rw [dTk, if_neg, e1]
    · simp only [Res.bind]
      rw [hz]
      simp [Nat.add_assoc]
    · intro h
      have h3 := (At.cons (hc ▸ h1)).1
      rw [h3] at h
      exact hc1 (Option.some.inj h)
theorem sym_len {y : Sym} (h : (symE y).1 = 0) : (mgFold (mgT 12) y.takes (mgName (mgT 12) y.name []).2).2.length ≤ 9999 := by
  obtain ⟨g1, g2, g3, g4, g5, g6⟩ := sym_good h
  obtain ⟨t1, t2⟩ := sym_txt h
  have h5 : (symE y).2 ≤ 500 := by
    have h0 := h
    unfold symE at h0
    by_cases h1 : (chkName (chkTy 12) y.name 0).1 = 0
    · rw [if_neg (by simpa using h1)] at h0
      have a := chkName_le (chkTy_le 12) y.name 0 (by decide) h1
      have b := chkList_le (chkTy_le 12) 20 y.takes _ a h0
      have hs : (symE y).2 = (chkList (chkTy 12) 20 y.takes (chkName (chkTy 12) y.name 0).2).2 := by unfold symE; rw [if_neg (by simpa using h1)]
      omega
    · rw [if_pos h1] at h0; exact absurd h0 h1
  have ih := fun x d (hx : Good 12 x ∧ Txt 12 x) hd => mgT_grew 12 x d (Nat.le_refl _) hx hd
  have a1 := fold_grew (g := mgPart (mgT 12)) (c := fun p => cntTys 12 p.2) (S := fun p x => ∃ y ∈ p.2, Sub y x) (G := fun p => ∀ x ∈ p.2, Good 12 x ∧ Txt 12 x) (fun p d hp hd => fold_grew (c := cnt 12) (S := fun y x => Sub y x) ih p.2 d hp hd) y.name [] (fun p hp x hx => ⟨(g1 p hp).2.2 x hx, (t1 p hp).2 x hx⟩) ⟨List.nodup_nil, fun x hx => by cases hx⟩
  have a2 := fold_grew (c := cnt 12) (S := fun y x => Sub y x) ih y.takes _ (fun x hx => ⟨g4 x hx, t2 x hx⟩) a1.ok
  have b1 := a1.len
  have b2 := a2.len
  unfold cntParts cntTys at g6
  rw [show (mgName (mgT 12) y.name []).2 = (mgFold (mgPart (mgT 12)) y.name []).2 from rfl]
  unfold cntTys at b1
  simp only [List.length_nil] at b1
  omega
theorem dSym_mg {y : Sym} {s : ByteArray} (h : (symE y).1 = 0) (r : List UInt8) (hs : s.data.toList = mgSym y ++ r) : dSym s = if r = [] then .ok s.size y else .bad (mgSym y).length := by
  obtain ⟨g1, g2, g3, g4, g5, _⟩ := sym_good h
  obtain ⟨t1, t2⟩ := sym_txt h
  have hsz : s.size = (mgSym y).length + r.length := by rw [← strL, hs, List.length_append]
  have hb := sym_len h
  have hat : At s 0 (mgSym y) := ⟨r, by rw [List.drop_zero, hs]⟩
  unfold mgSym at hat
  obtain ⟨k1, k2⟩ := At.cons hat
  have e0 : (mgSym y).length = 1 + (mgName (mgT 12) y.name []).1.length + (mgFold (mgT 12) y.takes (mgName (mgT 12) y.name []).2).1.length + 1 := by unfold mgSym; simp; omega
  obtain ⟨k3, k4⟩ := At.app k2
  unfold mgName at k3 k4 e0 hb
  simp only at k3 k4 e0 hb
  obtain ⟨k5, k6⟩ := At.cons k3
  have hp := mgFold_pre (mgT_pre 12) y.takes (mgFold (mgPart (mgT 12)) y.name []).2
  obtain ⟨sh, D1, e1, A1, P1, a1, t1'⟩ := dParts_ok (read_ok s 12) y.name (s.size + 1) [] [] [] [] (0 + 1 + 1) (fun p hp => ⟨(t1 p hp).1, fun x hx => ⟨(g1 p hp).2.2 x hx, (t1 p hp).2 x hx⟩⟩) ⟨rfl, by simp, by simp, List.nodup_nil⟩ (Nat.le_trans hp.length_le hb) (by omega) k6 (by omega) (by simp; intro e; rw [e] at g2; simp at g2)
  have e2 := dTk_ok y.takes (s.size + 1) [] _ D1 _ (fun x hx => ⟨g4 x hx, t2 x hx⟩) A1 hb (by simp at e0 ⊢; omega) k4 (by omega)
  unfold dSym
  rw [if_pos k1]
  unfold dName
  rw [if_pos k5, e1]
  simp only [Res.bind, List.nil_append]
  have e3 : 0 + 1 + 1 + (mgFold (mgPart (mgT 12)) y.name []).1.length + 1 = 0 + 1 + (78 :: ((mgFold (mgPart (mgT 12)) y.name []).1 ++ [69])).length := by simp; omega
  rw [e3, e2]
  simp at e0
  by_cases hr : r = []
  · subst hr
    simp at hsz
    rw [if_neg (by simp; omega), if_pos rfl]
    simp only [List.nil_append]
    congr 1
    simp; omega
  · have : 1 ≤ r.length := List.length_pos_iff.2 hr
    rw [if_pos (by simp; omega), if_neg hr]
    simp only
    congr 1
    simp; omega
end Go.Proofs.YtocpmbpckbjepaaDoor

/- Plain law: what is read is written as it was. No program. -/
namespace Go.Proofs.YtocpmbpckbjepaaDoor
open Go.RowKit
set_option linter.unusedVariables false
set_option linter.unusedSimpArgs false
/-- What was read as a type is what is written of it. -/
def RdBk (s : ByteArray) (f : Nat) : Prop := ∀ (D : List Nd) (d : List Ty) (i j a : Nat) (t : Ty) (D' : List Nd), Agr D d → i ≤ s.size → dOne s f D i = .ok j (a, t, D') →
  At s i (mgT f t d).1 ∧ j = i + (mgT f t d).1.length ∧ j ≤ s.size ∧ Agr D' (mgT f t d).2 ∧ D <+: D' ∧ a < D'.length ∧ dTy D' a = t
theorem bind_ok {α β : Type} {r : Res α} {k : Nat → α → Res β} {j : Nat} {y : β} (h : r.bind k = .ok j y) : ∃ i x, r = .ok i x ∧ k i x = .ok j y := by
  cases r with
  | bad e => cases h
  | ok i x => exact ⟨i, x, rfl, h⟩
theorem At.one {s : ByteArray} {i : Nat} {c : UInt8} (h : s.data.toList[i]? = some c) : At s i [c] := At.mk_cons h (At.nil _ _)
theorem dTys_bk {s : ByteArray} {f : Nat} (H : RdBk s f) : ∀ (g : Nat) (acc : List Ty) (ids : List Nat) (D : List Nd) (d : List Ty) (i j : Nat) (L : List Ty) (I : List Nat) (D' : List Nd), Agr D d → i ≤ s.size → dTys s (dOne s f) g acc ids D i = .ok j (L, I, D') →
    ∃ l ids', L = acc ++ l ∧ I = ids ++ ids' ∧ acc.length + l.length ≠ 0 ∧ At s i ((mgFold (mgT f) l d).1 ++ [69]) ∧ j = i + (mgFold (mgT f) l d).1.length + 1 ∧ j ≤ s.size ∧ Agr D' (mgFold (mgT f) l d).2 ∧ D <+: D' ∧ (∀ a ∈ ids', a < D'.length) ∧ ids'.map (dTy D') = l
  | 0, _, _, _, _, _, _, _, _, _, _, _, h => by cases h
  | g + 1, acc, ids, D, d, i, j, L, I, D', hA, hi, h => by
    rw [dTys] at h
    by_cases hc : acc.length ≠ 0 ∧ s.data.toList[i]? = some 69
    · rw [if_pos hc] at h
      injection h with h1 h2
      rw [Prod.mk.injEq, Prod.mk.injEq] at h2
      obtain ⟨rfl, rfl, rfl⟩ := h2
      have hlt := get_lt hc.2
      exact ⟨[], [], by simp, by simp, by simpa using hc.1, At.one hc.2, by rw [← h1]; rfl, by omega, hA, List.prefix_refl _, by simp, rfl⟩
    · rw [if_neg hc] at h
      obtain ⟨k, ⟨a, t, D1⟩, e1, e2⟩ := bind_ok h
      obtain ⟨b1, b2, b3, b4, b5, b6, b7⟩ := H D d i k a t D1 hA hi e1
      obtain ⟨l, ids', c1, c2, c3, c4, c5, c6, c7, c8, c9, c10⟩ := dTys_bk H g _ _ D1 _ k j L I D' b4 b3 e2
      refine ⟨t :: l, a :: ids', by rw [c1]; simp, by rw [c2]; simp, by simp, ?_, ?_, c6, c7, b5.trans c8, ?_, ?_⟩
      · rw [mgFold, List.append_assoc]
        rw [b2] at c4
        exact At.mk_app b1 c4
      · rw [mgFold, List.length_append]
        omega
      · intro b hb
        rcases List.mem_cons.1 hb with rfl | hb
        · exact Nat.lt_of_lt_of_le b6 c8.length_le
        · exact c9 b hb
      · rw [List.map_cons, c10, dTy_pre c8 b6, b7]
theorem dId_bk {s : ByteArray} {i j : Nat} {x : ByteArray} (hi : i ≤ s.size) (h : dId s i = .ok j x) : At s i (lenL x ++ x.data.toList) ∧ j = i + ((lenL x).length + x.size) ∧ j ≤ s.size := by
  have h0 := dId_ok hi h
  unfold dId at h
  obtain ⟨k, n, e1, e2⟩ := bind_ok h
  obtain ⟨h1, h2⟩ := dNum_at e1
  split at e2
  · cases e2
  · rename_i hc
    split at e2
    · injection e2 with e3 e4
      have hz : x.size = n := by rw [← e4, ByteArray.size_extract]; omega
      have hl : lenL x = digs 10 n := by unfold lenL toldL; rw [hz]; rfl
      have hx : x.data.toList = (s.data.toList.drop k).take n := by rw [← e4]; exact ext_toL s k n (by omega)
      refine ⟨?_, by rw [hl, hz]; omega, h0.2.1⟩
      rw [hl]
      refine At.mk_app h1 ?_
      rw [← h2, hx]
      exact List.take_prefix _ _
    · cases e2
theorem dParts_bk {s : ByteArray} {f : Nat} (H : RdBk s f) : ∀ (g : Nat) (acc : List Part) (sh : List (ByteArray × List Nat)) (D : List Nd) (d : List Ty) (i j : Nat) (L : List Part) (I : List (ByteArray × List Nat)) (D' : List Nd), Agr D d → i ≤ s.size → dParts s (dOne s f) g acc sh D i = .ok j (L, I, D') →
    ∃ l sh', L = acc ++ l ∧ I = sh ++ sh' ∧ acc.length + l.length ≠ 0 ∧ At s i ((mgFold (mgPart (mgT f)) l d).1 ++ [69]) ∧ j = i + (mgFold (mgPart (mgT f)) l d).1.length + 1 ∧ j ≤ s.size ∧ Agr D' (mgFold (mgPart (mgT f)) l d).2 ∧ D <+: D' ∧ (∀ p ∈ sh', ∀ a ∈ p.2, a < D'.length) ∧ sh'.map (decP D') = l
  | 0, _, _, _, _, _, _, _, _, _, _, _, h => by cases h
  | g + 1, acc, sh, D, d, i, j, L, I, D', hA, hi, h => by
    rw [dParts] at h
    by_cases hc : acc.length ≠ 0 ∧ s.data.toList[i]? = some 69
    · rw [if_pos hc] at h
      injection h with h1 h2
      rw [Prod.mk.injEq, Prod.mk.injEq] at h2
      obtain ⟨rfl, rfl, rfl⟩ := h2
      have hlt := get_lt hc.2
      exact ⟨[], [], by simp, by simp, by simpa using hc.1, At.one hc.2, by rw [← h1]; rfl, by omega, hA, List.prefix_refl _, by simp, rfl⟩
    · rw [if_neg hc] at h
      obtain ⟨k, x, e1, h⟩ := bind_ok h
      obtain ⟨q, ⟨l1, I1, D1⟩, e2, e3⟩ := bind_ok h
      obtain ⟨a1, a2, a3⟩ := dId_bk hi e1
      have key : At s i (mgPart (mgT f) (x, l1) d).1 ∧ q = i + (mgPart (mgT f) (x, l1) d).1.length ∧ q ≤ s.size ∧ Agr D1 (mgPart (mgT f) (x, l1) d).2 ∧ D <+: D1 ∧ (∀ a ∈ I1, a < D1.length) ∧ I1.map (dTy D1) = l1 := by
        have hlen : (lenL x ++ x.data.toList).length = (lenL x).length + x.size := by rw [List.length_append, strL]
        unfold dArgs at e2
        by_cases h73 : s.data.toList[k]? = some 73
        · rw [if_pos h73] at e2
          have hlt := get_lt h73
          obtain ⟨l, ids', c1, c2, c3, c4, c5, c6, c7, c8, c9, c10⟩ := dTys_bk H _ _ _ D d (k + 1) q l1 I1 D1 hA (by omega) e2
          rw [List.nil_append] at c1 c2
          subst c1 c2
          have hne : ¬ l1.length = 0 := by simpa using c3
          have hmg : (mgPart (mgT f) (x, l1) d).1 = lenL x ++ x.data.toList ++ (73 :: ((mgFold (mgT f) l1 d).1 ++ [69])) := by unfold mgPart; rw [if_neg hne]
          rw [hmg]
          refine ⟨At.mk_app a1 ?_, ?_, c6, c7, c8, c9, c10⟩
          · rw [hlen, ← a2]; exact At.mk_cons h73 c4
          · rw [List.length_append, hlen]; simp; omega
        · rw [if_neg h73] at e2
          injection e2 with h1 h2
          rw [Prod.mk.injEq, Prod.mk.injEq] at h2
          obtain ⟨rfl, rfl, rfl⟩ := h2
          have hmg : (mgPart (mgT f) (x, []) d).1 = lenL x ++ x.data.toList := by unfold mgPart; simp
          rw [hmg, hlen]
          exact ⟨a1, by omega, by omega, hA, List.prefix_refl _, by simp, rfl⟩
      obtain ⟨b1, b2, b3, b4, b5, b6, b7⟩ := key
      obtain ⟨l, sh', c1, c2, c3, c4, c5, c6, c7, c8, c9, c10⟩ := dParts_bk H g _ _ D1 _ q j L I D' b4 b3 e3
      refine ⟨(x, l1) :: l, (x, I1) :: sh', by rw [c1]; simp, by rw [c2]; simp, by simp, ?_, ?_, c6, c7, b5.trans c8, ?_, ?_⟩
      · rw [mgFold, List.append_assoc]
        rw [b2] at c4
        exact At.mk_app b1 c4
      · rw [mgFold, List.length_append]
        omega
      · intro p hp
        rcases List.mem_cons.1 hp with rfl | hp
        · exact fun a ha => Nat.lt_of_lt_of_le (b6 a ha) c8.length_le
        · exact c9 p hp
      · rw [List.map_cons, c10]
        unfold decP
        simp only
        rw [decTs_pre c8 b6, b7]
theorem dName_bk {s : ByteArray} {f : Nat} (H : RdBk s f) {D D' : List Nd} {d : List Ty} {i j : Nat} {L : List Part} {I : List (ByteArray × List Nat)} (hA : Agr D d) (hi : i ≤ s.size) (h : dName s (dOne s f) D i = .ok j (L, I, D')) :
    At s i (mgName (mgT f) L d).1 ∧ j = i + (mgName (mgT f) L d).1.length ∧ j ≤ s.size ∧ Agr D' (mgName (mgT f) L d).2 ∧ D <+: D' ∧ (∀ p ∈ I, ∀ a ∈ p.2, a < D'.length) ∧ I.map (decP D') = L := by
  unfold dName at h
  split at h
  · rename_i h78
    have hlt := get_lt h78
    obtain ⟨l, sh', c1, c2, c3, c4, c5, c6, c7, c8, c9, c10⟩ := dParts_bk H _ _ _ D d (i + 1) j L I D' hA (by omega) h
    rw [List.nil_append] at c1 c2
    subst c1 c2
    unfold mgName
    exact ⟨At.mk_cons h78 c4, by simp; omega, c6, c7, c8, c9, c10⟩
  · cases h
theorem dNew_bk {D D' : List Nd} {d : List Ty} {i j k a : Nat} {sh : Shp} {t t' : Ty} (h : Agr D d) (hs : ShN D.length sh) (ht : decSh D sh = t) (e : dNew D i sh t k = .ok j (a, t', D')) :
    t' = t ∧ j = k ∧ t ∉ d ∧ Agr D' (d ++ [t]) ∧ D <+: D' ∧ a < D'.length ∧ dTy D' a = t := by
  unfold dNew at e
  split at e
  · cases e
  · rename_i hn
    injection e with h1 h2
    rw [Prod.mk.injEq, Prod.mk.injEq] at h2
    obtain ⟨rfl, rfl, rfl⟩ := h2
    have hnd := h.fresh' hs hn
    rw [ht] at hnd
    refine ⟨rfl, h1.symm, hnd, h.new hs ht.symm hnd, List.prefix_append _ _, by simp, ?_⟩
    unfold dTy
    rw [List.getElem?_append_right (Nat.le_refl _), Nat.sub_self]
    rfl
theorem plc_out {d d' : List Ty} {t : Ty} (h : t ∉ d') (hp : d <+: d') : plc d t = none := by
  cases hx : plc d t with
  | none => rfl
  | some k => exact absurd (hp.subset (List.mem_of_getElem? (plc_some hx).1)) h
theorem back_ok (s : ByteArray) : ∀ f, RdBk s f
  | 0 => fun D d i j a t D' hA hi h => by cases h
  | f + 1 => fun D d i j a t D' hA hi h => by
    have H := back_ok s f
    rw [dOne] at h
    by_cases h83 : s.data.toList[i]? = some 83
    · rw [if_pos h83] at h
      have hlt := get_lt h83
      unfold dAgain at h
      obtain ⟨k, n, e1, e2⟩ := bind_ok h
      obtain ⟨n1, n2⟩ := dNum_at e1
      split at e2
      · rename_i h95
        have hlt2 := get_lt h95
        unfold dPick at e2
        split at e2
        · rename_i x hx
          injection e2 with h1 h2
          rw [Prod.mk.injEq, Prod.mk.injEq] at h2
          obtain ⟨rfl, rfl, rfl⟩ := h2
          have hn := (List.getElem?_eq_some_iff.1 hx).1
          have hty : dTy D n = x.2 := by unfold dTy; rw [hx]
          have hpl : plc d x.2 = some n := plc_of hA.nodup (by rw [hA.at_ n hn, hty])
          have hmg : mgT (f + 1) x.2 d = (83 :: (digs 10 n ++ [95]), d) := by rw [mgT, hpl]; rfl
          rw [hmg]
          refine ⟨At.mk_cons h83 (At.mk_app n1 (At.one (by rw [← n2]; exact h95))), by simp; omega, by omega, hA, List.prefix_refl _, hn, hty⟩
        · cases e2
      · cases e2
    rw [if_neg h83] at h
    by_cases h78 : s.data.toList[i]? = some 78
    · rw [if_pos h78] at h
      obtain ⟨k, ⟨l, I, D1⟩, e1, e2⟩ := bind_ok h
      obtain ⟨b1, b2, b3, b4, b5, b6, b7⟩ := dName_bk H hA hi e1
      obtain ⟨rfl, rfl, c3, c4, c5, c6, c7⟩ := dNew_bk b4 ⟨b6, by simp⟩ (t := Ty.mk 1 l []) (by unfold decSh; rw [b7]; rfl) e2
      have hpre : d <+: (mgName (mgT f) l d).2 := mgFold_pre (mgPart_pre (mgT_pre f)) l d
      have hmg : mgT (f + 1) (Ty.mk 1 l []) d = ((mgName (mgT f) l d).1, (mgName (mgT f) l d).2 ++ [Ty.mk 1 l []]) := by rw [mgT, plc_out c3 hpre]; rfl
      rw [hmg]
      exact ⟨b1, b2, b3, c4, b5.trans c5, c6, c7⟩
    rw [if_neg h78] at h
    by_cases h82 : s.data.toList[i]? = some 82
    · rw [if_pos h82] at h
      have hlt := get_lt h82
      obtain ⟨k, ⟨a1, t1, D1⟩, e1, e2⟩ := bind_ok h
      obtain ⟨b1, b2, b3, b4, b5, b6, b7⟩ := H D d (i + 1) k a1 t1 D1 hA (by omega) e1
      obtain ⟨rfl, rfl, c3, c4, c5, c6, c7⟩ := dNew_bk b4 (sh := ⟨2, [], [a1]⟩) ⟨by simp, by simpa using b6⟩ (t := Ty.mk 2 [] [t1]) (by unfold decSh; simp [b7]) e2
      have hmg : mgT (f + 1) (Ty.mk 2 [] [t1]) d = (82 :: ((mgT f t1 d).1 ++ []), (mgT f t1 d).2 ++ [Ty.mk 2 [] [t1]]) := by rw [mgT, plc_out c3 (mgT_pre f t1 d)]; rfl
      rw [hmg, List.append_nil]
      exact ⟨At.mk_cons h82 b1, by simp; omega, b3, c4, b5.trans c5, c6, c7⟩
    rw [if_neg h82] at h
    by_cases h76 : s.data.toList[i]? = some 76
    · rw [if_pos h76] at h
      have hlt := get_lt h76
      obtain ⟨k, ⟨a1, t1, D1⟩, e1, e2⟩ := bind_ok h
      obtain ⟨b1, b2, b3, b4, b5, b6, b7⟩ := H D d (i + 1) k a1 t1 D1 hA (by omega) e1
      obtain ⟨rfl, rfl, c3, c4, c5, c6, c7⟩ := dNew_bk b4 (sh := ⟨3, [], [a1]⟩) ⟨by simp, by simpa using b6⟩ (t := Ty.mk 3 [] [t1]) (by unfold decSh; simp [b7]) e2
      have hmg : mgT (f + 1) (Ty.mk 3 [] [t1]) d = (76 :: ((mgT f t1 d).1 ++ []), (mgT f t1 d).2 ++ [Ty.mk 3 [] [t1]]) := by rw [mgT, plc_out c3 (mgT_pre f t1 d)]; rfl
      rw [hmg, List.append_nil]
      exact ⟨At.mk_cons h76 b1, by simp; omega, b3, c4, b5.trans c5, c6, c7⟩
    rw [if_neg h76] at h
    by_cases h70 : s.data.toList[i]? = some 70
    · rw [if_pos h70] at h
      have hlt := get_lt h70
      obtain ⟨k, ⟨l, I, D1⟩, e1, e2⟩ := bind_ok h
      obtain ⟨l', ids', d1, d2, d3, b1, b2, b3, b4, b5, b6, b7⟩ := dTys_bk H _ _ _ D d (i + 1) k l I D1 hA (by omega) e1
      rw [List.nil_append] at d1 d2
      subst d1 d2
      obtain ⟨rfl, rfl, c3, c4, c5, c6, c7⟩ := dNew_bk b4 (sh := ⟨4, [], I⟩) ⟨by simp, b6⟩ (t := Ty.mk 4 [] l) (by unfold decSh; rw [b7]; rfl) e2
      have hmg : mgT (f + 1) (Ty.mk 4 [] l) d = (70 :: ((mgFold (mgT f) l d).1 ++ [69]), (mgFold (mgT f) l d).2 ++ [Ty.mk 4 [] l]) := by rw [mgT, plc_out c3 (mgFold_pre (mgT_pre f) l d)]; rfl
      rw [hmg]
      exact ⟨At.mk_cons h70 b1, by simp; omega, b3, c4, b5.trans c5, c6, c7⟩
    rw [if_neg h70] at h
    cases h
theorem dTk_bk {s : ByteArray} : ∀ (g : Nat) (acc : List Ty) (D : List Nd) (d : List Ty) (i j : Nat) (L : List Ty), Agr D d → i ≤ s.size → dTk s g acc D i = .ok j L →
    ∃ l, L = acc ++ l ∧ At s i ((mgFold (mgT 12) l d).1 ++ [90]) ∧ i + (mgFold (mgT 12) l d).1.length + 1 = s.size
  | 0, _, _, _, _, _, _, _, _, h => by cases h
  | g + 1, acc, D, d, i, j, L, hA, hi, h => by
    rw [dTk] at h
    by_cases hc : s.data.toList[i]? = some 90
    · rw [if_pos hc] at h
      have hlt := get_lt hc
      split at h
      · cases h
      · injection h with h1 h2
        exact ⟨[], by rw [h2]; simp, At.one hc, by simp [mgFold]; omega⟩
    · rw [if_neg hc] at h
      obtain ⟨k, ⟨a, t, D1⟩, e1, e2⟩ := bind_ok h
      obtain ⟨b1, b2, b3, b4, b5, b6, b7⟩ := back_ok s 12 D d i k a t D1 hA hi e1
      obtain ⟨l, c1, c2, c3⟩ := dTk_bk g _ D1 _ k j L b4 b3 e2
      refine ⟨t :: l, by rw [c1]; simp, ?_, ?_⟩
      · rw [mgFold, List.append_assoc]
        rw [b2] at c2
        exact At.mk_app b1 c2
      · rw [mgFold, List.length_append]
        omega
theorem dSym_bk {s : ByteArray} {j : Nat} {y : Sym} (h : dSym s = .ok j y) : s.data.toList = mgSym y := by
  unfold dSym at h
  split at h
  · rename_i h81
    have hlt := get_lt h81
    obtain ⟨k, ⟨nm, I, D1⟩, e1, e2⟩ := bind_ok h
    obtain ⟨q, l, e3, e4⟩ := bind_ok e2
    injection e4 with _ e4
    subst e4
    obtain ⟨b1, b2, b3, b4, b5, b6, b7⟩ := dName_bk (back_ok s 12) (d := []) ⟨rfl, by simp, by simp, List.nodup_nil⟩ (by omega) e1
    obtain ⟨l', c1, c2, c3⟩ := dTk_bk _ _ D1 _ k q l b4 b3 e3
    rw [List.nil_append] at c1
    subst c1
    unfold mgSym
    refine At.all (At.mk_cons h81 (At.mk_app b1 (by rw [b2] at c2; exact c2))) ?_
    simp
    omega
  · cases h
end Go.Proofs.YtocpmbpckbjepaaDoor

/- Plain law: what is printed is parsed, and gives the symbol back. No program. -/
namespace Go.Proofs.YtocpmbpckbjepaaDoor
open Go.RowKit
set_option linter.unusedVariables false
set_option linter.unusedSimpArgs false
theorem needB_at {s : ByteArray} : ∀ (t : List UInt8) (i : Nat), At s i t → needB s t i = .ok (i + t.length) ()
  | [], i, _ => rfl
  | b :: t, i, h => by
    obtain ⟨h1, h2⟩ := At.cons h
    rw [needB, if_pos h1, needB_at t (i + 1) h2, List.length_cons]
    congr 1
    omega
/-- What may stand behind a type. -/
def Stp (c : UInt8) : Prop := c = 44 ∨ c = 62 ∨ c = 41 ∨ c = 40
theorem Stp.id {c : UInt8} (h : Stp c) : lettB c = false ∧ digB c = false := by
  rcases h with rfl | rfl | rfl | rfl <;> decide
theorem idK_app : ∀ (l r : List UInt8) (j : Nat), idK j l = l.length → (∀ c, r.head? = some c → lettB c = false ∧ digB c = false) → idK j (l ++ r) = l.length
  | [], [], _, _, _ => rfl
  | [], c :: r, j, _, h => by
    obtain ⟨h1, h2⟩ := h c rfl
    rw [List.nil_append, idK, if_neg (by unfold okId; rw [h1, h2]; simp)]; rfl
  | c :: l, r, j, h, hr => by
    rw [idK] at h
    split at h
    · rename_i hc
      rw [List.cons_append, idK, if_pos hc, idK_app l r (j + 1) (by simpa using h) hr, List.length_cons]
    · simp at h
theorem strL' (x : ByteArray) : x.data.toList.length = x.size := by rw [Array.length_toList]; rfl
theorem ident_at {s x : ByteArray} {i : Nat} {c : UInt8} (hi : i ≤ s.size) (hx : textE x = 0) (hc : lettB c = false ∧ digB c = false) (h : At s i (x.data.toList ++ [c])) : idL s i = x.size ∧ idL s i ≠ 0 ∧ s.extract i (i + idL s i) = x := by
  obtain ⟨h1, h2, h3⟩ := textE_iff.1 hx
  obtain ⟨r, hr⟩ := h
  have e : idL s i = x.size := by
    unfold idL
    rw [← hr, List.append_assoc, idK_app _ _ 0 h3 (fun d hd => by simp at hd; rw [← hd]; exact hc), strL']
  refine ⟨e, by rw [e]; exact h1, ?_⟩
  rw [e]
  apply ByteArray.ext
  apply Array.toList_inj.1
  have hle : i + x.size ≤ s.size := by
    have := idL_le s i hi
    rw [e] at this; exact this
  rw [ext_toL _ _ _ hle, ← hr, List.append_assoc, List.take_left' (strL' x)]
theorem sepL_two (c x y : List UInt8) (r : List (List UInt8)) : sepL c (x :: y :: r) = x ++ (c ++ sepL c (y :: r)) := by
  simp [sepL, List.append_assoc]
/-- Parsing a type gives what was printed. -/
def PrOk (s : ByteArray) (f : Nat) : Prop := ∀ (t : Ty) (i : Nat) (c : UInt8), Good f t → Txt f t → wd f t = false → Stp c → i ≤ s.size → At s i (prT f t ++ [c]) → pOne s f i = .ok (i + (prT f t).length) t
theorem prPart_head {g : Ty → List UInt8} {p : Part} (h : textE p.1 = 0) : ∃ c r, prPart g p = c :: r := by
  obtain ⟨c, r, e, _⟩ := text_head h
  exact ⟨c, _, by unfold prPart; rw [e]; rfl⟩
theorem pr_pos {f : Nat} {t : Ty} (h : Good f t) (ht : Txt f t) : 1 ≤ (prT f t).length := by
  cases f with
  | zero => exact h.elim
  | succ f =>
    unfold prT
    split
    · rename_i h1
      obtain ⟨_, g2, _⟩ := h.2.1 h1
      cases hn : t.name with
      | nil => rw [hn] at g2; simp at g2
      | cons p r =>
        obtain ⟨c, q, e⟩ := prPart_head (g := prT f) (ht.1 p (by rw [hn]; simp)).1
        unfold prName
        rw [List.map_cons, sepL, e]
        simp
    · split
      · simp [funcB]
      · split <;> simp [refB, listB]
theorem pTys_ok {s : ByteArray} {f : Nat} (H : PrOk s f) : ∀ (l : List Ty) (g : Nat) (acc : List Ty) (i : Nat) (c : UInt8), l ≠ [] → (∀ x ∈ l, Good f x ∧ Txt f x ∧ wd f x = false) → Stp c → c ≠ 44 → i ≤ s.size → At s i (prTys (prT f) l ++ [c]) → s.size + 1 ≤ g + i →
    pTys s (pOne s f) g acc i = .ok (i + (prTys (prT f) l).length) (acc ++ l)
  | [], _, _, _, _, h, _, _, _, _, _, _ => absurd rfl h
  | [x], g, acc, i, c, _, hl, hc, hc44, hi, hat, hg => by
    obtain ⟨h1, h2, h3⟩ := hl x (by simp)
    have e0 : prTys (prT f) [x] = prT f x := by simp [prTys, sepL]
    rw [e0] at hat ⊢
    have hle := hat.le hi
    rw [List.length_append, List.length_singleton] at hle
    obtain ⟨g, rfl⟩ : ∃ g', g = g' + 1 := ⟨g - 1, by omega⟩
    rw [pTys, H x i c h1 h2 h3 hc hi hat]
    simp only [Res.bind]
    rw [if_neg]
    rw [(At.cons (At.app hat).2).1]
    exact fun e => hc44 (Option.some.inj e)
  | x :: y :: r, g, acc, i, c, _, hl, hc, hc44, hi, hat, hg => by
    obtain ⟨h1, h2, h3⟩ := hl x (by simp)
    have e0 : prTys (prT f) (x :: y :: r) = prT f x ++ ([44, 32] ++ prTys (prT f) (y :: r)) := sepL_two _ _ _ _
    rw [e0] at hat ⊢
    have hat1 : At s i ((prT f x ++ [44]) ++ ([32] ++ prTys (prT f) (y :: r) ++ [c])) := by simpa using hat
    obtain ⟨k1, k2⟩ := At.app hat1
    rw [List.length_append, List.length_singleton] at k2
    have hle := k1.le hi
    rw [List.length_append, List.length_singleton] at hle
    obtain ⟨k3, k4⟩ := At.app (show At s (i + ((prT f x).length + 1)) ([32] ++ (prTys (prT f) (y :: r) ++ [c])) by simpa using k2)
    have hle2 := k3.le hle
    obtain ⟨g, rfl⟩ : ∃ g', g = g' + 1 := ⟨g - 1, by omega⟩
    rw [pTys, H x i 44 h1 h2 h3 (.inl rfl) hi k1]
    simp only [Res.bind]
    rw [if_pos (At.cons (At.app k1).2).1, Nat.add_assoc, needB_at _ _ k3]
    simp only
    rw [pTys_ok H (y :: r) g (acc ++ [x]) _ c (by simp) (fun z hz => hl z (by simp [hz])) hc hc44 (by simpa using hle2) k4 (by simp; omega)]
    simp
    omega
/-- The types a part was made with, printed. -/
def arB (g : Ty → List UInt8) (p : Part) : List UInt8 := if p.2.length = 0 then [] else [60] ++ sepL [44, 32] (p.2.map g) ++ [62]
theorem prName_cons (g : Ty → List UInt8) (p : Part) (r : List Part) : prName g (p :: r) = p.1.data.toList ++ (arB g p ++ r.flatMap fun q => 46 :: prPart g q) := by
  unfold prName prPart arB
  rw [List.map_cons, sepL, List.append_assoc]
  simp [List.flatMap_map]
theorem pParts_ok {s : ByteArray} {f : Nat} (H : PrOk s f) : ∀ (r : List Part) (p : Part) (g : Nat) (acc : List Part) (i : Nat) (c : UInt8), (∀ q ∈ p :: r, textE q.1 = 0 ∧ ∀ x ∈ q.2, Good f x ∧ Txt f x ∧ wd f x = false) → Stp c → i ≤ s.size →
    At s i ((arB (prT f) p ++ r.flatMap fun q => 46 :: prPart (prT f) q) ++ [c]) → s.size + 1 ≤ g + i → pParts s (pOne s f) g acc p.1 i = .ok (i + (arB (prT f) p ++ r.flatMap fun q => 46 :: prPart (prT f) q).length) (acc ++ p :: r) := by
  intro r
  induction r with
  | nil =>
    intro p g acc i c hl hc hi hat hg
    have hc60 : c ≠ 60 := by rcases hc with rfl | rfl | rfl | rfl <;> decide
    have hc46 : c ≠ 46 := by rcases hc with rfl | rfl | rfl | rfl <;> decide
    have hle := hat.le hi
    rw [List.length_append, List.length_singleton] at hle
    obtain ⟨g, rfl⟩ : ∃ g', g = g' + 1 := ⟨g - 1, by omega⟩
    rw [List.flatMap_nil, List.append_nil] at hat hle ⊢
    obtain ⟨_, hx⟩ := hl p (by simp)
    have hend := (At.cons (At.app hat).2).1
    have key : pArgs s (pOne s f) i = .ok (i + (arB (prT f) p).length) p.2 := by
      unfold pArgs
      by_cases h0 : p.2.length = 0
      · have e0 : arB (prT f) p = [] := by unfold arB; rw [if_pos h0]
        rw [e0] at hend ⊢
        rw [List.length_nil, Nat.add_zero] at hend
        rw [if_neg (by rw [hend]; exact fun e => hc60 (Option.some.inj e)), List.length_eq_zero_iff.1 h0]
        rfl
      · have e0 : arB (prT f) p = 60 :: (prTys (prT f) p.2 ++ [62]) := by unfold arB prTys; rw [if_neg h0]; simp
        rw [e0] at hat ⊢
        obtain ⟨k1, k2⟩ := At.cons (show At s i (60 :: ((prTys (prT f) p.2 ++ [62]) ++ [c])) from hat)
        have k3 := (At.app k2).1
        rw [if_pos k1, pTys_ok H p.2 (s.size + 1) [] (i + 1) 62 (fun e => h0 (by rw [e]; rfl)) hx (.inr (.inl rfl)) (by decide) (get_lt k1) k3 (by omega)]
        simp only [Res.bind, List.nil_append]
        rw [needB_at _ _ (At.app k3).2]
        simp
        omega
    rw [pParts, key]
    simp only [Res.bind]
    rw [if_neg (by rw [hend]; exact fun e => hc46 (Option.some.inj e))]
  | cons q r ih =>
    intro p g acc i c hl hc hi hat hg
    have hat0 : At s i (arB (prT f) p ++ (46 :: (prPart (prT f) q ++ ((r.flatMap fun q => 46 :: prPart (prT f) q) ++ [c])))) := by simpa using hat
    obtain ⟨hA, hB⟩ := At.app hat0
    obtain ⟨hend, hC⟩ := At.cons hB
    have hlt := get_lt hend
    obtain ⟨g, rfl⟩ : ∃ g', g = g' + 1 := ⟨g - 1, by omega⟩
    obtain ⟨_, hx⟩ := hl p (by simp)
    have key : pArgs s (pOne s f) i = .ok (i + (arB (prT f) p).length) p.2 := by
      unfold pArgs
      by_cases h0 : p.2.length = 0
      · have e0 : arB (prT f) p = [] := by unfold arB; rw [if_pos h0]
        rw [e0] at hend ⊢
        rw [List.length_nil, Nat.add_zero] at hend
        rw [if_neg (by rw [hend]; decide), List.length_eq_zero_iff.1 h0]
        rfl
      · have e0 : arB (prT f) p = 60 :: (prTys (prT f) p.2 ++ [62]) := by unfold arB prTys; rw [if_neg h0]; simp
        rw [e0] at hA ⊢
        obtain ⟨k1, k3⟩ := At.cons hA
        rw [if_pos k1, pTys_ok H p.2 (s.size + 1) [] (i + 1) 62 (fun e => h0 (by rw [e]; rfl)) hx (.inr (.inl rfl)) (by decide) (get_lt k1) k3 (by omega)]
        simp only [Res.bind, List.nil_append]
        rw [needB_at _ _ (At.app k3).2]
        simp
        omega
    have e1 : prPart (prT f) q = q.1.data.toList ++ arB (prT f) q := rfl
    obtain ⟨hq, _⟩ := hl q (by simp)
    -- what stands behind the identifier
    obtain ⟨d, rest, hd, hdid⟩ : ∃ d rest, arB (prT f) q ++ ((r.flatMap fun q => 46 :: prPart (prT f) q) ++ [c]) = d :: rest ∧ (lettB d = false ∧ digB d = false) := by
      by_cases h0 : q.2.length = 0
      · have e0 : arB (prT f) q = [] := by unfold arB; rw [if_pos h0]
        rw [e0]
        cases r with
        | nil => exact ⟨c, [], rfl, hc.id⟩
        | cons z r => exact ⟨46, _, rfl, by decide⟩
      · have e0 : arB (prT f) q = 60 :: (prTys (prT f) q.2 ++ [62]) := by unfold arB prTys; rw [if_neg h0]; simp
        rw [e0]
        exact ⟨60, _, rfl, by decide⟩
    rw [e1, List.append_assoc, hd] at hC
    have hC1 : At s (i + (arB (prT f) p).length + 1) (q.1.data.toList ++ [d]) := (At.app (show At s _ ((q.1.data.toList ++ [d]) ++ rest) by simpa using hC)).1
    obtain ⟨i1, i2, i3⟩ := ident_at (by omega) hq hdid hC1
    have hC2 := (At.app hC).2
    rw [← hd, strL'] at hC2
    have hle := hC1.le (by omega)
    rw [List.length_append, strL', List.length_singleton] at hle
    rw [pParts, key]
    simp only [Res.bind]
    rw [if_pos hend, if_neg i2, i3, i1]
    rw [show ((p.1, p.2) : Part) = p from rfl, ih q g (acc ++ [p]) _ c (fun z hz => hl z (by simp at hz ⊢; exact .inr hz)) hc (by omega) (by simpa using hC2) (by omega)]
    simp [e1, strL']
    omega
theorem pr_head {f : Nat} {t : Ty} (h : Good f t) (ht : Txt f t) : ∃ b q, prT f t = b :: q ∧ (lettB b || digB b) = true := by
  cases f with
  | zero => exact h.elim
  | succ f =>
    unfold prT
    split
    · rename_i h1
      obtain ⟨_, g2, _⟩ := h.2.1 h1
      cases hn : t.name with
      | nil => rw [hn] at g2; simp at g2
      | cons p r =>
        have hx := (ht.1 p (by rw [hn]; simp)).1
        obtain ⟨h0, _, h3⟩ := textE_iff.1 hx
        rw [prName_cons]
        cases hp : p.1.data.toList with
        | nil => rw [hp] at h3; exact absurd (by rw [← strL', hp]; rfl) h0
        | cons b q =>
          rw [hp, idK] at h3
          split at h3
          · rename_i hb
            refine ⟨b, _, rfl, ?_⟩
            unfold okId at hb
            revert hb
            cases lettB b <;> cases digB b <;> simp
          · simp at h3
    · split
      · exact ⟨102, _, rfl, by decide⟩
      · split
        · exact ⟨114, _, rfl, by decide⟩
        · exact ⟨108, _, rfl, by decide⟩
theorem name_ok {s : ByteArray} {f : Nat} (H : PrOk s f) {p : Part} {r : List Part} {i : Nat} {c : UInt8} (hl : ∀ q ∈ p :: r, textE q.1 = 0 ∧ ∀ x ∈ q.2, Good f x ∧ Txt f x ∧ wd f x = false) (hc : Stp c) (hi : i ≤ s.size) (hat : At s i (prName (prT f) (p :: r) ++ [c])) :
    idL s i ≠ 0 ∧ s.extract i (i + idL s i) = p.1 ∧ pParts s (pOne s f) (s.size + 1) [] p.1 (i + idL s i) = .ok (i + (prName (prT f) (p :: r)).length) (p :: r) := by
  obtain ⟨hq, _⟩ := hl p (by simp)
  rw [prName_cons] at hat ⊢
  have hC : At s i (p.1.data.toList ++ ((arB (prT f) p ++ r.flatMap fun q => 46 :: prPart (prT f) q) ++ [c])) := by simpa using hat
  obtain ⟨d, rest, hd, hdid⟩ : ∃ d rest, ((arB (prT f) p ++ r.flatMap fun q => 46 :: prPart (prT f) q) ++ [c]) = d :: rest ∧ (lettB d = false ∧ digB d = false) := by
    by_cases h0 : p.2.length = 0
    · have e0 : arB (prT f) p = [] := by unfold arB; rw [if_pos h0]
      rw [e0]
      cases r with
      | nil => exact ⟨c, [], rfl, hc.id⟩
      | cons z r => exact ⟨46, _, rfl, by decide⟩
    · have e0 : arB (prT f) p = 60 :: (prTys (prT f) p.2 ++ [62]) := by unfold arB prTys; rw [if_neg h0]; simp
      rw [e0]
      exact ⟨60, _, rfl, by decide⟩
  rw [hd] at hC
  have hC1 : At s i (p.1.data.toList ++ [d]) := (At.app (show At s _ ((p.1.data.toList ++ [d]) ++ rest) by simpa using hC)).1
  obtain ⟨i1, i2, i3⟩ := ident_at hi hq hdid hC1
  have hC2 := (At.app hC).2
  rw [← hd, strL'] at hC2
  have hle := hC1.le hi
  rw [List.length_append, strL', List.length_singleton] at hle
  refine ⟨i2, i3, ?_⟩
  rw [i1, pParts_ok H r p (s.size + 1) [] _ c hl hc (by omega) hC2 (by omega)]
  simp [strL']
  omega
theorem word_ne {x : ByteArray} (h : wordS x = false) : x ≠ refS ∧ x ≠ listS ∧ x ≠ funcS := by
  refine ⟨?_, ?_, ?_⟩ <;> rintro rfl <;> exact absurd h (by decide)
theorem textE_ref : textE refS = 0 ∧ textE listS = 0 ∧ textE funcS = 0 := by decide
theorem parse_ok (s : ByteArray) : ∀ f, PrOk s f
  | 0 => fun t i c h => h.elim
  | f + 1 => fun t i c hg ht hw hc hi hat => by
    have H := parse_ok s f
    obtain ⟨⟨g1, g2⟩, g3, g4, g5, g6, g7⟩ := hg
    obtain ⟨t1, t2⟩ := ht
    obtain ⟨K, nm, of⟩ := t
    simp only [Ty.kind, Ty.name, Ty.of] at g1 g2 g3 g4 g5 g6 g7 t1 t2
    have hw2 : (decide (K = 1) && headW nm) = false ∧ (nm.any fun p => p.2.any (wd f)) = false ∧ of.any (wd f) = false := by
      unfold wd at hw
      simp only [Ty.kind, Ty.name, Ty.of, Bool.or_eq_false_iff] at hw
      exact ⟨hw.1.1, hw.1.2, hw.2⟩
    obtain ⟨w1, w2, w3⟩ := hw2
    rw [List.any_eq_false] at w2 w3
    have w3 : ∀ x ∈ of, wd f x = false := fun x hx => by simpa using w3 x hx
    have w2 : ∀ p ∈ nm, ∀ x ∈ p.2, wd f x = false := fun p hp x hx => by
      have := w2 p hp
      simp only [List.any_eq_true, not_exists, not_and] at this
      simpa using this x hx
    rcases (show K = 1 ∨ K = 2 ∨ K = 3 ∨ K = 4 by omega) with rfl | rfl | rfl | rfl
    · obtain ⟨rfl, g31, g32⟩ := g3 rfl
      cases nm with
      | nil => simp at g31
      | cons p r =>
        have e0 : prT (f + 1) (Ty.mk 1 (p :: r) []) = prName (prT f) (p :: r) := rfl
        rw [e0] at hat ⊢
        obtain ⟨a1, a2, a3⟩ := name_ok H (fun q hq => ⟨(t1 q hq).1, fun x hx => ⟨(g6 q hq).2.2 x hx, (t1 q hq).2 x hx, w2 q hq x hx⟩⟩) hc hi hat
        have hwp : wordS p.1 = false := by simpa [headW] using w1
        obtain ⟨n1, n2, n3⟩ := word_ne hwp
        rw [pOne, if_neg a1, a2, if_neg n1, if_neg n2, if_neg n3, a3]
        rfl
    · obtain ⟨rfl, g41, g42⟩ := g4 (by decide)
      obtain ⟨x, rfl⟩ := one_of (g5 (by decide))
      have e0 : prT (f + 1) (Ty.mk 2 [] [x]) = refB ++ [32] ++ prT f x := rfl
      rw [e0] at hat ⊢
      have hat0 : At s i ((refS.data.toList ++ [32]) ++ (prT f x ++ [c])) := by simpa [refS, refB] using hat
      obtain ⟨k1, k2⟩ := At.app hat0
      obtain ⟨i1, i2, i3⟩ := ident_at hi textE_ref.1 (by decide) k1
      have hz : (refS.data.toList ++ [32]).length = 4 := rfl
      rw [hz] at k2
      have hle := k1.le hi
      rw [hz] at hle
      have hone := H x (i + 4) c (g7 x (by simp)) (t2 x (by simp)) (w3 x (by simp)) hc hle k2
      have k3 := (At.app k1).2
      rw [show refS.data.toList.length = 3 from rfl] at k3
      have hsz : idL s i = 3 := i1
      rw [pOne, if_neg i2, i3, if_pos rfl, hsz]
      unfold pRef
      rw [needB_at _ _ k3]
      simp only [Res.bind]
      rw [show i + 3 + ([32] : List UInt8).length = i + 4 from rfl, hone]
      simp only [refB, List.length_append, List.length_cons, List.length_nil]
      congr 1
      omega
    · obtain ⟨rfl, g41, g42⟩ := g4 (by decide)
      obtain ⟨x, rfl⟩ := one_of (g5 (by decide))
      have e0 : prT (f + 1) (Ty.mk 3 [] [x]) = listB ++ [32] ++ prT f x := rfl
      rw [e0] at hat ⊢
      have hat0 : At s i ((listS.data.toList ++ [32]) ++ (prT f x ++ [c])) := by simpa [listS, listB] using hat
      obtain ⟨k1, k2⟩ := At.app hat0
      obtain ⟨i1, i2, i3⟩ := ident_at hi textE_ref.2.1 (by decide) k1
      have hz : (listS.data.toList ++ [32]).length = 5 := rfl
      rw [hz] at k2
      have hle := k1.le hi
      rw [hz] at hle
      have hone := H x (i + 5) c (g7 x (by simp)) (t2 x (by simp)) (w3 x (by simp)) hc hle k2
      have k3 := (At.app k1).2
      rw [show listS.data.toList.length = 4 from rfl] at k3
      have hsz : idL s i = 4 := i1
      rw [pOne, if_neg i2, i3, if_neg (by decide), if_pos rfl, hsz]
      unfold pRef
      rw [needB_at _ _ k3]
      simp only [Res.bind]
      rw [show i + 4 + ([32] : List UInt8).length = i + 5 from rfl, hone]
      simp only [listB, List.length_append, List.length_cons, List.length_nil]
      congr 1
      omega
    · obtain ⟨rfl, g41, g42⟩ := g4 (by decide)
      have hne : of ≠ [] := fun e => by rw [e] at g41; simp at g41
      have hsp := List.dropLast_concat_getLast hne
      obtain ⟨L, hL⟩ : ∃ L, of.dropLast = L := ⟨_, rfl⟩
      obtain ⟨x, hx⟩ : ∃ x, of.getLast hne = x := ⟨_, rfl⟩
      rw [hL, hx] at hsp
      have e0 : prT (f + 1) (Ty.mk 4 [] of) = funcB ++ [40] ++ prTys (prT f) L ++ [41, 32] ++ prT f x := by
        show funcB ++ [40] ++ prTys (prT f) of.dropLast ++ [41, 32] ++ lastT (prT f) of = _
        unfold lastT
        rw [hL, List.getLast?_eq_some_getLast hne, hx]
      rw [e0] at hat ⊢
      have hat0 : At s i ((funcS.data.toList ++ [40]) ++ (prTys (prT f) L ++ ([41, 32] ++ (prT f x ++ [c])))) := by simpa [funcS, funcB] using hat
      obtain ⟨k1, k2⟩ := At.app hat0
      obtain ⟨i1, i2, i3⟩ := ident_at hi textE_ref.2.2 (by decide) k1
      have hz : (funcS.data.toList ++ [40]).length = 5 := rfl
      rw [hz] at k2
      have hle := k1.le hi
      rw [hz] at hle
      have k0 := (At.app k1).2
      rw [show funcS.data.toList.length = 4 from rfl] at k0
      have hsz : idL s i = 4 := i1
      obtain ⟨m1, m2⟩ := At.app k2
      obtain ⟨m3, m4⟩ := At.app m2
      have hle2 := m1.le (by omega)
      have hle3 := m3.le hle2
      have hlT : ∀ z ∈ L, Good f z ∧ Txt f z ∧ wd f z = false := fun z hz => by
        have hzo : z ∈ of := by rw [← hsp]; simp [hz]
        exact ⟨g7 z hzo, t2 z hzo, w3 z hzo⟩
      have hxo : x ∈ of := by rw [← hsp]; simp
      have ht : pTakes s (pOne s f) (i + 4 + ([40] : List UInt8).length) = .ok (i + 4 + ([40] : List UInt8).length + (prTys (prT f) L).length) L := by
        unfold pTakes
        rw [show i + 4 + ([40] : List UInt8).length = i + 5 from rfl]
        cases hLL : L with
        | nil =>
          rw [hLL] at m2
          rw [if_pos (At.cons (show At s (i + 5) (41 :: [32] ++ (prT f x ++ [c])) from m2)).1]
          rfl
        | cons z r =>
          have hz := hlT z (by rw [hLL]; simp)
          have hh : s.data.toList[i + 5]? ≠ some 41 := by
            have hpz : ∃ b q, prT f z = b :: q ∧ (lettB b || digB b) = true := pr_head hz.1 hz.2.1
            obtain ⟨b, q, eb, hb⟩ := hpz
            rw [hLL, show prTys (prT f) (z :: r) = prT f z ++ (r.map (prT f)).flatMap (fun y => [44, 32] ++ y) from rfl, eb] at m1
            rw [(At.cons m1).1]
            intro e
            rw [Option.some.inj e] at hb
            revert hb
            decide
          rw [if_neg hh, ← hLL]
          have m5 : At s (i + 5) (prTys (prT f) L ++ [41]) := (At.app (show At s (i + 5) ((prTys (prT f) L ++ [41]) ++ ([32] ++ (prT f x ++ [c]))) by simpa using k2)).1
          rw [pTys_ok H L (s.size + 1) [] (i + 5) 41 (by rw [hLL]; simp) hlT (.inr (.inr (.inl rfl))) (by decide) (by omega) m5 (by omega)]
          rfl
      have hone := H x (i + 5 + (prTys (prT f) L).length + 2) c (g7 x hxo) (t2 x hxo) (w3 x hxo) hc hle3 m4
      rw [pOne, if_neg i2, i3, if_neg (by decide), if_neg (by decide), if_pos rfl, hsz]
      unfold pFunc
      rw [needB_at _ _ k0]
      simp only [Res.bind]
      rw [ht]
      simp only
      rw [show i + 4 + ([40] : List UInt8).length + (prTys (prT f) L).length = i + 5 + (prTys (prT f) L).length from rfl, needB_at _ _ m3]
      simp only
      rw [show i + 5 + (prTys (prT f) L).length + ([41, 32] : List UInt8).length = i + 5 + (prTys (prT f) L).length + 2 from rfl, hone]
      simp only
      rw [hsp]
      simp [funcB]
      omega
/-- The symbol. -/
theorem pSym_pr {y : Sym} {s : ByteArray} (h : (symE y).1 = 0) (hw1 : wdParts 12 y.name = false) (hw2 : wdTys 12 y.takes = false) (hs : s.data.toList = prSym y) : pSym s = .ok s.size y := by
  obtain ⟨g1, g2, g3, g4, g5, _⟩ := sym_good h
  obtain ⟨t1, t2⟩ := sym_txt h
  have hat : At s 0 (prSym y) := ⟨[], by rw [List.append_nil, List.drop_zero, hs]⟩
  have hsz : s.size = (prSym y).length := by rw [← hs, strL']
  have w2 : ∀ x ∈ y.takes, wd 12 x = false := fun x hx => by
    unfold wdTys at hw2
    rw [List.any_eq_false] at hw2
    simpa using hw2 x hx
  have w1 : ∀ p ∈ y.name, ∀ x ∈ p.2, wd 12 x = false := fun p hp x hx => by
    unfold wdParts wdTys at hw1
    rw [List.any_eq_false] at hw1
    have := hw1 p hp
    simp only [List.any_eq_true, not_exists, not_and] at this
    simpa using this x hx
  obtain ⟨nm, tk⟩ := y
  simp only at g1 g2 g3 g4 g5 t1 t2 w1 w2
  unfold prSym at hat hsz
  simp only at hat hsz
  cases nm with
  | nil => simp at g2
  | cons p r =>
    have hat0 : At s 0 ((prName (prT 12) (p :: r) ++ [40]) ++ (prTys (prT 12) tk ++ [41])) := by simpa using hat
    obtain ⟨k1, k2⟩ := At.app hat0
    obtain ⟨a1, a2, a3⟩ := name_ok (parse_ok s 12) (c := 40) (fun q hq => ⟨(t1 q hq).1, fun x hx => ⟨(g1 q hq).2.2 x hx, (t1 q hq).2 x hx, w1 q hq x hx⟩⟩) (.inr (.inr (.inr rfl))) (Nat.zero_le _) k1
    obtain ⟨N, hN⟩ : ∃ N, (prName (prT 12) (p :: r)).length = N := ⟨_, rfl⟩
    have hk40 := (At.app k1).2
    rw [hN] at hk40 a3
    rw [List.length_append, hN, show ([40] : List UInt8).length = 1 from rfl] at k2
    have hle := k1.le (Nat.zero_le _)
    rw [List.length_append, hN, show ([40] : List UInt8).length = 1 from rfl] at hle
    simp only [List.length_append, hN, List.length_cons, List.length_nil] at hsz
    have ht : pTakes s (pOne s 12) (0 + N + ([40] : List UInt8).length) = .ok (0 + N + ([40] : List UInt8).length + (prTys (prT 12) tk).length) tk := by
      unfold pTakes
      rw [show 0 + N + ([40] : List UInt8).length = 0 + (N + 1) from rfl]
      cases hLL : tk with
      | nil =>
        rw [hLL] at k2
        rw [if_pos (At.cons (show At s (0 + (N + 1)) [41] from k2)).1]
        rfl
      | cons z r' =>
        have hz1 := g4 z (by rw [hLL]; simp)
        have hz2 := t2 z (by rw [hLL]; simp)
        have hh : s.data.toList[0 + (N + 1)]? ≠ some 41 := by
          obtain ⟨b, q, eb, hb⟩ := pr_head hz1 hz2
          have m1 := (At.app k2).1
          rw [hLL, show prTys (prT 12) (z :: r') = prT 12 z ++ (r'.map (prT 12)).flatMap (fun y => [44, 32] ++ y) from rfl, eb] at m1
          rw [(At.cons m1).1]
          intro e
          rw [Option.some.inj e] at hb
          revert hb
          decide
        rw [if_neg hh, ← hLL]
        rw [pTys_ok (parse_ok s 12) tk (s.size + 1) [] (0 + (N + 1)) 41 (by rw [hLL]; simp) (fun z hz => ⟨g4 z hz, t2 z hz, w2 z hz⟩) (.inr (.inr (.inl rfl))) (by decide) (by omega) k2 (by omega)]
        rfl
    have k41 := (At.app k2).2
    unfold pSym pName
    rw [if_neg a1, a2, a3]
    simp only [Res.bind]
    rw [needB_at _ _ hk40]
    simp only
    rw [ht]
    simp only
    rw [show 0 + N + ([40] : List UInt8).length + (prTys (prT 12) tk).length = 0 + (N + 1) + (prTys (prT 12) tk).length from rfl, needB_at _ _ k41]
    simp only
    rw [if_neg (by simp; omega)]
    congr 1
    simp
    omega
/- The other way round. -/
theorem needB_bk {s : ByteArray} : ∀ (t : List UInt8) (i j : Nat) (u : Unit), needB s t i = .ok j u → At s i t ∧ j = i + t.length
  | [], i, j, u, h => by cases h; exact ⟨At.nil _ _, rfl⟩
  | b :: t, i, j, u, h => by
    unfold needB at h
    split at h
    · rename_i hb
      obtain ⟨h1, h2⟩ := needB_bk t (i + 1) j u h
      exact ⟨At.mk_cons hb h1, by rw [List.length_cons]; omega⟩
    · cases h
theorem bind_okP {α β : Type} {r : Res α} {k : Nat → α → Res β} {j : Nat} {y : β} (h : r.bind k = .ok j y) : ∃ i x, r = .ok i x ∧ k i x = .ok j y := by
  cases r with
  | bad e => cases h
  | ok i x => exact ⟨i, x, rfl, h⟩
theorem At.oneP {s : ByteArray} {i : Nat} {c : UInt8} (h : s.data.toList[i]? = some c) : At s i [c] := At.mk_cons h (At.nil _ _)
/-- What was parsed as a type is what is printed of it. -/
def PrBk (s : ByteArray) (f : Nat) : Prop := ∀ (i j : Nat) (t : Ty), i ≤ s.size → pOne s f i = .ok j t → At s i (prT f t) ∧ j = i + (prT f t).length ∧ j ≤ s.size ∧ wd f t = false
theorem pTys_bk {s : ByteArray} {f : Nat} (H : PrBk s f) : ∀ (g : Nat) (acc : List Ty) (i j : Nat) (L : List Ty), i ≤ s.size → pTys s (pOne s f) g acc i = .ok j L →
    ∃ l, L = acc ++ l ∧ l ≠ [] ∧ At s i (prTys (prT f) l) ∧ j = i + (prTys (prT f) l).length ∧ j ≤ s.size ∧ ∀ x ∈ l, wd f x = false
  | 0, _, _, _, _, _, h => by cases h
  | g + 1, acc, i, j, L, hi, h => by
    rw [pTys] at h
    obtain ⟨k, t, e1, h⟩ := bind_okP h
    obtain ⟨a1, a2, a3, a4⟩ := H i k t hi e1
    by_cases h44 : s.data.toList[k]? = some 44
    · rw [if_pos h44] at h
      obtain ⟨m, u, e2, h⟩ := bind_okP h
      have hlt := get_lt h44
      obtain ⟨b1, b2⟩ := needB_bk _ _ _ _ e2
      have hm := b1.le (by omega)
      obtain ⟨l, c1, c2, c3, c4, c5, c6⟩ := pTys_bk H g _ m j L (by rw [b2]; exact hm) h
      cases l with
      | nil => exact absurd rfl c2
      | cons y r =>
        have e0 : prTys (prT f) (t :: y :: r) = prT f t ++ ([44, 32] ++ prTys (prT f) (y :: r)) := sepL_two _ _ _ _
        refine ⟨t :: y :: r, by rw [c1]; simp, by simp, ?_, ?_, c5, ?_⟩
        · rw [e0]
          refine At.mk_app a1 ?_
          rw [← a2]
          exact At.mk_cons h44 (At.mk_app b1 (by rw [b2] at c3; exact c3))
        · rw [e0, List.length_append, List.length_append]
          rw [show ([32] : List UInt8).length = 1 from rfl] at b2
          rw [show ([44, 32] : List UInt8).length = 2 from rfl]
          omega
        · intro x hx
          rcases List.mem_cons.1 hx with rfl | hx
          · exact a4
          · exact c6 x hx
    · rw [if_neg h44] at h
      injection h with h1 h2
      have e0 : prTys (prT f) [t] = prT f t := by simp [prTys, sepL]
      refine ⟨[t], h2.symm, by simp, ?_, ?_, by omega, ?_⟩
      · rw [e0]; exact a1
      · rw [e0]; omega
      · intro x hx
        obtain rfl := List.mem_singleton.1 hx
        exact a4
theorem pArgs_bk {s : ByteArray} {f : Nat} (H : PrBk s f) {x : ByteArray} {i j : Nat} {l : List Ty} (hi : i ≤ s.size) (h : pArgs s (pOne s f) i = .ok j l) : At s i (arB (prT f) (x, l)) ∧ j = i + (arB (prT f) (x, l)).length ∧ j ≤ s.size ∧ ∀ x ∈ l, wd f x = false := by
  unfold pArgs at h
  by_cases h60 : s.data.toList[i]? = some 60
  · rw [if_pos h60] at h
    have hlt := get_lt h60
    obtain ⟨k, l1, e1, h⟩ := bind_okP h
    obtain ⟨m, u, e2, h⟩ := bind_okP h
    injection h with h1 h2
    subst h1 h2
    obtain ⟨l2, c1, c2, c3, c4, c5, c6⟩ := pTys_bk H _ _ _ _ _ (by omega) e1
    rw [List.nil_append] at c1
    subst c1
    obtain ⟨b1, b2⟩ := needB_bk _ _ _ _ e2
    have hm := b1.le c5
    have e0 : arB (prT f) (x, l1) = 60 :: (prTys (prT f) l1 ++ [62]) := by unfold arB prTys; rw [if_neg (fun e => c2 (List.length_eq_zero_iff.1 e))]; simp
    rw [e0]
    refine ⟨At.mk_cons h60 (At.mk_app c3 (by rw [c4] at b1; exact b1)), ?_, by rw [b2]; exact hm, c6⟩
    rw [b2, c4]
    simp
    omega
  · rw [if_neg h60] at h
    injection h with h1 h2
    subst h1 h2
    have e0 : arB (prT f) (x, []) = [] := rfl
    rw [e0]
    exact ⟨At.nil _ _, rfl, hi, by simp⟩
theorem ident_bk {s : ByteArray} {i : Nat} (hi : i ≤ s.size) : At s i (s.extract i (i + idL s i)).data.toList ∧ (s.extract i (i + idL s i)).size = idL s i := by
  have hle := idL_le s i hi
  rw [ext_toL _ _ _ hle]
  exact ⟨List.take_prefix _ _, by rw [ByteArray.size_extract]; omega⟩
theorem pParts_bk {s : ByteArray} {f : Nat} (H : PrBk s f) : ∀ (g : Nat) (acc : List Part) (x : ByteArray) (i j : Nat) (L : List Part), i ≤ s.size → pParts s (pOne s f) g acc x i = .ok j L →
    ∃ (l : List Ty) (r : List Part), L = acc ++ (x, l) :: r ∧ At s i (arB (prT f) (x, l) ++ r.flatMap fun q => 46 :: prPart (prT f) q) ∧ j = i + (arB (prT f) (x, l) ++ r.flatMap fun q => 46 :: prPart (prT f) q).length ∧ j ≤ s.size ∧ (∀ y ∈ l, wd f y = false) ∧ ∀ q ∈ r, ∀ y ∈ q.2, wd f y = false
  | 0, _, _, _, _, _, _, h => by cases h
  | g + 1, acc, x, i, j, L, hi, h => by
    rw [pParts] at h
    obtain ⟨k, l, e1, h⟩ := bind_okP h
    obtain ⟨a1, a2, a3, a4⟩ := pArgs_bk H (x := x) hi e1
    by_cases h46 : s.data.toList[k]? = some 46
    · rw [if_pos h46] at h
      have hlt := get_lt h46
      by_cases h0 : idL s (k + 1) = 0
      · rw [if_pos h0] at h; cases h
      · rw [if_neg h0] at h
        obtain ⟨b1, b2⟩ := ident_bk (s := s) (i := k + 1) (by omega)
        have hle := idL_le s (k + 1) (by omega)
        obtain ⟨z, hz⟩ : ∃ z, s.extract (k + 1) (k + 1 + idL s (k + 1)) = z := ⟨_, rfl⟩
        rw [hz] at h b1 b2
        obtain ⟨l2, r, c1, c2, c3, c4, c5, c6⟩ := pParts_bk H g _ z _ j L hle h
        have e0 : prPart (prT f) (z, l2) = z.data.toList ++ arB (prT f) (z, l2) := rfl
        refine ⟨l, (z, l2) :: r, by rw [c1]; simp, ?_, ?_, c4, a4, ?_⟩
        · refine At.mk_app a1 ?_
          rw [← a2, List.flatMap_cons, e0, List.cons_append, List.append_assoc]
          refine At.mk_cons h46 (At.mk_app b1 ?_)
          rw [strL', b2]
          exact c2
        · rw [List.length_append, List.flatMap_cons, e0]
          simp only [List.length_append, List.length_cons, strL'] at c3 ⊢
          omega
        · intro q hq
          rcases List.mem_cons.1 hq with rfl | hq
          · exact c5
          · exact c6 q hq
    · rw [if_neg h46] at h
      injection h with h1 h2
      subst h1
      refine ⟨l, [], h2.symm, ?_, ?_, a3, a4, by simp⟩
      · rw [List.flatMap_nil, List.append_nil]; exact a1
      · rw [List.flatMap_nil, List.append_nil]; exact a2
theorem name_bk {s : ByteArray} {f : Nat} (H : PrBk s f) {i j : Nat} {L : List Part} (hi : i ≤ s.size) (h : pParts s (pOne s f) (s.size + 1) [] (s.extract i (i + idL s i)) (i + idL s i) = .ok j L) :
    ∃ l r, L = (s.extract i (i + idL s i), l) :: r ∧ At s i (prName (prT f) L) ∧ j = i + (prName (prT f) L).length ∧ j ≤ s.size ∧ ∀ q ∈ L, ∀ y ∈ q.2, wd f y = false := by
  obtain ⟨b1, b2⟩ := ident_bk hi
  obtain ⟨z, hz⟩ : ∃ z, s.extract i (i + idL s i) = z := ⟨_, rfl⟩
  rw [hz] at h b1 b2 ⊢
  obtain ⟨l, r, c1, c2, c3, c4, c5, c6⟩ := pParts_bk H _ _ z _ j L (idL_le s i hi) h
  rw [List.nil_append] at c1
  refine ⟨l, r, c1, ?_, ?_, c4, ?_⟩
  · rw [c1, prName_cons]
    refine At.mk_app b1 ?_
    rw [strL', b2]
    exact c2
  · rw [c1, prName_cons, List.length_append, strL']
    have hzz : (z, l).1.size = idL s i := b2
    omega
  · rw [c1]
    intro q hq
    rcases List.mem_cons.1 hq with rfl | hq
    · exact c5
    · exact c6 q hq
theorem ne_word {x : ByteArray} (h1 : x ≠ refS) (h2 : x ≠ listS) (h3 : x ≠ funcS) : wordS x = false := by
  unfold wordS
  simp only [Bool.or_eq_false_iff, decide_eq_false_iff_not]
  refine ⟨⟨fun e => h1 ?_, fun e => h2 ?_⟩, fun e => h3 ?_⟩ <;> exact ByteArray.ext (Array.toList_inj.1 e)
theorem pback_ok (s : ByteArray) : ∀ f, PrBk s f
  | 0 => fun i j t hi h => by cases h
  | f + 1 => fun i j t hi h => by
    have H := pback_ok s f
    obtain ⟨b1, b2⟩ := ident_bk hi
    have hle := idL_le s i hi
    rw [pOne] at h
    by_cases h0 : idL s i = 0
    · rw [if_pos h0] at h; cases h
    rw [if_neg h0] at h
    by_cases h1 : s.extract i (i + idL s i) = refS
    · rw [if_pos h1] at h
      rw [h1] at b1 b2
      have hsz : idL s i = 3 := b2.symm
      rw [hsz] at h hle
      unfold pRef at h
      obtain ⟨k, u, e1, h⟩ := bind_okP h
      obtain ⟨m, x, e2, h⟩ := bind_okP h
      injection h with h4 h5
      subst h4 h5
      obtain ⟨c1, c2⟩ := needB_bk _ _ _ _ e1
      have hk := c1.le hle
      rw [show ([32] : List UInt8).length = 1 from rfl] at c2 hk
      obtain ⟨d1, d2, d3, d4⟩ := H k m x (by omega) e2
      have e0 : prT (f + 1) (Ty.mk 2 [] [x]) = refS.data.toList ++ ([32] ++ prT f x) := by
        show refB ++ [32] ++ prT f x = _
        simp [refB, refS]
      rw [e0]
      refine ⟨At.mk_app b1 (At.mk_app ?_ ?_), ?_, d3, ?_⟩
      · exact c1
      · rw [show i + refS.data.toList.length + ([32] : List UInt8).length = k from by rw [c2]; rfl]; exact d1
      · simp only [List.length_append, show refS.data.toList.length = 3 from rfl, List.length_cons, List.length_nil]
        omega
      · unfold wd
        simp [Ty.kind, Ty.name, Ty.of, headW, d4]
    rw [if_neg h1] at h
    by_cases h2 : s.extract i (i + idL s i) = listS
    · rw [if_pos h2] at h
      rw [h2] at b1 b2
      have hsz : idL s i = 4 := b2.symm
      rw [hsz] at h hle
      unfold pRef at h
      obtain ⟨k, u, e1, h⟩ := bind_okP h
      obtain ⟨m, x, e2, h⟩ := bind_okP h
      injection h with h4 h5
      subst h4 h5
      obtain ⟨c1, c2⟩ := needB_bk _ _ _ _ e1
      have hk := c1.le hle
      rw [show ([32] : List UInt8).length = 1 from rfl] at c2 hk
      obtain ⟨d1, d2, d3, d4⟩ := H k m x (by omega) e2
      have e0 : prT (f + 1) (Ty.mk 3 [] [x]) = listS.data.toList ++ ([32] ++ prT f x) := by
        show listB ++ [32] ++ prT f x = _
        simp [listB, listS]
      rw [e0]
      refine ⟨At.mk_app b1 (At.mk_app ?_ ?_), ?_, d3, ?_⟩
      · exact c1
      · rw [show i + listS.data.toList.length + ([32] : List UInt8).length = k from by rw [c2]; rfl]; exact d1
      · simp only [List.length_append, show listS.data.toList.length = 4 from rfl, List.length_cons, List.length_nil]
        omega
      · unfold wd
        simp [Ty.kind, Ty.name, Ty.of, headW, d4]
    rw [if_neg h2] at h
    by_cases h3 : s.extract i (i + idL s i) = funcS
    · rw [if_pos h3] at h
      rw [h3] at b1 b2
      have hsz : idL s i = 4 := b2.symm
      rw [hsz] at h hle
      unfold pFunc at h
      obtain ⟨k, u, e1, h⟩ := bind_okP h
      obtain ⟨m, l, e2, h⟩ := bind_okP h
      obtain ⟨q, u2, e3, h⟩ := bind_okP h
      obtain ⟨j2, x, e4, h⟩ := bind_okP h
      injection h with h4 h5
      subst h4 h5
      obtain ⟨c1, c2⟩ := needB_bk _ _ _ _ e1
      have hk := c1.le hle
      rw [show ([40] : List UInt8).length = 1 from rfl] at c2 hk
      have ht : At s k (prTys (prT f) l) ∧ m = k + (prTys (prT f) l).length ∧ m ≤ s.size ∧ ∀ x ∈ l, wd f x = false := by
        unfold pTakes at e2
        split at e2
        · injection e2 with h6 h7
          subst h6 h7
          exact ⟨At.nil _ _, rfl, by omega, by simp⟩
        · obtain ⟨l2, d1, d2, d3, d4, d5, d6⟩ := pTys_bk H _ _ _ _ _ (by omega) e2
          rw [List.nil_append] at d1
          subst d1
          exact ⟨d3, d4, d5, d6⟩
      obtain ⟨d1, d2, d3, d4⟩ := ht
      obtain ⟨f1, f2⟩ := needB_bk _ _ _ _ e3
      have hq := f1.le d3
      rw [show ([41, 32] : List UInt8).length = 2 from rfl] at f2 hq
      obtain ⟨g1, g2, g3, g4⟩ := H q j2 x (by omega) e4
      have e0 : prT (f + 1) (Ty.mk 4 [] (l ++ [x])) = funcS.data.toList ++ ([40] ++ (prTys (prT f) l ++ ([41, 32] ++ prT f x))) := by
        show funcB ++ [40] ++ prTys (prT f) (l ++ [x]).dropLast ++ [41, 32] ++ lastT (prT f) (l ++ [x]) = _
        unfold lastT
        rw [List.dropLast_concat, List.getLast?_concat]
        simp [funcB, funcS]
      rw [e0]
      refine ⟨At.mk_app b1 (At.mk_app ?_ (At.mk_app ?_ (At.mk_app ?_ ?_))), ?_, g3, ?_⟩
      · exact c1
      · rw [show i + funcS.data.toList.length + ([40] : List UInt8).length = k from by rw [c2]; rfl]; exact d1
      · rw [show i + funcS.data.toList.length + ([40] : List UInt8).length = k from by rw [c2]; rfl, ← d2]; exact f1
      · rw [show i + funcS.data.toList.length + ([40] : List UInt8).length = k from by rw [c2]; rfl, ← d2, show m + ([41, 32] : List UInt8).length = q from by rw [f2]; rfl]; exact g1
      · simp only [List.length_append, show funcS.data.toList.length = 4 from rfl, List.length_cons, List.length_nil]
        omega
      · unfold wd
        simp only [Ty.kind, Ty.name, Ty.of, headW, List.any_nil, List.any_append, List.any_cons, g4, Bool.or_false, Bool.and_false, Bool.false_or]
        rw [List.any_eq_false]
        intro y hy
        rw [d4 y hy]; simp
    rw [if_neg h3] at h
    obtain ⟨k, L, e1, h⟩ := bind_okP h
    injection h with h4 h5
    subst h4 h5
    obtain ⟨l, r, c1, c2, c3, c4, c5⟩ := name_bk H hi e1
    have e0 : prT (f + 1) (Ty.mk 1 L []) = prName (prT f) L := rfl
    rw [e0]
    refine ⟨c2, c3, c4, ?_⟩
    unfold wd
    simp only [Ty.kind, Ty.name, Ty.of, List.any_nil, Bool.or_false]
    rw [Bool.or_eq_false_iff]
    refine ⟨?_, ?_⟩
    · rw [c1]
      simp only [headW, ne_word h1 h2 h3, Bool.and_false]
    · rw [List.any_eq_false]
      intro q hq
      simp only [List.any_eq_true, not_exists, not_and]
      intro y hy
      rw [c5 q hq y hy]; simp
theorem pSym_bk {s : ByteArray} {j : Nat} {y : Sym} (h : pSym s = .ok j y) : s.data.toList = prSym y ∧ wdParts 12 y.name = false ∧ wdTys 12 y.takes = false := by
  have H := pback_ok s 12
  unfold pSym at h
  obtain ⟨i, nm, e1, h⟩ := bind_okP h
  obtain ⟨k, u, e2, h⟩ := bind_okP h
  obtain ⟨m, tk, e3, h⟩ := bind_okP h
  obtain ⟨q, u2, e4, h⟩ := bind_okP h
  split at h
  · cases h
  rename_i hq
  injection h with h1 h2
  subst h1 h2
  unfold pName at e1
  split at e1
  · cases e1
  obtain ⟨l, r, c1, c2, c3, c4, c5⟩ := name_bk H (Nat.zero_le _) e1
  obtain ⟨d1, d2⟩ := needB_bk _ _ _ _ e2
  have hk := d1.le c4
  rw [show ([40] : List UInt8).length = 1 from rfl] at d2 hk
  have ht : At s k (prTys (prT 12) tk) ∧ m = k + (prTys (prT 12) tk).length ∧ m ≤ s.size ∧ ∀ x ∈ tk, wd 12 x = false := by
    unfold pTakes at e3
    split at e3
    · injection e3 with h6 h7
      subst h6 h7
      exact ⟨At.nil _ _, rfl, by omega, by simp⟩
    · obtain ⟨l2, f1, f2, f3, f4, f5, f6⟩ := pTys_bk H _ _ _ _ _ (by omega) e3
      rw [List.nil_append] at f1
      subst f1
      exact ⟨f3, f4, f5, f6⟩
  obtain ⟨f1, f2, f3, f4⟩ := ht
  obtain ⟨g1, g2⟩ := needB_bk _ _ _ _ e4
  have hm := g1.le f3
  rw [show ([41] : List UInt8).length = 1 from rfl] at g2 hm
  refine ⟨?_, ?_, ?_⟩
  · unfold prSym
    simp only
    have hat : At s 0 (prName (prT 12) nm ++ ([40] ++ (prTys (prT 12) tk ++ [41]))) := by
      refine At.mk_app c2 (At.mk_app ?_ (At.mk_app ?_ ?_))
      · rw [← c3]; exact d1
      · rw [← c3, show i + ([40] : List UInt8).length = k from d2.symm]; exact f1
      · rw [← c3, show i + ([40] : List UInt8).length = k from d2.symm, ← f2]; exact g1
    have := At.all hat (by simp; omega)
    rw [this]
    simp
  · unfold wdParts wdTys
    rw [List.any_eq_false]
    intro p hp
    simp only [List.any_eq_true, not_exists, not_and]
    intro y hy
    rw [c5 p hp y hy]; simp
  · unfold wdTys
    rw [List.any_eq_false]
    intro y hy
    rw [f4 y hy]; simp
end Go.Proofs.YtocpmbpckbjepaaDoor
