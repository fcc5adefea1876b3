/- The program's watch, in plain Lean and in memory (no reference in sight): what is kept, Pl, KeepT, PM; Count, Tick and NewWatch over PM. -/
import Derived.Test.YtkkhjlomicokgaaGreatDoorAlTkB
import Derived.Test.YtkkhjlomicokgaaGreatDoorAlNwO
namespace Go.Proofs.YtkkhjlomicokgaaGreatDoor.al
open Go.RowKit
set_option linter.unusedVariables false
set_option linter.unusedSimpArgs false
set_option linter.unusedSectionVars false
/-- Whether a count is kept. -/
def keepB (n : Nat) (t g : Int) (k : Bool) (c : Ct) : Bool := k && (decide (0 < n) && decide (t - 2 * g < c.at_))
theorem lng_le (l : List Rl) (h : ∀ x ∈ l, 1 ≤ x.window ∧ x.window ≤ 604800) : 0 ≤ lng l ∧ lng l ≤ 604800 := by
  have key : ∀ (l : List Rl) (a : Int), 0 ≤ a → a ≤ 604800 → (∀ x ∈ l, 1 ≤ x.window ∧ x.window ≤ 604800) → 0 ≤ l.foldl (fun a r => max a r.window) a ∧ l.foldl (fun a r => max a r.window) a ≤ 604800 := by
    intro l
    induction l with
    | nil => intro a h0 h1 _; exact ⟨h0, h1⟩
    | cons x l ih =>
      intro a h0 h1 hx
      have := hx x (by simp)
      rw [List.foldl_cons]
      exact ih (max a x.window) (by omega) (by omega) (fun y hy => hx y (by simp [hy]))
  exact key l 0 (by omega) (by omega) h
theorem rl_ok {l : List Rl} (h : rlErr l = 0) : l.length ≤ 50 ∧ ∀ x ∈ l, 1 ≤ x.ask ∧ x.ask ≤ 4 ∧ 1 ≤ x.window ∧ x.window ≤ 604800 := by
  unfold rlErr at h
  split at h
  · cases h
  refine ⟨by omega, fun x hx => ?_⟩
  obtain ⟨i, hi, rfl⟩ := List.mem_iff_getElem.1 hx
  have h2 := firstErr_all h i hi
  unfold rlErrAt at h2
  rw [List.getElem?_eq_getElem hi] at h2
  simp only at h2
  split at h2
  · split at h2
    · cases h2
    · unfold ruleErr at h2
      split at h2
      · split at h2
        · cases h2
        · rename_i ha
          split at h2
          · cases h2
          · rename_i hr
            simp [outsideB] at ha
            simp [rangeB, outsideB] at hr
            omega
      · rename_i hk; exact absurd h2 hk
  · cases h2
/-- The counts that are kept. -/
def keptOf : List Ct → List Bool → List Ct
  | c :: cs, k :: ks => if k then c :: keptOf cs ks else keptOf cs ks
  | _, _ => []
theorem keptOf_snoc : ∀ (cs : List Ct) (ks : List Bool) (c : Ct), ks.length = cs.length → keptOf (cs ++ [c]) (ks ++ [true]) = keptOf cs ks ++ [c]
  | [], [], c, _ => by simp [keptOf]
  | [], _ :: _, c, h => by simp at h
  | _ :: _, [], c, h => by simp at h
  | a :: cs, k :: ks, c, h => by
    have ih := keptOf_snoc cs ks c (by simpa using h)
    cases k <;> simp [keptOf, ih]
theorem keptOf_mem : ∀ (cs : List Ct) (ks : List Bool) (c : Ct), c ∈ keptOf cs ks → c ∈ cs
  | [], _, c, h => by simp [keptOf] at h
  | _ :: _, [], c, h => by simp [keptOf] at h
  | a :: cs, k :: ks, c, h => by
    have ih := keptOf_mem cs ks c
    cases k <;> simp [keptOf] at h
    · exact List.mem_cons_of_mem _ (ih h)
    · rcases h with rfl | h
      · exact List.mem_cons_self ..
      · exact List.mem_cons_of_mem _ (ih h)
theorem keptOf_len : ∀ (cs : List Ct) (ks : List Bool), ks.length = cs.length → (keptOf cs ks).length = keptN ks
  | [], [], _ => by simp [keptOf, keptN]
  | [], _ :: _, h => by simp at h
  | _ :: _, [], h => by simp at h
  | a :: cs, k :: ks, h => by
    have ih := keptOf_len cs ks (by simpa using h)
    unfold keptN at ih ⊢
    cases k <;> simp [keptOf, ih]
/-- A sum does not see what is forgotten. -/
theorem sumC_kept (key : ByteArray) (a t : Int) : ∀ (cs : List Ct) (ks : List Bool), ks.length = cs.length → (∀ (i : Nat) (c : Ct), cs[i]? = some c → ks[i]? = some false → c.at_ ≤ a) → sumC key a t (keptOf cs ks) = sumC key a t cs
  | [], [], _, _ => by simp [keptOf]
  | [], _ :: _, h, _ => by simp at h
  | _ :: _, [], h, _ => by simp at h
  | c :: cs, k :: ks, h, hd => by
    have ih := sumC_kept key a t cs ks (by simpa using h) (fun i x hx hk => hd (i + 1) x (by simpa using hx) (by simpa using hk))
    have e : ∀ l : List Ct, sumC key a t (c :: l) = (if hitB key a t c then c.n else 0) + sumC key a t l := fun l => by simp [sumC]
    cases k
    · have h0 := hd 0 c rfl rfl
      have hh : hitB key a t c = false := by rw [hitB, decide_eq_false (by omega : ¬ a < c.at_)]; rfl
      rw [e, hh]
      simp only [keptOf, Bool.false_eq_true, if_false]
      rw [ih]; simp
    · simp only [keptOf, if_true]
      rw [e, e, ih]
theorem keptOf_filter (n : Nat) (t g : Int) (hn : 0 < n) : ∀ (cs : List Ct) (ks : List Bool), ks.length = cs.length → keptOf cs (List.zipWith (keepB n t g) ks cs) = (keptOf cs ks).filter fun c => !oldB t g c
  | [], [], _ => by simp [keptOf]
  | [], _ :: _, h => by simp at h
  | _ :: _, [], h => by simp at h
  | c :: cs, k :: ks, h => by
    have ih := keptOf_filter n t g hn cs ks (by simpa using h)
    cases k
    · simp [keptOf, keepB, ih]
    · by_cases hc : t - 2 * g < c.at_
      · have : ¬ c.at_ ≤ t - 2 * g := by omega
        simp [keptOf, keepB, ih, hn, hc, oldB, this]
      · have : c.at_ ≤ t - 2 * g := by omega
        simp [keptOf, keepB, ih, hn, hc, oldB, this]
theorem keptOf_none (t g : Int) : ∀ (cs : List Ct) (ks : List Bool), keptOf cs (List.zipWith (keepB 0 t g) ks cs) = []
  | [], _ => by simp [keptOf]
  | _ :: _, [] => by simp [keptOf]
  | c :: cs, k :: ks => by simp [keptOf, keepB, keptOf_none t g cs ks]
theorem lng_ge (l : List Rl) : ∀ x ∈ l, x.window ≤ lng l := by
  have key : ∀ (l : List Rl) (a : Int), a ≤ l.foldl (fun a r => max a r.window) a ∧ ∀ x ∈ l, x.window ≤ l.foldl (fun a r => max a r.window) a := by
    intro l
    induction l with
    | nil => intro a; exact ⟨Int.le_refl _, by simp⟩
    | cons y l ih =>
      intro a
      rw [List.foldl_cons]
      have h1 := ih (max a y.window)
      refine ⟨by omega, fun x hx => ?_⟩
      rcases List.mem_cons.1 hx with rfl | hx
      · omega
      · exact h1.2 x hx
  exact (key l 0).2
structure Pl (ws : List Wd) (cs cs2 : List Ct) (ks : List Bool) (wat g : Int) (q : Nat) : Prop where
  hg : lng (ws.map (·.r)) = g
  hl : ks.length = cs2.length
  hc : cs = keptOf cs2 ks
  hd : ∀ (i : Nat) (c : Ct), cs2[i]? = some c → ks[i]? = some false → c.at_ ≤ wat - 2 * g
  ha : ∀ c ∈ cs2, c.at_ ≤ wat ∧ 0 ≤ c.n ∧ c.n ≤ 1000000 ∧ c.key.size ≤ maxLen
  hq : cs2.length ≤ q
  hok : ∀ x ∈ ws, WdOk wat x
  w0 : 0 ≤ wat
section
variable {ws : List Wd} {cs cs2 : List Ct} {ks : List Bool} {wat g : Int} {q : Nat} {sl : List Sil}
theorem Pl.len (h : Pl ws cs cs2 ks wat g q) : cs.length = keptN ks := by rw [h.hc]; exact keptOf_len _ _ h.hl
theorem Pl.le (h : Pl ws cs cs2 ks wat g q) : cs.length ≤ q := by
  have h1 := keptN_le ks
  have := h.len; have := h.hl; have := h.hq; omega
theorem Pl.fit2 (h : Pl ws cs cs2 ks wat g q) (hq : q ≤ 1000) : CtFit cs2 := ⟨by have := h.hq; omega, fun c hc => (h.ha c hc).2⟩
theorem Pl.fit (h : Pl ws cs cs2 ks wat g q) (hq : q ≤ 1000) : CtFit cs := ⟨by have := h.le; omega, fun c hc => (h.ha c (keptOf_mem _ _ c (h.hc ▸ hc))).2⟩
theorem Pl.more (h : Pl ws cs cs2 ks wat g q) : Pl ws cs cs2 ks wat g (q + 1) := ⟨h.hg, h.hl, h.hc, h.hd, h.ha, by have := h.hq; omega, h.hok, h.w0⟩
theorem Pl.g0 (h : Pl ws cs cs2 ks wat g q) : 0 ≤ g ∧ g ≤ 604800 := by
  rw [← h.hg]
  refine lng_le _ fun x hx => ?_
  obtain ⟨y, hy, rfl⟩ := List.mem_map.1 hx
  exact ⟨(h.hok y hy).w0, (h.hok y hy).w1⟩
theorem Pl.count (h : Pl ws cs cs2 ks wat g q) {key : ByteArray} {t n : Int} (hk : key.size ≤ maxLen) (hE : cntErr key t n wat = 0) : Pl ws (cs ++ [⟨key, t, n⟩]) (cs2 ++ [⟨key, t, n⟩]) (ks ++ [true]) t g (q + 1) := by
  obtain ⟨_, hm, ho, hlt⟩ := cntErr_ok hE
  have hg0 := h.g0.1
  refine ⟨h.hg, by simp [h.hl], by rw [h.hc, keptOf_snoc _ _ _ h.hl], fun i c hc hkf => ?_, fun c hc => ?_, by have := h.hq; simp; omega, fun x hx => ?_, by have := h.w0; omega⟩
  · by_cases hi : i < cs2.length
    · rw [List.getElem?_append_left hi] at hc
      rw [List.getElem?_append_left (by rw [h.hl]; exact hi)] at hkf
      have := h.hd i c hc hkf; omega
    · by_cases hi2 : i = ks.length
      · subst hi2; simp at hkf
      · rw [List.getElem?_eq_none (by have := h.hl; simp; omega)] at hkf; cases hkf
  · rcases List.mem_append.1 hc with hc | hc
    · have := h.ha c hc; exact ⟨by omega, this.2⟩
    · simp at hc; subst hc
      unfold outsideB at ho; simp at ho
      exact ⟨Int.le_refl _, by show 0 ≤ n; omega, by show n ≤ 1000000; omega, hk⟩
  · have := h.hok x hx
    exact ⟨this.a0, this.a1, this.w0, this.w1, this.s0, this.s3, this.i0, by have := this.i1; omega⟩
theorem Pl.see (h : Pl ws cs cs2 ks wat g q) {t : Int} (ht : wat ≤ t) {x : Wd} (hx : x ∈ ws) : seeV cs x.r t = seeV cs2 x.r t := by
  have hw := (h.hok x hx).w0
  have hwg : x.r.window ≤ g := by rw [← h.hg]; exact lng_ge _ _ (List.mem_map_of_mem hx)
  have e1 : sumC x.r.key (t - x.r.window) t cs = sumC x.r.key (t - x.r.window) t cs2 := by rw [h.hc]; exact sumC_kept _ _ _ _ _ h.hl (fun i c hc hk => by have := h.hd i c hc hk; omega)
  have e2 : sumC x.r.key (t - 2 * x.r.window) (t - x.r.window) cs = sumC x.r.key (t - 2 * x.r.window) (t - x.r.window) cs2 := by rw [h.hc]; exact sumC_kept _ _ _ _ _ h.hl (fun i c hc hk => by have := h.hd i c hc hk; omega)
  unfold seeV
  rw [e1, e2]
theorem zip_mem {n : Nat} {t g : Int} {i : Nat} {c : Ct} (hc : cs2[i]? = some c) (hk : (List.zipWith (keepB n t g) ks cs2)[i]? = some false) : ks[i]? = some false ∨ n = 0 ∨ c.at_ ≤ t - 2 * g := by
  rw [List.getElem?_zipWith, hc] at hk
  cases hks : ks[i]? with
  | none => rw [hks] at hk; cases hk
  | some k =>
    rw [hks] at hk
    simp [keepB] at hk
    cases k
    · exact .inl rfl
    · right
      by_cases hn : n = 0
      · exact .inl hn
      · exact .inr (by have := hk rfl (by omega); omega)
theorem Pl.tick (h : Pl ws cs cs2 ks wat g q) {t : Int} (ht : wat ≤ t) : Pl (ws.map (tkW cs sl t)) (cs.filter fun c => !oldB t g c) cs2 (List.zipWith (keepB ws.length t g) ks cs2) t g (q + 1) := by
  have hg0 := h.g0.1
  have h0 : 0 ≤ t := by have := h.w0; omega
  have hmap : (ws.map (tkW cs sl t)).map (·.r) = ws.map (·.r) := by rw [List.map_map]; rfl
  refine ⟨by rw [hmap]; exact h.hg, by rw [List.length_zipWith, h.hl]; omega, ?_, fun i c hc hk => ?_, fun c hc => ⟨by have := (h.ha c hc).1; omega, (h.ha c hc).2⟩, by have := h.hq; omega, fun x hx => ?_, h0⟩
  · by_cases hn : 0 < ws.length
    · rw [keptOf_filter _ _ _ hn _ _ h.hl, h.hc]
    · have hw : ws = [] := List.eq_nil_of_length_eq_zero (by omega)
      have hgz : g = 0 := by rw [← h.hg, hw]; rfl
      rw [show ws.length = 0 by omega, keptOf_none, List.filter_eq_nil_iff]
      intro c hc
      have := (h.ha c (keptOf_mem _ _ c (h.hc ▸ hc))).1
      subst hgz
      simp [oldB]; omega
  · rcases zip_mem hc hk with h1 | h1 | h1
    · have := h.hd i c hc h1; omega
    · have hw : ws = [] := List.eq_nil_of_length_eq_zero h1
      have hgz : g = 0 := by rw [← h.hg, hw]; rfl
      have := (h.ha c (List.mem_of_getElem? hc)).1
      omega
    · exact h1
  · obtain ⟨y, hy, rfl⟩ := List.mem_map.1 hx
    exact tkW_ok (h.hok y hy) ht h0
end
/-- What stays: all below B, and all blocks of other types. -/
structure KeepT (B : Nat) (T : List TypeId) (w w' : World) : Prop where
  be : Below B w w'
  keep : ∀ (k : Nat) (cs : Array Value) (ty : TypeId) (fr : Nat × Nat), w.heap[k]? = some (.cells cs ty fr) → ty ∉ T → w'.heap[k]? = some (.cells cs ty fr)
theorem KeepT.refl (B : Nat) (T : List TypeId) (w : World) : KeepT B T w w := ⟨Below.refl _ _, fun _ _ _ _ h _ => h⟩
theorem KeepT.trans {B : Nat} {T : List TypeId} {w w1 w2 : World} (h : KeepT B T w w1) (h' : KeepT B T w1 w2) : KeepT B T w w2 := ⟨h.be.trans h'.be, fun k cs ty fr e ne => h'.keep k cs ty fr (h.keep k cs ty fr e ne) ne⟩
theorem KeepT.more {B : Nat} {T T' : List TypeId} {w w1 : World} (h : KeepT B T w w1) (hT : ∀ t ∈ T, t ∈ T') : KeepT B T' w w1 := ⟨h.be, fun k cs ty fr e ne => h.keep k cs ty fr e (fun hm => ne (hT _ hm))⟩
theorem KeepT.of_below {B : Nat} {T : List TypeId} {w w' : World} (h : Below w.heap.size w w') (hB : B ≤ w.heap.size) : KeepT B T w w' := ⟨h.mono hB, fun k cs ty fr e _ => block_below e h⟩
theorem KeepT.of_keep {B : Nat} {T : List TypeId} {P : Nat → Prop} {w w' : World} (h : Keep B P w w') (hp : ∀ (k : Nat) (cs : Array Value) (ty : TypeId) (fr : Nat × Nat), w.heap[k]? = some (.cells cs ty fr) → P k → ty ∈ T) : KeepT B T w w' := ⟨h.be, fun k cs ty fr e ne => h.keep k _ e (fun hk => ne (hp k cs ty fr e hk))⟩
theorem own_type {w : World} {base sz n k : Nat} {e ty : TypeId} {v : Value} {xs : List Value} {cs : Array Value} {fr : Nat × Nat} (h : w.ownsRow base e sz v n xs) (hk : v.ownBlock = some k) (hh : w.heap[k]? = some (.cells cs ty fr)) : ty = e := by
  rcases h.2 with ⟨rfl, _⟩ | ⟨g, cap, cur, rfl, _, h3, _⟩
  · cases hk
  · simp [Value.ownBlock] at hk
    subst hk
    rw [hh] at h3
    simp only [Option.some.injEq, Obj.cells.injEq] at h3
    exact h3.2.1
theorem KeepT.own {B : Nat} {T : List TypeId} {w w' : World} {base sz n : Nat} {e : TypeId} {v : Value} {xs : List Value} (h : KeepT B T w w') (ho : w.ownsRow base e sz v n xs) (he : e ∉ T) : w'.ownsRow base e sz v n xs := by
  refine ⟨ho.1, ?_⟩
  rcases ho.2 with h1 | ⟨g, cap, cur, rfl, q2, q3, q4⟩
  · exact .inl h1
  · exact .inr ⟨g, cap, cur, rfl, q2, h.keep _ _ _ _ q3 he, q4⟩
theorem box_type {w : World} {k : Nat} {c1 c2 : Array Value} {t1 t2 : TypeId} {f1 f2 : Nat × Nat} (h1 : w.heap[k]? = some (.cells c1 t1 f1)) (h2 : w.heap[k]? = some (.cells c2 t2 f2)) : t2 = t1 := by
  rw [h1] at h2
  simp only [Option.some.injEq, Obj.cells.injEq] at h2
  exact h2.2.1.symm
structure PM (B pw n m sn cr mc sc : Nat) (R A SA : Option Addr) (ws : List Wd) (cs : List Ct) (sl : List Sil) (wat g : Int) (w : World) : Prop where
  box : w.heap[pw]? = some (.cells #[.slice R n cr, .slice A m mc, .slice SA sn sc, .int .i64 wat, .int .i64 g] 83 (0, 0))
  rrow : w.ownsRow B 88 11 (.slice R n cr) n (ws.flatMap Wd.cs)
  crow : w.ownsRow B 106 3 (.slice A m mc) m (cs.flatMap Ct.cs)
  srow : w.ownsRow B 171 3 (.slice SA sn sc) sn (sl.flatMap Sil.cs)
  hB : B ≤ pw
  hn : ws.length = n
  hm : cs.length = m
  hs : sl.length = sn
end Go.Proofs.YtkkhjlomicokgaaGreatDoor.al