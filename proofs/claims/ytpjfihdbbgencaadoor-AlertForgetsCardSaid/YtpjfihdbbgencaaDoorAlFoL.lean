/- Plain law of AlertForgets; Kept over PW. -/
import Derived.Test.YtpjfihdbbgencaaDoorAlPw
namespace Go.Proofs.YtpjfihdbbgencaaDoor
open Go.RowKit
set_option linter.unusedVariables false
set_option linter.unusedSimpArgs false
theorem kept_fresh {t g : Int} {wat : Int} (ht : wat ≤ t) : ∀ (cs : List Ct) (ks : List Bool), ks.length = cs.length → (∀ (i : Nat) (c : Ct), cs[i]? = some c → ks[i]? = some false → c.at_ ≤ wat - 2 * g) → ((keptOf cs ks).filter fun c => !oldB t g c) = cs.filter fun c => !oldB t g c
  | [], [], _, _ => by simp [keptOf]
  | [], _ :: _, h, _ => by simp at h
  | _ :: _, [], h, _ => by simp at h
  | c :: cs, k :: ks, h, hd => by
    have ih := kept_fresh ht cs ks (by simpa using h) (fun i x hx hk => hd (i + 1) x (by simpa using hx) (by simpa using hk))
    cases k
    · have h0 := hd 0 c rfl rfl
      have : c.at_ ≤ t - 2 * g := by omega
      have h1 : oldB t g c = true := by simp [oldB, this]
      rw [List.filter_cons, h1]
      simpa [keptOf] using ih
    · simp only [keptOf, if_true]
      rw [List.filter_cons, List.filter_cons, ih]
theorem cntErr_same {key : ByteArray} {t n wa wb : Int} (ha : wa ≤ t) (hb : wb ≤ t) : cntErr key t n wa = cntErr key t n wb := by
  unfold cntErr
  rw [if_neg (by omega : ¬ t < wa), if_neg (by omega : ¬ t < wb)]
theorem count_two {ws : List Wd} {cs cs2 : List Ct} {ks : List Bool} {wat wb g : Int} {q : Nat} (h : Pl ws cs cs2 ks wat g q) {key : ByteArray} (hk : key.size ≤ maxLen) {t n : Int} (hwt : wat ≤ t) (hwb : wb ≤ t) (h0 : 0 ≤ wb) :
    ∃ (cs3 cs23 : List Ct) (ks3 : List Bool) (wat3 wb3 : Int), (if cntErr key t n wat = 0 then cs ++ [⟨key, t, n⟩] else cs) = cs3 ∧ (if cntErr key t n wat = 0 then t else wat) = wat3 ∧ (if cntErr key t n wb = 0 then cs2 ++ [⟨key, t, n⟩] else cs2) = cs23 ∧ (if cntErr key t n wb = 0 then t else wb) = wb3 ∧
      Pl ws cs3 cs23 ks3 wat3 g (q + 1) ∧ wat3 ≤ t ∧ wb3 ≤ t ∧ 0 ≤ wb3 := by
  have hw0 := h.w0
  rw [← cntErr_same (key := key) (n := n) hwt hwb]
  by_cases hE : cntErr key t n wat = 0
  · rw [if_pos hE, if_pos hE, if_pos hE, if_pos hE]
    exact ⟨_, _, _, _, _, rfl, rfl, rfl, rfl, h.count hk hE, Int.le_refl _, Int.le_refl _, by omega⟩
  · rw [if_neg hE, if_neg hE, if_neg hE, if_neg hE]
    exact ⟨_, _, _, _, _, rfl, rfl, rfl, rfl, h.more, hwt, hwb, h0⟩
theorem wdOk_start {l : List Rl} (h : ∀ x ∈ l, 1 ≤ x.ask ∧ x.ask ≤ 4 ∧ 1 ≤ x.window ∧ x.window ≤ 604800) {wat : Int} (h0 : 0 ≤ wat) : ∀ x ∈ l.map (wd0 0), WdOk wat x := fun x hx => by
  obtain ⟨y, hy, rfl⟩ := List.mem_map.1 hx
  have := h y hy
  exact ⟨this.1, this.2.1, this.2.2.1, this.2.2.2, by simp [wd0], by simp [wd0], by simp [wd0], by simpa [wd0] using h0⟩
/-- What both have in the end: the same rules, the same values. -/
theorem forgets_same {wsA : List Wd} {csA csB : List Ct} {ks : List Bool} {wat g t : Int} {q : Nat} {l : List Rl} (h : Pl wsA csA csB ks wat g q) (ht : wat ≤ t) (hr : wsA.map (·.r) = l) {i : Nat} {x y : Wd} (hx : (wsA.map (tkW csA [] t))[i]? = some x) (hy : ((l.map (wd0 0)).map (tkW csB [] t))[i]? = some y) : x.r.name = y.r.name ∧ x.va = y.va := by
  rw [List.getElem?_map] at hx
  obtain ⟨x0, hx0, rfl⟩ := Option.map_eq_some_iff.1 hx
  rw [List.getElem?_map, List.getElem?_map, ← hr, List.getElem?_map, hx0] at hy
  simp only [Option.map_some, Option.some.injEq] at hy
  subst hy
  refine ⟨rfl, ?_⟩
  show (seeV csA x0.r t).1 = (seeV csB x0.r t).1
  rw [h.see ht (List.mem_of_getElem? hx0)]
theorem Kept_pw {B pw : Nat} {T : Nat → Prop} {ws : List Wd} {cs : List Ct} {wat g : Int} {w : World} (h : PW B pw T ws cs wat g w) (hm : cs.length ≤ 1000) :
    Calls Tryd.prog 20 #[.pointer (some ⟨pw, 0, none⟩)] w fun e w' => e = .returned (.int .i64 (cs.length : Nat)) ∧ w' = w := by
  obtain ⟨R, A, rn, m, cr, mc, h1, h2, h3, h4, h5, h6, h7, t1, t2, t3, t4⟩ := h
  have c1 : w.cell? ⟨pw, 1, none⟩ = some (.slice A m mc) := block_cell h1 1
  clear h1 h2 h3 t1 t2 t3 t4
  subst h5
  go_enter Tryd.func20, Tryd.ntmps20
  go_wp2_with (fail)
  go_ret
  exact ⟨rfl, rfl⟩
end Go.Proofs.YtpjfihdbbgencaaDoor
