/- A watch of the program without silences, and the blocks that are its own: NewWatch, Count, Tick, Status, Kept over it. -/
import Derived.Test.YtkkhjlomicokgaaGreatDoorAlPM
namespace Go.Proofs.YtkkhjlomicokgaaGreatDoor.al
open Go.RowKit
set_option linter.unusedVariables false
set_option linter.unusedSimpArgs false
/-- A watch at pw; T holds of its own blocks. -/
def PW (B pw : Nat) (T : Nat → Prop) (ws : List Wd) (cs : List Ct) (wat g : Int) (w : World) : Prop :=
  ∃ (R A : Option Addr) (n m cr mc : Nat), w.heap[pw]? = some (.cells #[.slice R n cr, .slice A m mc, .slice none 0 0, .int .i64 wat, .int .i64 g] 83 (0, 0)) ∧
    w.ownsRow B 88 11 (.slice R n cr) n (ws.flatMap Wd.cs) ∧ w.ownsRow B 106 3 (.slice A m mc) m (cs.flatMap Ct.cs) ∧ ws.length = n ∧ cs.length = m ∧ B ≤ pw ∧ B ≤ w.heap.size ∧
    T pw ∧ (∀ k, (Value.slice R n cr).ownBlock = some k → T k) ∧ (∀ k, (Value.slice A m mc).ownBlock = some k → T k) ∧ ∀ k, T k → k < w.heap.size
section
variable {B pw : Nat} {T : Nat → Prop} {ws : List Wd} {cs : List Ct} {wat g : Int} {w w' : World}
theorem PW.keep (h : PW B pw T ws cs wat g w) {P : Nat → Prop} {B' : Nat} (hk : Keep B' P w w') (hP : ∀ k, T k → ¬ P k) : PW B pw T ws cs wat g w' := by
  obtain ⟨R, A, n, m, cr, mc, h1, h2, h3, h4, h5, h6, h7, t1, t2, t3, t4⟩ := h
  have hz := hk.be.size
  exact ⟨R, A, n, m, cr, mc, hk.keep _ _ h1 (hP _ t1), hk.own h2 (fun k hh => hP _ (t2 k hh)), hk.own h3 (fun k hh => hP _ (t3 k hh)), h4, h5, h6, by omega, t1, t2, t3, fun k hk => by have := t4 k hk; omega⟩
theorem PW.below (h : PW B pw T ws cs wat g w) (hb : Below w.heap.size w w') : PW B pw T ws cs wat g w' :=
  h.keep (Keep.of_below (P := fun _ => False) hb (Nat.le_refl _)) (fun _ _ => id)
theorem PW.lt (h : PW B pw T ws cs wat g w) : ∀ k, T k → k < w.heap.size := by
  obtain ⟨R, A, n, m, cr, mc, h1, h2, h3, h4, h5, h6, h7, t1, t2, t3, t4⟩ := h
  exact t4
theorem PW.size (h : PW B pw T ws cs wat g w) : B ≤ w.heap.size := by
  obtain ⟨R, A, n, m, cr, mc, h1, h2, h3, h4, h5, h6, h7, _⟩ := h
  exact h7
end
theorem NewWatch_pw (n cap : Nat) (A : Option Addr) (l : List Rl) (w : World) (hn : n ≤ maxLen) (hl : Sl w w.heap.size Rl.cs 7 A n l) (hf : RlFit l) (h0 : rlErr l = 0) :
    Calls Tryz.prog 6 #[.slice A n cap, .int .i64 0] w fun e w' => ∃ (pw : Nat) (T : Nat → Prop), e = .returned (.tuple #[.pointer (some ⟨pw, 0, none⟩), .int .i64 0]) ∧ PW w.heap.size pw T (l.map (wd0 0)) [] 0 (lng l) w' ∧ Below w.heap.size w w' ∧ ∀ k, T k → w.heap.size ≤ k := by
  have hn5 := (rl_ok h0).1
  have hll := hl.len
  refine (nNewWatch_ok n cap A l 0 w (by omega) hl hf h0 (by decide)).mono ?_
  rintro e w' ⟨p, v, hp, rfl, hb, hr, hw⟩
  obtain ⟨R, cr, rfl⟩ := own_sl hr
  have hz := hw.size
  refine ⟨p, fun k => k = p ∨ (Value.slice R n cr).ownBlock = some k, rfl, ⟨R, none, n, 0, cr, 0, hb, World.ownsRow.mono hr (by omega), World.ownsRow_nil _ _ _ _, by rw [List.length_map]; exact hll, rfl, hp, hz, .inl rfl, fun k hk => .inr hk, fun k hk => (by cases hk), ?_⟩, hw, ?_⟩
  · rintro k (rfl | hk)
    · exact lt_of_block hb
    · exact (hr.lt _ hk).2
  · rintro k (rfl | hk)
    · exact hp
    · have := (hr.lt _ hk).1; omega
theorem Count_pw {B pw : Nat} {T : Nat → Prop} {ws : List Wd} {cs : List Ct} {wat g : Int} {w : World} (h : PW B pw T ws cs wat g w) (key : ByteArray) (t n : Int) (hk : key.size ≤ maxLen) (hm : cs.length ≤ 1000) :
    Calls Tryz.prog 10 #[.pointer (some ⟨pw, 0, none⟩), .string key, .int .i64 t, .int .i64 n] w fun e w' => ∃ T' : Nat → Prop, e = .returned (.int .i64 (cntErr key t n wat)) ∧
      PW B pw T' ws (if cntErr key t n wat = 0 then cs ++ [⟨key, t, n⟩] else cs) (if cntErr key t n wat = 0 then t else wat) g w' ∧ Keep B T w w' ∧ ∀ k, T' k → T k ∨ w.heap.size ≤ k := by
  have h' := h
  obtain ⟨R, A, rn, m, cr, mc, h1, h2, h3, h4, h5, h6, h7, t1, t2, t3, t4⟩ := h
  by_cases hE : cntErr key t n wat = 0
  · rw [if_pos hE, if_pos hE]
    refine (nCount_ok pw B B _ (.slice A m mc) m _ key t n wat w hk (by omega) h1 rfl rfl h3 h6 (Nat.le_refl _) h7 hE).mono ?_
    rintro e w' ⟨v, rfl, hb, hc, hkp, hv⟩
    obtain ⟨A', mc', rfl⟩ := own_sl hc
    have hz := hkp.be.size
    refine ⟨fun k => T k ∨ (Value.slice A' (m + 1) mc').ownBlock = some k, by rw [hE], ⟨R, A', rn, m + 1, cr, mc', hb, ?_, by simpa [Ct.cs] using hc, h4, by simp [h5], h6, by omega, .inl t1, fun k hk => .inl (t2 k hk), fun k hk => .inr hk, ?_⟩, hkp.mono (Nat.le_refl _) ?_, ?_⟩
    · refine hkp.own h2 (fun k hk hp => ?_)
      rcases hp with rfl | hp
      · exact own_other' h2 h1 (by decide) hk
      · rcases own_two h2 h3 (by decide) with e | e
        · rw [e] at hp; cases hp
        · exact e (hp.trans hk.symm)
    · rintro k (hk | hk)
      · have := t4 k hk; omega
      · exact (hc.lt _ hk).2
    · rintro k (rfl | hk)
      · exact t1
      · exact t3 k hk
    · rintro k (hk | hk)
      · exact .inl hk
      · rcases hv k hk with hh | hh
        · exact .inl (t3 k hh)
        · exact .inr hh
  · rw [if_neg hE, if_neg hE]
    refine (nCount_bad pw _ A m mc key t n wat w hk h1 rfl rfl _ rfl hE).mono ?_
    rintro e w' ⟨rfl, rfl⟩
    exact ⟨T, rfl, h', Keep.refl _ _ _, fun k hk => .inl hk⟩
theorem Tick_pw {B pw : Nat} {T : Nat → Prop} {ws : List Wd} {cs : List Ct} {wat g : Int} {w : World} (h : PW B pw T ws cs wat g w) (t : Int) (hm : momB t = true) (hlt : ¬ t < wat) (hn : ws.length ≤ 1000) (hok : ∀ x ∈ ws, WdOk wat x) (hw0 : 0 ≤ wat) (hcf : CtFit cs) (hg0 : 0 ≤ g) (hg1 : g ≤ 604800) :
    Calls Tryz.prog 13 #[.pointer (some ⟨pw, 0, none⟩), .int .i64 t] w fun e w' => ∃ ov, e = .returned (.tuple #[ov, .int .i64 0]) ∧ PW B pw T (ws.map (tkW cs [] t)) (cs.filter fun c => !oldB t g c) t g w' ∧
      w'.ownsRow w.heap.size 58 4 ov (ws.flatMap (tkN cs [] t)).length ((ws.flatMap (tkN cs [] t)).flatMap Nt.cs) ∧ Keep B T w w' := by
  obtain ⟨R, A, rn, m, cr, mc, h1, h2, h3, h4, h5, h6, h7, t1, t2, t3, t4⟩ := h
  refine (nTick_ok B B pw rn m 0 cr mc 0 R A none ws cs [] t wat g w hm hlt h4 h5 rfl (by omega) (by have := hcf.1; omega) (by decide) h1 h2 h3 (World.ownsRow_nil _ _ _ _) hok hw0 hcf hg0 hg1 h6 (Nat.le_refl _) h7).mono ?_
  rintro e w' ⟨ov, cv, rfl, hb, hr, hc, _, hv, hkp, hvo⟩
  obtain ⟨A', mc', rfl⟩ := own_sl hc
  have hz := hkp.be.size
  refine ⟨ov, rfl, ⟨R, A', rn, _, cr, mc', hb, hr, hc, by rw [List.length_map]; exact h4, rfl, h6, by omega, t1, t2, fun k hk => t3 k (hvo k hk), fun k hk => by have := t4 k hk; omega⟩, hv, hkp.mono (Nat.le_refl _) ?_⟩
  rintro k (rfl | hk | hk)
  · exact t1
  · exact t2 k hk
  · exact t3 k hk
theorem Status_pw {B pw : Nat} {T : Nat → Prop} {ws : List Wd} {cs : List Ct} {wat g : Int} {w : World} (h : PW B pw T ws cs wat g w) (hn : ws.length ≤ 1000) :
    Calls Tryz.prog 14 #[.pointer (some ⟨pw, 0, none⟩)] w fun e w' => ∃ v, e = .returned v ∧ w'.ownsRow w.heap.size 54 4 v ws.length ((ws.map Wd.stt).flatMap Stt.cs) ∧ Below w.heap.size w w' := by
  obtain ⟨R, A, rn, m, cr, mc, h1, h2, h3, h4, h5, h6, h7, t1, t2, t3, t4⟩ := h
  obtain ⟨R', cr', hv, hsl, _⟩ := sl_of_own (f := Wd.cs) (sz := 11) (fun _ => rfl) h4 h2
  simp only [Value.slice.injEq, true_and] at hv
  obtain ⟨rfl, rfl⟩ := hv
  rw [h4]
  exact Status_any pw rn cr R ws w (by omega) (block_cell h1 0) hsl
end Go.Proofs.YtkkhjlomicokgaaGreatDoor.al