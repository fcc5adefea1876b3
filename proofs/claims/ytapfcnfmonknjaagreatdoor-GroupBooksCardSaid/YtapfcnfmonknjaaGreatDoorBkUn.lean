/- Undo. -/
import Derived.Test.YtapfcnfmonknjaaGreatDoorBkMe
namespace Go.Proofs.YtapfcnfmonknjaaGreatDoor.Bk
open Go.RowKit Go.Maps Go.Sort
set_option linter.unusedVariables false
set_option linter.unusedSimpArgs false
theorem Undo_none {B p mb mn : Nat} {last : Int} {sv : Value} {l : List Pr} {bk : List UInt8 → Nat} {w : World} (h : BS B w p mb mn last sv l bk []) :
    Calls Tryz.prog 11 #[.pointer (some ⟨p, 0, none⟩)] w fun e w' => e = .returned (.bool false) ∧ w' = w := by
  obtain ⟨A, c, rfl⟩ := own_sl h.row
  have z2 : w.cell? ⟨p, 2, none⟩ = some (.slice A 0 c) := (block_cell h.bm.box 2).trans rfl
  clear h
  go_enter Tryz.func11, Tryz.ntmps11
  go_wp2_with (fail)
  go_ret
  exact ⟨rfl, rfl⟩
def undL (st : Stp) (l : List Pr) : List Pr := mvL st.ps (if st.kind = 1 then st.b else st.a) l
theorem flat_at (ss : List Stp) (st : Stp) (j : Nat) (v : Value) (h : st.cs[j]? = some v) : ((ss ++ [st]).flatMap Stp.cs)[ss.length * 4 + j]? = some v := by
  have hl : (ss.flatMap Stp.cs).length = ss.length * 4 := by
    have : ∀ m : List Stp, (m.flatMap Stp.cs).length = m.length * 4 := fun m => by
      induction m with
      | nil => rfl
      | cons a m ih => rw [List.flatMap_cons, List.length_append, ih, List.length_cons]; simp [Stp.cs]; omega
    exact this _
  rw [List.flatMap_append, List.flatMap_singleton, List.getElem?_append_right (by omega), hl, show ss.length * 4 + j - ss.length * 4 = j by omega]
  exact h
set_option maxRecDepth 100000 in
set_option maxHeartbeats 8000000 in
theorem Undo_ok {B p mb mn : Nat} {last : Int} {sv : Value} {l : List Pr} {bk : List UInt8 → Nat} {ss : List Stp} {st : Stp} {w : World} (h : BS B w p mb mn last sv l bk (ss ++ [st])) (hkd : st.kind = 1 ∨ st.kind = 2)
    (hin : ∀ s ∈ st.ps, s ∈ l.map Pr.p) (hsz : ∀ s ∈ st.ps, s.length ≤ maxLen) (hps : st.ps.length ≤ 1000) (hss : ss.length < 400) (hBz : B ≤ w.heap.size) :
    Calls Tryz.prog 11 #[.pointer (some ⟨p, 0, none⟩)] w fun e w' => e = .returned (.bool true) ∧ ∃ sv', BS B w' p mb mn last sv' (undL st l) bk ss ∧ sv'.ownBlock = sv.ownBlock ∧ Keep B (SB p mb sv l bk (ss ++ [st])) w w' := by
  have hrow := h.row
  rw [List.length_append, List.length_singleton] at hrow
  obtain ⟨g, sc, cur, rfl, _⟩ := own_blk hrow (by omega)
  have hpr := h.ps st (by simp)
  have hn : st.n = st.ps.length := by
    obtain ⟨_, _, e⟩ := own_sl hpr
    simp only [Stp.sl, Value.slice.injEq] at e
    exact e.2.1
  have z2 : w.cell? ⟨p, 2, none⟩ = some (.slice (some ⟨g, 0, none⟩) (ss.length + 1) sc) := (block_cell h.bm.box 2).trans rfl
  have hcl : ∀ (j : Nat) v, st.cs[j]? = some v → w.cell? ⟨g, ss.length * 4 + j, none⟩ = some v := fun j v e => own_cell hrow _ v (flat_at ss st j v e)
  obtain ⟨kd, a, b, A, n, c, ps⟩ := st
  simp only at hkd hin hsz hps hn
  subst hn
  have e0 : w.cell? ⟨g, ss.length * 4, none⟩ = some (.int .i64 kd) := hcl 0 _ rfl
  have e1 : w.cell? ⟨g, ss.length * 4 + 1, none⟩ = some (.int .i64 a) := hcl 1 _ rfl
  have e2 : w.cell? ⟨g, ss.length * 4 + 2, none⟩ = some (.int .i64 b) := hcl 2 _ rfl
  have e3 : w.cell? ⟨g, ss.length * 4 + 3, none⟩ = some (.slice A ps.length c) := hcl 3 _ rfl
  have HS := hide h
  have HIN := hide hin
  have HSZ := hide hsz
  have HPR := hide hpr
  clear hcl hrow hpr h hin hsz
  have HMV := hide (fun (id : Int) (W : World) (hb : Below w.heap.size w W) => Move_any (HS.out.bm.below hb) id A ps.length c ps (rowS (own_below HPR.out hb) rfl) HIN.out HSZ.out (rowX (own_below HPR.out hb) (HS.out.bm.below hb)) (by omega) (Nat.le_trans hBz hb.size))
  have HB1 := hide ((Below.refl w.heap.size w).alloc (Nat.le_refl _) (.cells #[.int .i64 kd, .int .i64 a, .int .i64 b, .slice A ps.length c] 49))
  have fin : ∀ (id : Int) (w2 : World), id = (if kd = 1 then b else a) → BM B w2 p mb mn last (.slice (some ⟨g, 0, none⟩) (ss.length + 1) sc) (mvL ps id l) bk → Keep B (fun k => ∃ r ∈ l, k = bk r.p) (w.alloc (.cells #[.int .i64 kd, .int .i64 a, .int .i64 b, .slice A ps.length c] 49)) w2 →
      ∃ sv', BS B (w2.setCell ⟨p, 2, none⟩ (.slice (some ⟨g, 0, none⟩) ss.length sc)) p mb mn last sv' (undL ⟨kd, a, b, A, ps.length, c, ps⟩ l) bk ss ∧ sv'.ownBlock = (Value.slice (some ⟨g, 0, none⟩) (ss.length + 1) sc).ownBlock ∧ Keep B (SB p mb (.slice (some ⟨g, 0, none⟩) (ss.length + 1) sc) l bk (ss ++ [⟨kd, a, b, A, ps.length, c, ps⟩])) w (w2.setCell ⟨p, 2, none⟩ (.slice (some ⟨g, 0, none⟩) ss.length sc)) := fun id w2 hid hm hk => by
    have hS1 := HS.out.below HB1.out
    have hS2 := hS1.book hm (fun k o e u => hk.keep k o e u) (fun k hp => .inr (.inr hp))
    refine ⟨.slice (some ⟨g, 0, none⟩) ss.length sc, ?_, rfl, ?_⟩
    · have h9 := hS2.pop (w' := w2.setCell ⟨p, 2, none⟩ (.slice (some ⟨g, 0, none⟩) ss.length sc)) (block_set hm.box _) (fun k o e ne => block_set_other e _ _ ne)
      rw [hid] at h9
      exact h9
    · exact ((Keep.of_below HB1.out hBz).trans (hk.mono (Nat.le_refl _) (fun k hp => .inl (.inr (.inr hp))))).trans (Keep.set _ 2 _ HS.out.bm.pl (.inl (.inl rfl)))
  have FIN := hide fin
  clear fin
  rcases hkd with rfl | rfl
  · go_enter Tryz.func11, Tryz.ntmps11
    go_wp2_with (go_at_call 32; refine (HMV.out b _ HB1.out).mono ?_; rintro e w2 ⟨rfl, hm2, hk2⟩; have HM2 := hide hm2; have HK2 := hide hk2; have z2 : w2.cell? ⟨p, 2, none⟩ = some (.slice (some ⟨g, 0, none⟩) (ss.length + 1) sc) := (block_cell hm2.box 2).trans rfl; have f2 : w2.frozen? ⟨p, 2, none⟩ = false := block_free hm2.box 2; clear hm2 hk2)
    go_ret
    exact ⟨rfl, FIN.out b w2 (by simp) HM2.out HK2.out⟩
  · go_enter Tryz.func11, Tryz.ntmps11
    go_wp2_with (go_at_call 32; refine (HMV.out a _ HB1.out).mono ?_; rintro e w2 ⟨rfl, hm2, hk2⟩; have HM2 := hide hm2; have HK2 := hide hk2; have z2 : w2.cell? ⟨p, 2, none⟩ = some (.slice (some ⟨g, 0, none⟩) (ss.length + 1) sc) := (block_cell hm2.box 2).trans rfl; have f2 : w2.frozen? ⟨p, 2, none⟩ = false := block_free hm2.box 2; clear hm2 hk2)
    go_ret
    exact ⟨rfl, FIN.out a w2 (by simp) HM2.out HK2.out⟩
end Go.Proofs.YtapfcnfmonknjaaGreatDoor.Bk
