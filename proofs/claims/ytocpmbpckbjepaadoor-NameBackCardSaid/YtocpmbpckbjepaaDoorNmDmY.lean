/- Walks of the copies of names and types in both packages (printed by gen_dh.py). -/
import Derived.Test.YtocpmbpckbjepaaDoorNmDmT
import Derived.Test.YtocpmbpckbjepaaDoorNmWlk
import Derived.Test.YtocpmbpckbjepaaDoorNmSame
import Derived.Test.YtocpmbpckbjepaaDoorNmGC
import Derived.Test.YtocpmbpckbjepaaDoorNmGA
import Derived.WalkKit
import Derived.BigQuiet
namespace Go.Proofs.YtocpmbpckbjepaaDoor
open Go.RowKit
set_option linter.unusedVariables false
set_option linter.unusedSimpArgs false
theorem info_tyC : (Tryd.prog.info? 75).map (fun i => (i.zero, i.size, i.bytes)) = some (some (.agg #[.int .i64 0, .slice none 0 0, .slice none 0 0]), 3, 56) := by kernel_rfl
theorem info_ptC : (Tryd.prog.info? 47).map (fun i => (i.zero, i.size, i.bytes)) = some (some (.agg #[.string ⟨#[]⟩, .slice none 0 0]), 2, 40) := by kernel_rfl
theorem ty_both {w : World} {F : Nat → Prop} {t : Ty} {A A' : Option Addr} {n c n' c' : Nat} (h1 : SlS w F 2 (PartU w F) A n t.name) (h2 : SlS w F 3 (TyU w F) A' n' t.of) (a1 : n ≤ c) (a2 : c ≤ maxLen) (a3 : n' ≤ c') (a4 : c' ≤ maxLen) : TyU w F t [.int .i64 t.kind, .slice A n c, .slice A' n' c'] := by
  obtain ⟨k, hk⟩ := parts_bound h1
  obtain ⟨j, hj⟩ := tys_bound h2
  have up : ∀ d (k : Nat) a cs, TyS w F k a cs → TyS w F (k + d) a cs := fun d => by
    induction d with
    | zero => exact fun k a cs h => h
    | succ d ih => exact fun k a cs h => (ih k a cs h).deeper
  refine ⟨(k + j) + 1, A, n, c, A', n', c', rfl, a1, a2, a3, a4, hk.stay (StayS.refl _ _) (fun _ h _ => h) (fun a _ cs h => h.mono (fun x cs h => up j k x cs h)), hj.stay (StayS.refl _ _) (fun _ h _ => h) (fun a _ cs h => by rw [Nat.add_comm k j]; exact up k j a cs h)⟩
/-- New blocks: laid behind n, ahead of m. -/
def NewB (G : Nat → Prop) (n m : Nat) : Prop := ∀ b, G b → n ≤ b ∧ b < m
theorem below_2C (w : World) (o : Obj) : Below w.heap.size w (w.alloc o).drew := below_drewN ((Below.refl w.heap.size w).alloc (Nat.le_refl _) o) 1
theorem part_both {w : World} {F : Nat → Prop} {p : Part} {A : Option Addr} {n c : Nat} (h : SlS w F 3 (TyU w F) A n p.2) (a1 : n ≤ c) (a2 : c ≤ maxLen) (hs : p.1.size ≤ maxLen) : PartU w F p [.string p.1, .slice A n c] := ⟨A, n, c, rfl, hs, a1, a2, h⟩
def nCpTys (f : Nat) : Prop := ∀ (k : Nat) (A : Option Addr) (n cap : Nat) (l : List Ty) (B : Nat) (w : World), B ≤ w.heap.size → n ≤ cap → cap ≤ maxLen → n ≤ 21 → Tys w B k A n l → (∀ t ∈ l, Good f t) →
  Calls Tryd.prog 50 #[.slice A n cap] w fun e w' => ∃ (A' : Option Addr) (q : Nat) (G : Nat → Prop), e = .returned (.slice A' n q) ∧ n ≤ q ∧ q ≤ maxLen ∧ SlS w' G 3 (TyU w' G) A' n l ∧ NewB G w.heap.size w'.heap.size ∧ Below w.heap.size w w'
def nCpParts (f : Nat) : Prop := ∀ (k : Nat) (A : Option Addr) (n cap : Nat) (l : List Part) (B : Nat) (w : World), B ≤ w.heap.size → n ≤ cap → cap ≤ maxLen → n ≤ 20 → Parts w B k A n l → (∀ p ∈ l, p.2.length ≤ 20 ∧ ∀ x ∈ p.2, Good f x) →
  Calls Tryd.prog 49 #[.slice A n cap] w fun e w' => ∃ (A' : Option Addr) (q : Nat) (G : Nat → Prop), e = .returned (.slice A' n q) ∧ n ≤ q ∧ q ≤ maxLen ∧ SlS w' G 2 (PartU w' G) A' n l ∧ NewB G w.heap.size w'.heap.size ∧ Below w.heap.size w w'
set_option maxRecDepth 100000 in
set_option maxHeartbeats 8000000 in
theorem nCpParts_of {f : Nat} (HT : nCpTys f) : nCpParts f := by
  intro k A n cap l B w hBw hnc hcm hn hl hg
  unfold maxLen at hcm
  obtain ⟨i0, hi0, iz0, iz1, iz2⟩ := info_parts info_ptC
  have HSL := hide hl
  have HG := hide hg
  have HH := hide HT
  have HLN := hide hl.len
  clear hl hg HT
  go_enter Tryd.func49, Tryd.ntmps49
  go_wp2_with (fail)
  go_loopw [3, 8] (fun vrow i wr => ∃ (j : Nat) (G : Nat → Prop), j ≤ n ∧ i = .int .i64 j ∧ OwnU wr w.heap.size 47 2 PartU G vrow j (l.take j) ∧ NewB G w.heap.size wr.heap.size ∧ Below w.heap.size w wr) (fun _ i _ => n - (intOf i).toNat)
  case atStart => exact ⟨0, fun _ => False, Nat.zero_le _, rfl, OwnU.nil _ _ _ _ _, fun b h => h.elim, Below.refl _ _⟩
  case round =>
    obtain ⟨j, G, hj, rfl, hown, hnew, hbe⟩ := hrel
    have hz := hbe.size
    obtain ⟨A0, q0, rfl⟩ := hown.sl
    have HOW := hide hown
    have HNW := hide hnew
    have HBE := hide hbe
    clear hown hnew
    by_cases hlt : j < n
    · obtain ⟨o, q, p, cs, rfl, hq, hp, hin, hcs⟩ := (parts_below HSL.out (hbe.mono hBw)).at_ hlt
      obtain ⟨PA, pn, pc, rfl, hps, hpnc, hpcm, hpl⟩ := hin
      have hm := List.mem_of_getElem? hp
      obtain ⟨hp20, hpg⟩ := HG.out p hm
      have hpln := hpl.len
      have hpn20 : pn ≤ 20 := by omega
      have HFT := hide (take_succ_get hp)
      have c0 : wr.cell? ⟨o, q + j * 2, none⟩ = some (.string p.1) := by simpa using hcs 0 _ rfl
      have c1 : wr.cell? ⟨o, q + j * 2 + 1, none⟩ = some (.slice PA pn pc) := hcs 1 _ rfl
      have HPL := hide hpl
      have hbx := below_2C wr (.cells #[.string p.1, .slice PA pn pc] 47)
      have HBX := hide hbx
      have HXB := hide (show ((wr.alloc (.cells #[.string p.1, .slice PA pn pc] 47)).drew).heap[wr.heap.size]? = some (.cells #[.string p.1, .slice PA pn pc] 47) from heap_alloc_new wr (.cells #[.string p.1, .slice PA pn pc] 47))
      have HPG := hide hpg
      clear hcs hm hp hpl hbx hbe hpg
      go_wp2_with (fail)
      try (obtain ⟨wq, hwq⟩ : ∃ x, (wr.alloc (.cells #[.string p.1, .slice PA pn pc] 47)) = x := ⟨_, rfl⟩)
      have hza : wr.heap.size ≤ wq.heap.size := by rw [← hwq]; simp
      rw [hwq] at HBX HXB ⊢
      clear hwq
      have hBq : B ≤ wq.drew.heap.size := by show B ≤ wq.heap.size; omega
      refine wp_region_chain (fun W => W.cell? ⟨wr.heap.size, 0, none⟩ = some (.string p.1) ∧ W.cell? ⟨wr.heap.size, 1, none⟩ = some (.slice PA pn pc)) 8 (by as_aux_lemma => kernel_rfl) (N := 10) (by as_aux_lemma => kernel_rfl) ?_; intro hsh
      have HS : wq.drew.cell? ⟨wr.heap.size, 0, none⟩ = some (.string p.1) ∧ wq.drew.cell? ⟨wr.heap.size, 1, none⟩ = some (.slice PA pn pc) := ⟨block_cell HXB.out 0, block_cell HXB.out 1⟩
      refine wpAnyC_take0 (i := 0) (k := 8) (v := ?_) (d := some 12) rfl (by rfl) (by as_aux_lemma => kernel_rfl) (by as_aux_lemma => kernel_rfl) (by as_aux_lemma => kernel_rfl) hsh (by decide) (by intro _ _ _ h; exact h) (by assumption) (Or.inl ⟨by rfl, ?hy⟩) ?_; (case hy => (intro W _; go_simp; (try with_reducible rfl))); clear hsh; intro hsh
      refine wpAnyC_take0 (i := 1) (k := 8) (v := ?_) (d := some 13) rfl (by rfl) (by as_aux_lemma => kernel_rfl) (by as_aux_lemma => kernel_rfl) (by as_aux_lemma => kernel_rfl) hsh (by decide) (by intro _ _ _ h; exact h) (by assumption) (Or.inl ⟨by rfl, ?hy⟩) ?_; (case hy => (intro W _; go_simp; (try with_reducible rfl))); clear hsh; intro hsh
      refine wpAnyC_take (i := 2) (k := 8) (f := 40) (v := ?_) (d := some 14) rfl (by rfl) (by as_aux_lemma => kernel_rfl) (by as_aux_lemma => kernel_rfl) (by as_aux_lemma => kernel_rfl) hsh (by decide) (by as_aux_lemma => kernel_rfl) (by intro _ _ _ h; exact h) (by assumption) (Or.inl ⟨by rfl, ?hy⟩) ?_; (case hy => (rintro W ⟨y0, y1⟩; go_simp; (try with_reducible rfl))); clear hsh; intro hsh
      refine wpAnyC_take0 (i := 3) (k := 8) (v := ?_) (d := some 15) rfl (by rfl) (by as_aux_lemma => kernel_rfl) (by as_aux_lemma => kernel_rfl) (by as_aux_lemma => kernel_rfl) hsh (by decide) (by intro _ _ _ h; exact h) (by assumption) (Or.inl ⟨by rfl, ?hy⟩) ?_; (case hy => (intro W _; go_simp; (try with_reducible rfl))); clear hsh; intro hsh
      refine wpAnyC_take (i := 4) (k := 8) (f := 40) (v := ?_) (d := some 16) rfl (by rfl) (by as_aux_lemma => kernel_rfl) (by as_aux_lemma => kernel_rfl) (by as_aux_lemma => kernel_rfl) hsh (by decide) (by as_aux_lemma => kernel_rfl) (by intro _ _ _ h; exact h) (by assumption) (Or.inl ⟨by rfl, ?hy⟩) ?_; (case hy => (rintro W ⟨y0, y1⟩; go_simp; (try with_reducible rfl))); clear hsh; intro hsh
      refine wpAnyC_ready (rs := [5]) (by as_aux_lemma => kernel_rfl) (by simp) ?_; refine AllC.cons (i := 5) rfl (by as_aux_lemma => kernel_rfl) hsh (fun K hK => ?_) AllC.nil
      go_simp
      go_at_call 50
      refine (HH.out k PA pn pc p.2 B wq.drew hBq hpnc hpcm (by omega) (tys_below HPL.out (HBX.out.mono (Nat.le_trans hBw hz))) HPG.out).mono ?_
      rintro e w1 ⟨A1, c1, G1, rfl, hq1, hm1, hs1, hn1, hb1⟩
      have HX1 := hide (block_below HXB.out hb1)
      try go_simp
      refine hK _ _ (fun _ => ⟨block_cell HX1.out 0, block_cell HX1.out 1⟩) ?_
      clear hK K hsh HS
      intro hsh
      have HS : w1.cell? ⟨wr.heap.size, 0, none⟩ = some (.string p.1) ∧ w1.cell? ⟨wr.heap.size, 1, none⟩ = some (.slice PA pn pc) := ⟨block_cell HX1.out 0, block_cell HX1.out 1⟩
      refine wpAnyC_take0 (i := 6) (k := 8) (v := ?_) (d := some 18) rfl (by rfl) (by as_aux_lemma => kernel_rfl) (by as_aux_lemma => kernel_rfl) (by as_aux_lemma => kernel_rfl) hsh (by decide) (by intro _ _ _ h; exact h) (by assumption) (Or.inl ⟨by rfl, ?hy⟩) ?_; (case hy => (intro W _; go_simp; (try with_reducible rfl))); clear hsh; intro hsh
      refine wpAnyC_ready (rs := [7]) (by as_aux_lemma => kernel_rfl) (by simp) ?_; refine AllC.cons (i := 7) rfl (by as_aux_lemma => kernel_rfl) hsh (fun K hK => ?_) AllC.nil
      go_simp
      have hbt : Below wr.heap.size wr w1 := HBX.out.trans (hb1.mono HBX.out.size)
      have HBT := hide hbt
      have hzt := hbt.size
      have HBN : Hid (Below w1.heap.size w1 (w1.alloc (.cells #[.string p.1, .slice A1 pn c1] 47))) := hide ((Below.refl _ _).alloc (Nat.le_refl _) _)
      refine hK _ _ (fun _ => ⟨block_cell (block_below HX1.out HBN.out) 0, block_cell (block_below HX1.out HBN.out) 1⟩) ?_
      clear hK K hsh HS
      intro hsh
      refine wpAnyC_tail (by as_aux_lemma => kernel_rfl) (by simp) (by as_aux_lemma => kernel_rfl) ?_; simp only [List.drop_succ_cons, List.drop_zero]; clear hsh
      go_simp
      have hzb : wq.drew.heap.size = wq.heap.size := rfl
      have HOW1 := hide (HOW.out.step (F' := (fun b => G b ∨ G1 b)) stay_partU ⟨hzt, fun b o _ e => block_below e HBT.out⟩ (fun _ h => .inl h) (fun b hb => by
        rcases hb with hb | hb
        · exact .inl hb
        · have := (hn1 b hb).1; exact .inr (by omega)
        ))
      have HNG := hide (show NewB (fun b => G b ∨ G1 b) w.heap.size w1.heap.size from fun b hb => by
        rcases hb with hb | hb
        · have := HNW.out b hb; omega
        · have := hn1 b hb; omega
        )
      have HEL := hide (part_both (hs1.stay (S' := fun b => G b ∨ G1 b) (R' := TyU w1 (fun b => G b ∨ G1 b)) (StayS.refl _ _) (fun _ h _ => .inr h) (fun a _ cs h => stay_tyU _ _ _ _ a cs h (StayS.refl _ _) (fun _ h _ => .inr h))) hq1 hm1 hps)
      refine wpList_append_own_at _ (by rfl) (.tmp 12) (.tmp 19) 22 (by rfl) w.heap.size 47 i0 (.agg #[.string ⟨#[]⟩, .slice none 0 0]) 2 40 Tryd.underlying22 hi0 iz0 iz1 iz2 rfl (by decide) (.slice A0 j q0) j HOW1.out.choose.flatten (by rfl) (HOW1.out.choose_spec.1.alloc _) ⟨w1.heap.size, 0, none⟩ 1 1 [.string p.1, .slice A1 pn c1] (by rfl) (by rfl) (cells_new w1 [.string p.1, .slice A1 pn c1] _) (by intro u hu; simp at hu; rcases hu with rfl | rfl <;> rfl) (by unfold maxLen; omega) (by omega) (by simp; omega) ?_
      intro v3 w3 hown3 hg3 _ hv3
      have HOW3 := hide (HOW1.out.push stay_partU (fun b hb => (HNG.out b hb).2) rfl HEL.out HBN.out hown3 hg3 hv3)
      have HB3 := hide (((HBE.out.trans (HBT.out.mono hz)).trans (HBN.out.mono (Nat.le_trans hz hzt))).grown hg3 (by simp; omega) (fun b hb => (HOW1.out.lt b hb).1))
      have hz3 : w1.heap.size ≤ w3.heap.size := by have := hg3.size; have := HBN.out.size; omega
      clear hown3 hg3 hv3
      go_wp2_with (fail)
      go_roundw
      case rel => exact ⟨j + 1, (fun b => G b ∨ G1 b), by omega, by go_num, by rw [HFT.out]; exact HOW3.out, fun b hb => by have := HNG.out b hb; omega, HB3.out⟩
      case measure => simp [intOf]; omega
    · obtain rfl : j = n := by omega
      have htk : l.take j = l := take_len l (by rw [HLN.out]; exact Nat.le_refl _)
      rw [htk] at HOW
      clear htk hbe
      go_wp2_with (fail)
      go_ret
      obtain ⟨A9, q9, hv9, h1, h2, h3⟩ := HOW.out.done stay_partU
      injection hv9 with e1 e2 e3
      subst e1 e3
      refine ⟨A0, q0, _, rfl, h1, h2, h3, fun b hb => ?_, HBE.out⟩
      rcases hb with hb | hb
      · exact HNW.out b hb
      · exact HOW.out.lt b hb
set_option maxRecDepth 100000 in
set_option maxHeartbeats 8000000 in
theorem nCpTys_of {f : Nat} (H : ∀ g, f = g + 1 → nCpParts g ∧ nCpTys g) : nCpTys f := by
  intro k A n cap l B w hBw hnc hcm hn hl hg
  unfold maxLen at hcm
  obtain ⟨i0, hi0, iz0, iz1, iz2⟩ := info_parts info_tyC
  have HSL := hide hl
  have HG := hide hg
  have HH := hide H
  have HLN := hide hl.len
  clear hl hg H
  go_enter Tryd.func50, Tryd.ntmps50
  go_wp2_with (fail)
  go_loopw [3, 8] (fun vrow i wr => ∃ (j : Nat) (G : Nat → Prop), j ≤ n ∧ i = .int .i64 j ∧ OwnU wr w.heap.size 75 3 TyU G vrow j (l.take j) ∧ NewB G w.heap.size wr.heap.size ∧ Below w.heap.size w wr) (fun _ i _ => n - (intOf i).toNat)
  case atStart => exact ⟨0, fun _ => False, Nat.zero_le _, rfl, OwnU.nil _ _ _ _ _, fun b h => h.elim, Below.refl _ _⟩
  case round =>
    obtain ⟨j, G, hj, rfl, hown, hnew, hbe⟩ := hrel
    have hz := hbe.size
    obtain ⟨A0, q0, rfl⟩ := hown.sl
    have HOW := hide hown
    have HNW := hide hnew
    have HBE := hide hbe
    clear hown hnew
    by_cases hlt : j < n
    · obtain ⟨o, q, t, cs, rfl, hq, hp, hin, hcs⟩ := (tys_below HSL.out (hbe.mono hBw)).at_ hlt
      have hm := List.mem_of_getElem? hp
      have hgt := HG.out t hm
      cases f with
      | zero => exact hgt.elim
      | succ f =>
      cases k with
      | zero => exact hin.elim
      | succ k =>
      obtain ⟨g1, g2, g3, g4, g5, g6⟩ := hgt
      obtain ⟨PA, pn, pc, QA, qn, qc, rfl, hpnc, hpcm, hqnc, hqcm, hpl, hql⟩ := hin
      have hpln := hpl.len
      have hqln := hql.len
      have hpn20 : pn ≤ 20 := by
        by_cases hk1 : t.kind = 1
        · have := (g2 hk1).2.2; omega
        · have := (g3 hk1).1; rw [this] at hpln; simp at hpln; omega
      have hqn21 : qn ≤ 21 := by
        by_cases hk1 : t.kind = 1
        · have := (g2 hk1).1; rw [this] at hqln; simp at hqln; omega
        · have := (g3 hk1).2.2; omega
      have HPG := hide (show ∀ p ∈ t.name, p.2.length ≤ 20 ∧ ∀ x ∈ p.2, Good f x from fun p hp => ⟨(g5 p hp).2.1, (g5 p hp).2.2⟩)
      have HQG := hide g6
      obtain ⟨HHP, HHT⟩ := HH.out f rfl
      have HHP := hide HHP
      have HHT := hide HHT
      have HFT := hide (take_succ_get hp)
      have c0 : wr.cell? ⟨o, q + j * 3, none⟩ = some (.int .i64 t.kind) := by simpa using hcs 0 _ rfl
      have c1 : wr.cell? ⟨o, q + j * 3 + 1, none⟩ = some (.slice PA pn pc) := hcs 1 _ rfl
      have c2 : wr.cell? ⟨o, q + j * 3 + 2, none⟩ = some (.slice QA qn qc) := hcs 2 _ rfl
      have HPL := hide hpl
      have HQL := hide hql
      have hbx := below_2C wr (.cells #[.int .i64 t.kind, .slice PA pn pc, .slice QA qn qc] 75)
      have HBX := hide hbx
      have HXB := hide (show ((wr.alloc (.cells #[.int .i64 t.kind, .slice PA pn pc, .slice QA qn qc] 75)).drew).heap[wr.heap.size]? = some (.cells #[.int .i64 t.kind, .slice PA pn pc, .slice QA qn qc] 75) from heap_alloc_new wr (.cells #[.int .i64 t.kind, .slice PA pn pc, .slice QA qn qc] 75))
      clear hcs hm hp hpl hbx hbe hql g1 g2 g3 g4 g5 g6 HH
      go_wp2_with (fail)
      try (obtain ⟨wq, hwq⟩ : ∃ x, (wr.alloc (.cells #[.int .i64 t.kind, .slice PA pn pc, .slice QA qn qc] 75)) = x := ⟨_, rfl⟩)
      have hza : wr.heap.size ≤ wq.heap.size := by rw [← hwq]; simp
      rw [hwq] at HBX HXB ⊢
      clear hwq
      have hBq : B ≤ wq.drew.heap.size := by show B ≤ wq.heap.size; omega
      refine wp_region_chain (fun W => W.cell? ⟨wr.heap.size, 0, none⟩ = some (.int .i64 t.kind) ∧ W.cell? ⟨wr.heap.size, 1, none⟩ = some (.slice PA pn pc) ∧ W.cell? ⟨wr.heap.size, 2, none⟩ = some (.slice QA qn qc)) 11 (by as_aux_lemma => kernel_rfl) (N := 13) (by as_aux_lemma => kernel_rfl) ?_; intro hsh
      have HS : wq.drew.cell? ⟨wr.heap.size, 0, none⟩ = some (.int .i64 t.kind) ∧ wq.drew.cell? ⟨wr.heap.size, 1, none⟩ = some (.slice PA pn pc) ∧ wq.drew.cell? ⟨wr.heap.size, 2, none⟩ = some (.slice QA qn qc) := ⟨block_cell HXB.out 0, block_cell HXB.out 1, block_cell HXB.out 2⟩
      refine wpAnyC_take0 (i := 0) (k := 11) (v := ?_) (d := some 12) rfl (by rfl) (by as_aux_lemma => kernel_rfl) (by as_aux_lemma => kernel_rfl) (by as_aux_lemma => kernel_rfl) hsh (by decide) (by intro _ _ _ h; exact h) (by assumption) (Or.inl ⟨by rfl, ?hy⟩) ?_; (case hy => (intro W _; go_simp; (try with_reducible rfl))); clear hsh; intro hsh
      refine wpAnyC_take0 (i := 1) (k := 11) (v := ?_) (d := some 13) rfl (by rfl) (by as_aux_lemma => kernel_rfl) (by as_aux_lemma => kernel_rfl) (by as_aux_lemma => kernel_rfl) hsh (by decide) (by intro _ _ _ h; exact h) (by assumption) (Or.inl ⟨by rfl, ?hy⟩) ?_; (case hy => (intro W _; go_simp; (try with_reducible rfl))); clear hsh; intro hsh
      refine wpAnyC_take (i := 2) (k := 11) (f := 40) (v := ?_) (d := some 14) rfl (by rfl) (by as_aux_lemma => kernel_rfl) (by as_aux_lemma => kernel_rfl) (by as_aux_lemma => kernel_rfl) hsh (by decide) (by as_aux_lemma => kernel_rfl) (by intro _ _ _ h; exact h) (by assumption) (Or.inl ⟨by rfl, ?hy⟩) ?_; (case hy => (rintro W ⟨y0, y1, y2⟩; go_simp; (try with_reducible rfl))); clear hsh; intro hsh
      refine wpAnyC_take0 (i := 3) (k := 11) (v := ?_) (d := some 15) rfl (by rfl) (by as_aux_lemma => kernel_rfl) (by as_aux_lemma => kernel_rfl) (by as_aux_lemma => kernel_rfl) hsh (by decide) (by intro _ _ _ h; exact h) (by assumption) (Or.inl ⟨by rfl, ?hy⟩) ?_; (case hy => (intro W _; go_simp; (try with_reducible rfl))); clear hsh; intro hsh
      refine wpAnyC_take (i := 4) (k := 11) (f := 40) (v := ?_) (d := some 16) rfl (by rfl) (by as_aux_lemma => kernel_rfl) (by as_aux_lemma => kernel_rfl) (by as_aux_lemma => kernel_rfl) hsh (by decide) (by as_aux_lemma => kernel_rfl) (by intro _ _ _ h; exact h) (by assumption) (Or.inl ⟨by rfl, ?hy⟩) ?_; (case hy => (rintro W ⟨y0, y1, y2⟩; go_simp; (try with_reducible rfl))); clear hsh; intro hsh
      refine wpAnyC_take0 (i := 6) (k := 11) (v := ?_) (d := some 18) rfl (by rfl) (by as_aux_lemma => kernel_rfl) (by as_aux_lemma => kernel_rfl) (by as_aux_lemma => kernel_rfl) hsh (by decide) (by intro _ _ _ h; exact h) (by assumption) (Or.inl ⟨by rfl, ?hy⟩) ?_; (case hy => (intro W _; go_simp; (try with_reducible rfl))); clear hsh; intro hsh
      refine wpAnyC_take (i := 7) (k := 11) (f := 40) (v := ?_) (d := some 19) rfl (by rfl) (by as_aux_lemma => kernel_rfl) (by as_aux_lemma => kernel_rfl) (by as_aux_lemma => kernel_rfl) hsh (by decide) (by as_aux_lemma => kernel_rfl) (by intro _ _ _ h; exact h) (by assumption) (Or.inl ⟨by rfl, ?hy⟩) ?_; (case hy => (rintro W ⟨y0, y1, y2⟩; go_simp; (try with_reducible rfl))); clear hsh; intro hsh
      refine wpAnyC_ready (rs := [5]) (by as_aux_lemma => kernel_rfl) (by simp) ?_; refine AllC.cons (i := 5) rfl (by as_aux_lemma => kernel_rfl) hsh (fun K hK => ?_) AllC.nil
      go_simp
      go_at_call 49
      refine (HHP.out k PA pn pc t.name B wq.drew hBq hpnc hpcm hpn20 (parts_below HPL.out (HBX.out.mono (Nat.le_trans hBw hz))) HPG.out).mono ?_
      rintro e w1 ⟨A1, c1, G1, rfl, hq1, hm1, hs1, hn1, hb1⟩
      have HX1 := hide (block_below HXB.out hb1)
      try go_simp
      refine hK _ _ (fun _ => ⟨block_cell HX1.out 0, block_cell HX1.out 1, block_cell HX1.out 2⟩) ?_
      clear hK K hsh HS
      intro hsh
      have HS : w1.cell? ⟨wr.heap.size, 0, none⟩ = some (.int .i64 t.kind) ∧ w1.cell? ⟨wr.heap.size, 1, none⟩ = some (.slice PA pn pc) ∧ w1.cell? ⟨wr.heap.size, 2, none⟩ = some (.slice QA qn qc) := ⟨block_cell HX1.out 0, block_cell HX1.out 1, block_cell HX1.out 2⟩
      refine wpAnyC_ready (rs := [8]) (by as_aux_lemma => kernel_rfl) (by simp) ?_; refine AllC.cons (i := 8) rfl (by as_aux_lemma => kernel_rfl) hsh (fun K hK => ?_) AllC.nil
      go_simp
      go_at_call 50
      refine (HHT.out k QA qn qc t.of B w1 (Nat.le_trans hBq hb1.size) hqnc hqcm hqn21 (tys_below HQL.out ((HBX.out.trans (hb1.mono HBX.out.size)).mono (Nat.le_trans hBw hz))) HQG.out).mono ?_
      rintro e w2 ⟨A2, c2, G2, rfl, hq2, hm2, hs2, hn2, hb2⟩
      have HX2 := hide (block_below HX1.out hb2)
      try go_simp
      refine hK _ _ (fun _ => ⟨block_cell HX2.out 0, block_cell HX2.out 1, block_cell HX2.out 2⟩) ?_
      clear hK K hsh HS
      intro hsh
      have HS : w2.cell? ⟨wr.heap.size, 0, none⟩ = some (.int .i64 t.kind) ∧ w2.cell? ⟨wr.heap.size, 1, none⟩ = some (.slice PA pn pc) ∧ w2.cell? ⟨wr.heap.size, 2, none⟩ = some (.slice QA qn qc) := ⟨block_cell HX2.out 0, block_cell HX2.out 1, block_cell HX2.out 2⟩
      refine wpAnyC_take0 (i := 9) (k := 11) (v := ?_) (d := some 21) rfl (by rfl) (by as_aux_lemma => kernel_rfl) (by as_aux_lemma => kernel_rfl) (by as_aux_lemma => kernel_rfl) hsh (by decide) (by intro _ _ _ h; exact h) (by assumption) (Or.inl ⟨by rfl, ?hy⟩) ?_; (case hy => (intro W _; go_simp; (try with_reducible rfl))); clear hsh; intro hsh
      refine wpAnyC_ready (rs := [10]) (by as_aux_lemma => kernel_rfl) (by simp) ?_; refine AllC.cons (i := 10) rfl (by as_aux_lemma => kernel_rfl) hsh (fun K hK => ?_) AllC.nil
      go_simp
      have hbt : Below wr.heap.size wr w2 := (HBX.out.trans (hb1.mono HBX.out.size)).trans (hb2.mono (HBX.out.trans (hb1.mono HBX.out.size)).size)
      have HBT := hide hbt
      have hzt := hbt.size
      have HBN : Hid (Below w2.heap.size w2 (w2.alloc (.cells #[.int .i64 t.kind, .slice A1 pn c1, .slice A2 qn c2] 75))) := hide ((Below.refl _ _).alloc (Nat.le_refl _) _)
      refine hK _ _ (fun _ => ⟨block_cell (block_below HX2.out HBN.out) 0, block_cell (block_below HX2.out HBN.out) 1, block_cell (block_below HX2.out HBN.out) 2⟩) ?_
      clear hK K hsh HS
      intro hsh
      refine wpAnyC_tail (by as_aux_lemma => kernel_rfl) (by simp) (by as_aux_lemma => kernel_rfl) ?_; simp only [List.drop_succ_cons, List.drop_zero]; clear hsh
      go_simp
      have hzb : wq.drew.heap.size = wq.heap.size := rfl
      have HOW1 := hide (HOW.out.step (F' := (fun b => G b ∨ G1 b ∨ G2 b)) stay_tyU ⟨hzt, fun b o _ e => block_below e HBT.out⟩ (fun _ h => .inl h) (fun b hb => by
        rcases hb with hb | hb | hb
        · exact .inl hb
        · have := (hn1 b hb).1; exact .inr (by omega)
        · have := (hn2 b hb).1; have := hb1.size; exact .inr (by omega)
        ))
      have HNG := hide (show NewB (fun b => G b ∨ G1 b ∨ G2 b) w.heap.size w2.heap.size from fun b hb => by
        rcases hb with hb | hb | hb
        · have := HNW.out b hb; omega
        · have := hn1 b hb; have := hb2.size; omega
        · have := hn2 b hb; have := hb1.size; omega
        )
      have HEL := hide (ty_both (hs1.stay (S' := fun b => G b ∨ G1 b ∨ G2 b) (R' := PartU w2 (fun b => G b ∨ G1 b ∨ G2 b)) ⟨hb2.size, fun b o _ e => block_below e hb2⟩ (fun _ h _ => .inr (.inl h)) (fun a _ cs h => stay_partU _ _ _ _ a cs h ⟨hb2.size, fun b o _ e => block_below e hb2⟩ (fun _ h _ => .inr (.inl h)))) (hs2.stay (S' := fun b => G b ∨ G1 b ∨ G2 b) (R' := TyU w2 (fun b => G b ∨ G1 b ∨ G2 b)) (StayS.refl _ _) (fun _ h _ => .inr (.inr h)) (fun a _ cs h => stay_tyU _ _ _ _ a cs h (StayS.refl _ _) (fun _ h _ => .inr (.inr h)))) hq1 hm1 hq2 hm2)
      refine wpList_append_own_at _ (by rfl) (.tmp 12) (.tmp 22) 23 (by rfl) w.heap.size 75 i0 (.agg #[.int .i64 0, .slice none 0 0, .slice none 0 0]) 3 56 Tryd.underlying23 hi0 iz0 iz1 iz2 rfl (by decide) (.slice A0 j q0) j HOW1.out.choose.flatten (by rfl) (HOW1.out.choose_spec.1.alloc _) ⟨w2.heap.size, 0, none⟩ 1 1 [.int .i64 t.kind, .slice A1 pn c1, .slice A2 qn c2] (by rfl) (by rfl) (cells_new w2 [.int .i64 t.kind, .slice A1 pn c1, .slice A2 qn c2] _) (by intro u hu; simp at hu; rcases hu with rfl | rfl | rfl <;> rfl) (by unfold maxLen; omega) (by omega) (by simp; omega) ?_
      intro v3 w3 hown3 hg3 _ hv3
      have HOW3 := hide (HOW1.out.push stay_tyU (fun b hb => (HNG.out b hb).2) rfl HEL.out HBN.out hown3 hg3 hv3)
      have HB3 := hide (((HBE.out.trans (HBT.out.mono hz)).trans (HBN.out.mono (Nat.le_trans hz hzt))).grown hg3 (by simp; omega) (fun b hb => (HOW1.out.lt b hb).1))
      have hz3 : w2.heap.size ≤ w3.heap.size := by have := hg3.size; have := HBN.out.size; omega
      clear hown3 hg3 hv3
      go_wp2_with (fail)
      go_roundw
      case rel => exact ⟨j + 1, (fun b => G b ∨ G1 b ∨ G2 b), by omega, by go_num, by rw [HFT.out]; exact HOW3.out, fun b hb => by have := HNG.out b hb; omega, HB3.out⟩
      case measure => simp [intOf]; omega
    · obtain rfl : j = n := by omega
      have htk : l.take j = l := take_len l (by rw [HLN.out]; exact Nat.le_refl _)
      rw [htk] at HOW
      clear htk hbe
      go_wp2_with (fail)
      go_ret
      obtain ⟨A9, q9, hv9, h1, h2, h3⟩ := HOW.out.done stay_tyU
      injection hv9 with e1 e2 e3
      subst e1 e3
      refine ⟨A0, q0, _, rfl, h1, h2, h3, fun b hb => ?_, HBE.out⟩
      rcases hb with hb | hb
      · exact HNW.out b hb
      · exact HOW.out.lt b hb
theorem nCp_all : ∀ f, nCpParts f ∧ nCpTys f
  | 0 => have h := nCpTys_of (f := 0) (fun g e => by omega); ⟨nCpParts_of h, h⟩
  | f + 1 => have h := nCpTys_of (f := f + 1) (fun g e => by (obtain rfl : f = g := (by omega)); exact nCp_all f); ⟨nCpParts_of h, h⟩
end Go.Proofs.YtocpmbpckbjepaaDoor
