/- Walk of the closure 'become' of the reference's Tick. -/
import Derived.Test.YtmakkdadhhpapaaDoorAlRkL
namespace Go.Proofs.YtmakkdadhhpapaaDoor
open Go.RowKit
set_option linter.unusedVariables false
set_option linter.unusedSimpArgs false
set_option maxRecDepth 100000 in
set_option maxHeartbeats 8000000 in
theorem rBec_any {B base rw_ b3 n m : Nat} {R : Option Addr} {cr : Nat} {cv kv sv : Value} {sn : Nat} {rl : List Rl} {cs : List Ct} {ks : List Bool} {sl : List Sil} {t : Int} {P : Nat → Prop} {w0 : World} {q9 q10 rb j : Nat} {x : Rl} {ov : Value} {ns : List Nt} {l : List Stt} {w : World} {sc : Nat}
    (h : RkJ B base rw_ b3 n m R cr cv kv sv (.slice (some ⟨rb, 0, none⟩) n sc) sn rl cs ks sl t P w0 q9 q10 rb j x ov ns l w) {s : Stt} (hx : l[j]? = some s) (hB : B ≤ base) (hP : P rb) (hn : 0 < n) (a : Int) :
    Calls Tryd.prog 38 #[.int .i64 a, .pointer (some ⟨b3, 0, none⟩), .pointer (some ⟨q10, 0, none⟩)] w fun e w' => e = .returned (.tuple #[]) ∧ RkJ B base rw_ b3 n m R cr cv kv sv (.slice (some ⟨rb, 0, none⟩) n sc) sn rl cs ks sl t P w0 q9 q10 rb j x ov ns (l.set j ⟨s.rule, a, t, s.value⟩) w' := by
  have HS := h.xs hx
  have HE := hide ((h.drewN 1).setSt hx hB hP hn a t)
  have HNE := hide (show q10 ≠ rb by obtain ⟨_, cu, hbk⟩ := row_blk h.i.strow hn; exact ne_of_type h.q10 hbk (by decide))
  have HNE3 := hide (show b3 ≠ rb by obtain ⟨_, cu, hbk⟩ := row_blk h.i.strow hn; exact ne_of_type h.i.x3 hbk (by decide))
  obtain ⟨r0, r1, r2, r3, r4, r5, r6, p, y3, s0, s1, s2, s3, f1, f2, f3⟩ := HS
  clear h r0 r1 r2 r3 r4 r5 r6 s0 s3 f3
  go_enter Tryd.func38, Tryd.ntmps38
  go_wp2_with (fail)
  refine wp_region_chain (fun W => W.cell? ⟨q10, 0, none⟩ = some (.pointer (some ⟨rb, j * 4, none⟩)) ∧ W.cell? ⟨b3, 0, none⟩ = some (.int .i64 t)) 9 (by kernel_rfl) (N := 10) (by kernel_rfl) ?_; intro hsh
  have HS0 : w.drew.cell? ⟨q10, 0, none⟩ = some (.pointer (some ⟨rb, j * 4, none⟩)) ∧ w.drew.cell? ⟨b3, 0, none⟩ = some (.int .i64 t) := ⟨p, y3⟩
  refine wpAnyC_take (i := 0) (k := 9) (f := 40) (v := ?_) rfl (by rfl) (by kernel_rfl) (by kernel_rfl) (by kernel_rfl) hsh (by decide) (by kernel_rfl) (by intro _ _ _ h; exact h) (by assumption) (Or.inl ⟨by rfl, ?hy⟩) ?_; (case hy => (rintro W ⟨y0, y1⟩; go_simp; (try with_reducible rfl))); clear hsh; intro hsh
  refine wpAnyC_take (i := 1) (k := 9) (f := 40) (v := ?_) rfl (by rfl) (by kernel_rfl) (by kernel_rfl) (by kernel_rfl) hsh (by decide) (by kernel_rfl) (by intro _ _ _ h; exact h) (by assumption) (Or.inl ⟨by rfl, ?hy⟩) ?_; (case hy => (rintro W ⟨y0, y1⟩; go_simp; (try with_reducible rfl))); clear hsh; intro hsh
  refine wpAnyC_take0 (i := 2) (k := 9) (v := ?_) rfl (by rfl) (by kernel_rfl) (by kernel_rfl) (by kernel_rfl) hsh (by decide) (by intro _ _ _ h; exact h) (by assumption) (Or.inl ⟨by rfl, ?hy⟩) ?_; (case hy => (intro W _; go_simp; (try with_reducible rfl))); clear hsh; intro hsh
  refine wpAnyC_take (i := 3) (k := 9) (f := 40) (v := ?_) rfl (by rfl) (by kernel_rfl) (by kernel_rfl) (by kernel_rfl) hsh (by decide) (by kernel_rfl) (by intro _ _ _ h; exact h) (by assumption) (Or.inl ⟨by rfl, ?hy⟩) ?_; (case hy => (rintro W ⟨y0, y1⟩; go_simp; (try with_reducible rfl))); clear hsh; intro hsh
  refine wpAnyC_take0 (i := 4) (k := 9) (v := ?_) rfl (by rfl) (by kernel_rfl) (by kernel_rfl) (by kernel_rfl) hsh (by decide) (by intro _ _ _ h; exact h) (by assumption) (Or.inl ⟨by rfl, ?hy⟩) ?_; (case hy => (intro W _; go_simp; (try with_reducible rfl))); clear hsh; intro hsh
  refine wpAnyC_take0 (i := 5) (k := 9) (v := ?_) rfl (by rfl) (by kernel_rfl) (by kernel_rfl) (by kernel_rfl) hsh (by decide) (by intro _ _ _ h; exact h) (by assumption) (Or.inl ⟨by rfl, ?hy⟩) ?_; (case hy => (intro W _; go_simp; (try with_reducible rfl))); clear hsh; intro hsh
  refine wpAnyC_ready (rs := [6]) (by kernel_rfl) (by simp) ?_; refine AllC.cons (i := 6) rfl (by kernel_rfl) hsh (fun K hK => ?_) AllC.nil
  go_simp
  refine hK _ _ (fun _ => ⟨(World.cell?_setCell_other _ _ _ _ (fun e => HNE.out (congrArg Addr.block e).symm)).trans p, (World.cell?_setCell_other _ _ _ _ (fun e => HNE3.out (congrArg Addr.block e).symm)).trans y3⟩) ?_
  clear hK K hsh HS0
  intro hsh
  have HS0 : (w.drew.setCell ⟨rb, j * 4 + 1, none⟩ (.int .i64 a)).cell? ⟨q10, 0, none⟩ = some (.pointer (some ⟨rb, j * 4, none⟩)) ∧ (w.drew.setCell ⟨rb, j * 4 + 1, none⟩ (.int .i64 a)).cell? ⟨b3, 0, none⟩ = some (.int .i64 t) := ⟨(World.cell?_setCell_other _ _ _ _ (fun e => HNE.out (congrArg Addr.block e).symm)).trans p, (World.cell?_setCell_other _ _ _ _ (fun e => HNE3.out (congrArg Addr.block e).symm)).trans y3⟩
  refine wpAnyC_take0 (i := 7) (k := 9) (v := ?_) rfl (by rfl) (by kernel_rfl) (by kernel_rfl) (by kernel_rfl) hsh (by decide) (by intro _ _ _ h; exact h) (by assumption) (Or.inl ⟨by rfl, ?hy⟩) ?_; (case hy => (intro W _; go_simp; (try with_reducible rfl))); clear hsh; intro hsh
  refine wpAnyC_take0 (i := 8) (k := 9) (v := ?_) rfl (by rfl) (by kernel_rfl) (by kernel_rfl) (by kernel_rfl) hsh (by decide) (by intro _ _ _ h; exact h) (by assumption) (Or.inl ⟨by rfl, ?hy⟩) ?_; (case hy => (intro W _; go_simp; (try with_reducible rfl))); clear hsh; intro hsh
  refine wpAnyC_tail (by kernel_rfl) (by simp) (by kernel_rfl) ?_; simp only [List.drop_succ_cons, List.drop_zero]; clear hsh
  go_wp2_with (fail)
  go_end0
  exact ⟨rfl, HE.out⟩
end Go.Proofs.YtmakkdadhhpapaaDoor
