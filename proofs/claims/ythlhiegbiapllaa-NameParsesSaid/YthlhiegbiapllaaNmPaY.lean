/- Walks of the parsers' types and list (printed by gen_pt.py). -/
import Derived.Test.YthlhiegbiapllaaNmPaT
namespace Go.Proofs.Ythlhiegbiapllaa
open Go.RowKit
set_option linter.unusedVariables false
set_option linter.unusedSimpArgs false
theorem info_ty : (Try.prog.info? 52).map (fun i => (i.zero, i.size, i.bytes)) = some (some (.agg #[.int .i64 0, .slice none 0 0, .slice none 0 0]), 3, 56) := by kernel_rfl
/-- What the call of 'one' answers, f types from the bottom. -/
def nOneOk (f : Nat) : Prop := ∀ (c : Nat) (s : ByteArray) (i : Nat) (d : Int) (w : World), s.size ≤ 8000 → i ≤ s.size → d = 12 - (f : Int) → w.heap[c]? = some (.cells #[.string s, .int .i64 i, .int .i64 (-1)] 58 (0, 0)) →
  Calls Try.prog 56 #[.pointer (some ⟨c, 0, none⟩), .int .i64 d] w fun e w' => ∃ (k : Int) (A : Option Addr) (n q : Nat) (A' : Option Addr) (n' q' : Nat), e = .returned (.agg #[.int .i64 k, .slice A n q, .slice A' n' q']) ∧
    After c 58 s w (pOne s f i) w' ∧ ∀ j t, pOne s f i = .ok j t → TyR f w' (fun b => w.heap.size ≤ b) t [.int .i64 k, .slice A n q, .slice A' n' q']
def nTysOk (f : Nat) : Prop := ∀ (c : Nat) (s : ByteArray) (i : Nat) (d : Int) (w : World), s.size ≤ 8000 → i ≤ s.size → d = 12 - (f : Int) → w.heap[c]? = some (.cells #[.string s, .int .i64 i, .int .i64 (-1)] 58 (0, 0)) →
  Calls Try.prog 31 #[.pointer (some ⟨c, 0, none⟩), .int .i64 d] w fun e w' => ∃ (A : Option Addr) (n q : Nat), e = .returned (.slice A n q) ∧ n ≤ s.size + 1 ∧ OwnAny w' w.heap.size 52 3 (.slice A n q) n ∧
    After c 58 s w (pTys s (pOne s f) (s.size + 1) [] i) w' ∧ ∀ j l, pTys s (pOne s f) (s.size + 1) [] i = .ok j l → TysNew f w w' A n q l
set_option maxRecDepth 100000 in
set_option maxHeartbeats 8000000 in
theorem nTys_of {f : Nat} (H : nOneOk f) : nTysOk f := by
  intro c s i d w hs hi hd h
  obtain ⟨i0, hi0, iz0, iz1, iz2⟩ := info_parts info_ty
  have HP := hide (Pb.start h)
  have hcw := lt_of_block h
  have HONE := hide H
  have HD := hide hd
  clear h H hd
  obtain ⟨R, hR⟩ : ∃ R, pTys s (pOne s f) (s.size + 1) [] i = R := ⟨_, rfl⟩
  rw [hR]
  have HRR := hide hR
  clear hR
  go_enter Try.func31, Try.ntmps31
  go_wp2_with (fail)
  go_loopw [5] (fun vrow wr => (∃ (n g i : Nat) (acc : List Ty), OwnT wr w.heap.size 52 3 (TyR f) vrow n acc ∧ n ≤ i ∧ i ≤ s.size ∧ s.size < i + g ∧ pTys s (pOne s f) g acc i = R ∧ Pb c 58 s i (-1) w wr) ∨
    (∃ (A : Option Addr) (n q e i : Nat), vrow = .slice A n q ∧ n ≤ s.size + 1 ∧ OwnAny wr w.heap.size 52 3 (.slice A n q) n ∧ R = .bad e ∧ i ≤ s.size ∧ Pb c 58 s i e w wr)) (fun _ wr => onOf c wr * (s.size - atOf c wr + 1))
  case atStart => exact .inl ⟨0, s.size + 1, i, [], OwnT.nil _ _ _ _, Nat.zero_le _, hi, by omega, HRR.out, HP.out⟩
  case round =>
    rcases hrel with ⟨n, g, x, acc, hown, hnx, hx, hg, hR, hp⟩ | ⟨A, n, q, e, x, rfl, hn8, hoa, hR, hx, hp⟩
    · obtain ⟨g, rfl⟩ : ∃ g', g = g' + 1 := ⟨g - 1, by omega⟩
      have c1 := hp.c1
      have c2 := hp.c2
      have hzw := hp.size
      have HQ := hide hp
      have HOW := hide hown
      have HR := hide hR
      have HMS := hide (show onOf c wr * (s.size - atOf c wr + 1) = s.size - x + 1 by rw [atOf_pb hp, onOf_on hp, Nat.one_mul])
      have HC := hide (HONE.out c s x d wr hs hx HD.out hp.box)
      have HXF := hide (pOne_from s f x hx)
      clear hown hp hR
      cases hr : pOne s f x with
      | bad e =>
        have HE := hide (HR.out.symm.trans (pTys_bad hr))
        have HC1 := hide (show Calls Try.prog 56 #[.pointer (some ⟨c, 0, none⟩), .int .i64 d] wr fun ee w' => ∃ (k : Int) (A : Option Addr) (n q : Nat) (A' : Option Addr) (n' q' : Nat), ee = .returned (.agg #[.int .i64 k, .slice A n q, .slice A' n' q']) ∧ ∃ i : Nat, i ≤ s.size ∧ Pb c 58 s i e wr w' from HC.out.mono fun ee w' ⟨k, A, n, q, A', n', q', h1, h2, _⟩ => ⟨k, A, n, q, A', n', q', h1, h2.bad hr⟩)
        clear hr
        go_wp2_with (first
          | (go_at_call 56; refine HC1.out.mono ?_; rintro r w1 ⟨k, A1, n1, q1, A2, n2, q2, rfl, y, hy, hq1⟩; have HO1 := hide (HOW.out.butAt (stay_ty f) hq1.bu hcw); have HQ1 := hide (HQ.out.trans hq1); have hz1 := (HQ.out.trans hq1).size; clear hq1)
          | (at_builtin; refine wpList_append_own_at _ rfl (.tmp 11) (.tmp 15) 23 rfl w.heap.size 52 i0 (.agg #[.int .i64 0, .slice none 0 0, .slice none 0 0]) 3 56 Try.underlying23 hi0 iz0 iz1 iz2 rfl (by decide) _ n _ rfl (HO1.out.choose_spec.1.alloc _) ⟨w1.heap.size, 0, none⟩ 1 1 [.int .i64 k, .slice A1 n1 q1, .slice A2 n2 q2] rfl rfl (cells_new w1 [.int .i64 k, .slice A1 n1 q1, .slice A2 n2 q2] _) (by intro u hu; simp at hu; rcases hu with rfl | rfl | rfl <;> rfl) (by unfold maxLen; omega) (by omega) (by simp; try omega) ?_; intro v1 w2 hown1 hg1 _ _; obtain ⟨ao, cp, rfl⟩ := own_sliceP hown1; have HQ2 := hide (HQ1.out.grown hg1 HO1.out.lt (Nat.le_refl _) hcw); have HO2 := hide (show OwnAny w2 w.heap.size 52 3 (.slice ao (n + 1) cp) (n + 1) from ⟨_, hown1⟩); clear hown1 hg1)
          | (go_at_call 30; refine (nIs_off c s y e 44 _ (by omega) HQ2.out.box).mono ?_; rintro r w3 ⟨rfl, hq3⟩; have HQ3 := hide (HQ2.out.trans hq3); have HO3 := hide (HO2.out.butAt hq3.bu hcw); clear hq3))
        go_ret
        exact ⟨ao, n + 1, cp, rfl, by omega, HO3.out, After.of_bad HE.out hy HQ3.out, fun j l h => by rw [HE.out] at h; cases h⟩
      | ok y t =>
        have HXY := hide (show x ≤ y ∧ y ≤ s.size by have := HXF.out; rw [hr] at this; exact this)
        have hxy := HXY.out.1
        have hys := HXY.out.2
        have HC1 := hide (show Calls Try.prog 56 #[.pointer (some ⟨c, 0, none⟩), .int .i64 d] wr fun ee w' => ∃ (k : Int) (A : Option Addr) (n q : Nat) (A' : Option Addr) (n' q' : Nat), ee = .returned (.agg #[.int .i64 k, .slice A n q, .slice A' n' q']) ∧ Pb c 58 s y (-1) wr w' ∧ TyR f w' (fun b => wr.heap.size ≤ b) t [.int .i64 k, .slice A n q, .slice A' n' q'] from HC.out.mono fun ee w' ⟨k, A, n, q, A', n', q', h1, h2, h3⟩ => ⟨k, A, n, q, A', n', q', h1, h2.ok hr, h3 _ _ hr⟩)
        have HPR := hide hr
        obtain ⟨v, hv⟩ : ∃ v, isB s y 44 = v := ⟨_, rfl⟩
        clear hr
        cases v
        · have HE := hide (HR.out.symm.trans (pTys_end HPR.out hv))
          have HIS := hide (fun W h => nIs_no c s y 44 W hs hys hv h)
          clear hv
          go_wp2_with (first
            | (go_at_call 56; refine HC1.out.mono ?_; rintro r w1 ⟨k, A1, n1, q1, A2, n2, q2, rfl, hq1, hty⟩; have HO1 := hide (HOW.out.butAt (stay_ty f) hq1.bu hcw); have HQ1 := hide (HQ.out.trans hq1); have HTY := hide hty; have hz1 := (HQ.out.trans hq1).size; have HSB := hide (show ∀ b, wr.heap.size ≤ b → b < w1.heap.size → (w.heap.size ≤ b ∧ u5.ownBlock ≠ some b) from fun b h1 _ => ⟨by omega, fun e => by have := (HOW.out.lt b e).2; omega⟩); clear hq1 hty)
            | (at_builtin; refine wpList_append_own_at _ rfl (.tmp 11) (.tmp 15) 23 rfl w.heap.size 52 i0 (.agg #[.int .i64 0, .slice none 0 0, .slice none 0 0]) 3 56 Try.underlying23 hi0 iz0 iz1 iz2 rfl (by decide) _ n _ rfl (HO1.out.choose_spec.1.alloc _) ⟨w1.heap.size, 0, none⟩ 1 1 [.int .i64 k, .slice A1 n1 q1, .slice A2 n2 q2] rfl rfl (cells_new w1 [.int .i64 k, .slice A1 n1 q1, .slice A2 n2 q2] _) (by intro u hu; simp at hu; rcases hu with rfl | rfl | rfl <;> rfl) (by unfold maxLen; omega) (by omega) (by simp; try omega) ?_; intro v1 w2 hown1 hg1 _ hv1; obtain ⟨ao, cp, rfl⟩ := own_sliceP hown1; have HQ2 := hide (HQ1.out.grown hg1 HO1.out.lt (Nat.le_refl _) hcw); have HO2 := hide (OwnT.push1 (stay_ty f) HO1.out rfl (stay_ty f _ _ _ _ _ _ HTY.out (StayS.refl _ _) HSB.out) hown1 hg1 hv1); clear hown1 hg1 hv1)
            | (go_at_call 30; refine (HIS.out _ HQ2.out.box).mono ?_; rintro r w3 ⟨rfl, hq3⟩; have HQ3 := hide (HQ2.out.trans hq3); have HO3 := hide (HO2.out.butAt (stay_ty f) hq3.bu hcw); clear hq3))
          go_ret
          exact ⟨_, n + 1, _, rfl, by omega, HO3.out.any, After.of_ok HE.out HQ3.out, fun j l h => by rw [HE.out] at h; cases h; exact HO3.out⟩
        · have HIS := hide (fun W h => nIs_yes c s y 44 W hs hys hv h)
          cases hn : needB s [32] (y + 1) with
          | bad e =>
            have HE := hide (HR.out.symm.trans (pTys_no HPR.out hv hn))
            have HTK := hide (show ∀ W, W.heap[c]? = some (.cells #[.string s, .int .i64 y, .int .i64 (-1)] 58 (0, 0)) → Calls Try.prog 29 #[.pointer (some ⟨c, 0, none⟩), .string ⟨#[44, 32]⟩] W fun r w' => r = .returned (.tuple #[]) ∧ ∃ i : Nat, i ≤ s.size ∧ Pb c 58 s i e W w' from fun W h => (nTake_on c s ⟨#[44, 32]⟩ y W hs (by decide) hys h).mono fun r w' ⟨h1, h2⟩ => ⟨h1, h2.bad ((need_two hv).trans hn)⟩)
            clear hn hv
            go_wp2_with (first
              | (go_at_call 56; refine HC1.out.mono ?_; rintro r w1 ⟨k, A1, n1, q1, A2, n2, q2, rfl, hq1, hty⟩; have HO1 := hide (HOW.out.butAt (stay_ty f) hq1.bu hcw); have HQ1 := hide (HQ.out.trans hq1); have HTY := hide hty; have hz1 := (HQ.out.trans hq1).size; have HSB := hide (show ∀ b, wr.heap.size ≤ b → b < w1.heap.size → (w.heap.size ≤ b ∧ u5.ownBlock ≠ some b) from fun b h1 _ => ⟨by omega, fun e => by have := (HOW.out.lt b e).2; omega⟩); clear hq1 hty)
              | (at_builtin; refine wpList_append_own_at _ rfl (.tmp 11) (.tmp 15) 23 rfl w.heap.size 52 i0 (.agg #[.int .i64 0, .slice none 0 0, .slice none 0 0]) 3 56 Try.underlying23 hi0 iz0 iz1 iz2 rfl (by decide) _ n _ rfl (HO1.out.choose_spec.1.alloc _) ⟨w1.heap.size, 0, none⟩ 1 1 [.int .i64 k, .slice A1 n1 q1, .slice A2 n2 q2] rfl rfl (cells_new w1 [.int .i64 k, .slice A1 n1 q1, .slice A2 n2 q2] _) (by intro u hu; simp at hu; rcases hu with rfl | rfl | rfl <;> rfl) (by unfold maxLen; omega) (by omega) (by simp; try omega) ?_; intro v1 w2 hown1 hg1 _ hv1; obtain ⟨ao, cp, rfl⟩ := own_sliceP hown1; have HQ2 := hide (HQ1.out.grown hg1 HO1.out.lt (Nat.le_refl _) hcw); have HO2 := hide (OwnT.push1 (stay_ty f) HO1.out rfl (stay_ty f _ _ _ _ _ _ HTY.out (StayS.refl _ _) HSB.out) hown1 hg1 hv1); clear hown1 hg1 hv1)
              | (go_at_call 30; refine (HIS.out _ HQ2.out.box).mono ?_; rintro r w3 ⟨rfl, hq3⟩; have HQ3 := hide (HQ2.out.trans hq3); have HO3 := hide (HO2.out.any.butAt hq3.bu hcw); clear hq3)
              | (go_at_call 29; refine (HTK.out _ HQ3.out.box).mono ?_; rintro r w4 ⟨rfl, z, hz4, hq4⟩; have HQ4 := hide (HQ3.out.trans hq4); have HO4 := hide (HO3.out.butAt hq4.bu hcw); clear hq4))
            go_roundw
            case rel => exact .inr ⟨ao, n + 1, cp, e, z, rfl, by omega, HO4.out, HE.out, hz4, HQ4.out⟩
            case measure => rw [HMS.out, onOf_off HQ4.out, atOf_pb HQ4.out]; rw [Nat.zero_mul]; omega
          | ok z u =>
            have HE := hide ((pTys_go HPR.out hv hn).symm.trans HR.out)
            have hz := needB_ok s [32] (y + 1) z u (get_lt (isB_true hv)) hn
            have hz1 : z = y + 2 := by simpa using hz.1
            have hz2 := hz.2
            have HTK := hide (show ∀ W, W.heap[c]? = some (.cells #[.string s, .int .i64 y, .int .i64 (-1)] 58 (0, 0)) → Calls Try.prog 29 #[.pointer (some ⟨c, 0, none⟩), .string ⟨#[44, 32]⟩] W fun r w' => r = .returned (.tuple #[]) ∧ Pb c 58 s z (-1) W w' from fun W h => (nTake_on c s ⟨#[44, 32]⟩ y W hs (by decide) hys h).mono fun r w' ⟨h1, h2⟩ => ⟨h1, h2.ok ((need_two hv).trans hn)⟩)
            clear hn hv hz
            go_wp2_with (first
              | (go_at_call 56; refine HC1.out.mono ?_; rintro r w1 ⟨k, A1, n1, q1, A2, n2, q2, rfl, hq1, hty⟩; have HO1 := hide (HOW.out.butAt (stay_ty f) hq1.bu hcw); have HQ1 := hide (HQ.out.trans hq1); have HTY := hide hty; have hz1 := (HQ.out.trans hq1).size; have HSB := hide (show ∀ b, wr.heap.size ≤ b → b < w1.heap.size → (w.heap.size ≤ b ∧ u5.ownBlock ≠ some b) from fun b h1 _ => ⟨by omega, fun e => by have := (HOW.out.lt b e).2; omega⟩); clear hq1 hty)
              | (at_builtin; refine wpList_append_own_at _ rfl (.tmp 11) (.tmp 15) 23 rfl w.heap.size 52 i0 (.agg #[.int .i64 0, .slice none 0 0, .slice none 0 0]) 3 56 Try.underlying23 hi0 iz0 iz1 iz2 rfl (by decide) _ n _ rfl (HO1.out.choose_spec.1.alloc _) ⟨w1.heap.size, 0, none⟩ 1 1 [.int .i64 k, .slice A1 n1 q1, .slice A2 n2 q2] rfl rfl (cells_new w1 [.int .i64 k, .slice A1 n1 q1, .slice A2 n2 q2] _) (by intro u hu; simp at hu; rcases hu with rfl | rfl | rfl <;> rfl) (by unfold maxLen; omega) (by omega) (by simp; try omega) ?_; intro v1 w2 hown1 hg1 _ hv1; obtain ⟨ao, cp, rfl⟩ := own_sliceP hown1; have HQ2 := hide (HQ1.out.grown hg1 HO1.out.lt (Nat.le_refl _) hcw); have HO2 := hide (OwnT.push1 (stay_ty f) HO1.out rfl (stay_ty f _ _ _ _ _ _ HTY.out (StayS.refl _ _) HSB.out) hown1 hg1 hv1); clear hown1 hg1 hv1)
              | (go_at_call 30; refine (HIS.out _ HQ2.out.box).mono ?_; rintro r w3 ⟨rfl, hq3⟩; have HQ3 := hide (HQ2.out.trans hq3); have HO3 := hide (HO2.out.butAt (stay_ty f) hq3.bu hcw); clear hq3)
              | (go_at_call 29; refine (HTK.out _ HQ3.out.box).mono ?_; rintro r w4 ⟨rfl, hq4⟩; have HQ4 := hide (HQ3.out.trans hq4); have HO4 := hide (HO3.out.butAt (stay_ty f) hq4.bu hcw); clear hq4))
            go_roundw
            case rel => exact .inl ⟨n + 1, g, z, acc ++ [t], HO4.out, by omega, hz2, by omega, HE.out, HQ4.out⟩
            case measure => rw [HMS.out, onOf_on HQ4.out, atOf_pb HQ4.out, Nat.one_mul]; omega
    · have c2 := hp.c2
      have HQ := hide hp
      have HR := hide hR
      have HOA := hide hoa
      clear hp hR hoa
      have hoff : decide (((e : Nat) : Int) < 0) = false := by simp
      go_wp2_with (fail)
      go_ret
      exact ⟨A, n, q, rfl, hn8, HOA.out, After.of_bad HR.out hx HQ.out, fun j l h => by rw [HR.out] at h; cases h⟩
/-- What the call of 'one' answers, f types from the bottom. -/
def rOneOk (f : Nat) : Prop := ∀ (c : Nat) (s : ByteArray) (i : Nat) (d : Int) (w : World), s.size ≤ 8000 → i ≤ s.size → d = 12 - (f : Int) → w.heap[c]? = some (.cells #[.string s, .int .i64 i, .int .i64 (-1)] 67 (0, 0)) →
  Calls Try.prog 59 #[.pointer (some ⟨c, 0, none⟩), .int .i64 d] w fun e w' => ∃ (k : Int) (A : Option Addr) (n q : Nat) (A' : Option Addr) (n' q' : Nat), e = .returned (.agg #[.int .i64 k, .slice A n q, .slice A' n' q']) ∧
    After c 67 s w (pOne s f i) w' ∧ ∀ j t, pOne s f i = .ok j t → TyR f w' (fun b => w.heap.size ≤ b) t [.int .i64 k, .slice A n q, .slice A' n' q']
def rTysOk (f : Nat) : Prop := ∀ (c : Nat) (s : ByteArray) (i : Nat) (d : Int) (w : World), s.size ≤ 8000 → i ≤ s.size → d = 12 - (f : Int) → w.heap[c]? = some (.cells #[.string s, .int .i64 i, .int .i64 (-1)] 67 (0, 0)) →
  Calls Try.prog 36 #[.pointer (some ⟨c, 0, none⟩), .int .i64 d] w fun e w' => ∃ (A : Option Addr) (n q : Nat), e = .returned (.slice A n q) ∧ n ≤ s.size + 1 ∧ OwnAny w' w.heap.size 52 3 (.slice A n q) n ∧
    After c 67 s w (pTys s (pOne s f) (s.size + 1) [] i) w' ∧ ∀ j l, pTys s (pOne s f) (s.size + 1) [] i = .ok j l → TysNew f w w' A n q l
set_option maxRecDepth 100000 in
set_option maxHeartbeats 8000000 in
theorem rTys_of {f : Nat} (H : rOneOk f) : rTysOk f := by
  intro c s i d w hs hi hd h
  obtain ⟨i0, hi0, iz0, iz1, iz2⟩ := info_parts info_ty
  have HP := hide (Pb.start h)
  have hcw := lt_of_block h
  have HONE := hide H
  have HD := hide hd
  clear h H hd
  obtain ⟨R, hR⟩ : ∃ R, pTys s (pOne s f) (s.size + 1) [] i = R := ⟨_, rfl⟩
  rw [hR]
  have HRR := hide hR
  clear hR
  go_enter Try.func36, Try.ntmps36
  go_wp2_with (fail)
  go_loopw [5] (fun vrow wr => (∃ (n g i : Nat) (acc : List Ty), OwnT wr w.heap.size 52 3 (TyR f) vrow n acc ∧ n ≤ i ∧ i ≤ s.size ∧ s.size < i + g ∧ pTys s (pOne s f) g acc i = R ∧ Pb c 67 s i (-1) w wr) ∨
    (∃ (A : Option Addr) (n q e i : Nat), vrow = .slice A n q ∧ n ≤ s.size + 1 ∧ OwnAny wr w.heap.size 52 3 (.slice A n q) n ∧ R = .bad e ∧ i ≤ s.size ∧ Pb c 67 s i e w wr)) (fun _ wr => onOf c wr * (s.size - atOf c wr + 1))
  case atStart => exact .inl ⟨0, s.size + 1, i, [], OwnT.nil _ _ _ _, Nat.zero_le _, hi, by omega, HRR.out, HP.out⟩
  case round =>
    rcases hrel with ⟨n, g, x, acc, hown, hnx, hx, hg, hR, hp⟩ | ⟨A, n, q, e, x, rfl, hn8, hoa, hR, hx, hp⟩
    · obtain ⟨g, rfl⟩ : ∃ g', g = g' + 1 := ⟨g - 1, by omega⟩
      have c1 := hp.c1
      have c2 := hp.c2
      have hzw := hp.size
      have HQ := hide hp
      have HOW := hide hown
      have HR := hide hR
      have HMS := hide (show onOf c wr * (s.size - atOf c wr + 1) = s.size - x + 1 by rw [atOf_pb hp, onOf_on hp, Nat.one_mul])
      have HC := hide (HONE.out c s x d wr hs hx HD.out hp.box)
      have HXF := hide (pOne_from s f x hx)
      clear hown hp hR
      cases hr : pOne s f x with
      | bad e =>
        have HE := hide (HR.out.symm.trans (pTys_bad hr))
        have HC1 := hide (show Calls Try.prog 59 #[.pointer (some ⟨c, 0, none⟩), .int .i64 d] wr fun ee w' => ∃ (k : Int) (A : Option Addr) (n q : Nat) (A' : Option Addr) (n' q' : Nat), ee = .returned (.agg #[.int .i64 k, .slice A n q, .slice A' n' q']) ∧ ∃ i : Nat, i ≤ s.size ∧ Pb c 67 s i e wr w' from HC.out.mono fun ee w' ⟨k, A, n, q, A', n', q', h1, h2, _⟩ => ⟨k, A, n, q, A', n', q', h1, h2.bad hr⟩)
        clear hr
        go_wp2_with (first
          | (go_at_call 59; refine HC1.out.mono ?_; rintro r w1 ⟨k, A1, n1, q1, A2, n2, q2, rfl, y, hy, hq1⟩; have HO1 := hide (HOW.out.butAt (stay_ty f) hq1.bu hcw); have HQ1 := hide (HQ.out.trans hq1); have hz1 := (HQ.out.trans hq1).size; clear hq1)
          | (at_builtin; refine wpList_append_own_at _ rfl (.tmp 11) (.tmp 15) 23 rfl w.heap.size 52 i0 (.agg #[.int .i64 0, .slice none 0 0, .slice none 0 0]) 3 56 Try.underlying23 hi0 iz0 iz1 iz2 rfl (by decide) _ n _ rfl (HO1.out.choose_spec.1.alloc _) ⟨w1.heap.size, 0, none⟩ 1 1 [.int .i64 k, .slice A1 n1 q1, .slice A2 n2 q2] rfl rfl (cells_new w1 [.int .i64 k, .slice A1 n1 q1, .slice A2 n2 q2] _) (by intro u hu; simp at hu; rcases hu with rfl | rfl | rfl <;> rfl) (by unfold maxLen; omega) (by omega) (by simp; try omega) ?_; intro v1 w2 hown1 hg1 _ _; obtain ⟨ao, cp, rfl⟩ := own_sliceP hown1; have HQ2 := hide (HQ1.out.grown hg1 HO1.out.lt (Nat.le_refl _) hcw); have HO2 := hide (show OwnAny w2 w.heap.size 52 3 (.slice ao (n + 1) cp) (n + 1) from ⟨_, hown1⟩); clear hown1 hg1)
          | (go_at_call 35; refine (rIs_off c s y e 44 _ (by omega) HQ2.out.box).mono ?_; rintro r w3 ⟨rfl, hq3⟩; have HQ3 := hide (HQ2.out.trans hq3); have HO3 := hide (HO2.out.butAt hq3.bu hcw); clear hq3))
        go_ret
        exact ⟨ao, n + 1, cp, rfl, by omega, HO3.out, After.of_bad HE.out hy HQ3.out, fun j l h => by rw [HE.out] at h; cases h⟩
      | ok y t =>
        have HXY := hide (show x ≤ y ∧ y ≤ s.size by have := HXF.out; rw [hr] at this; exact this)
        have hxy := HXY.out.1
        have hys := HXY.out.2
        have HC1 := hide (show Calls Try.prog 59 #[.pointer (some ⟨c, 0, none⟩), .int .i64 d] wr fun ee w' => ∃ (k : Int) (A : Option Addr) (n q : Nat) (A' : Option Addr) (n' q' : Nat), ee = .returned (.agg #[.int .i64 k, .slice A n q, .slice A' n' q']) ∧ Pb c 67 s y (-1) wr w' ∧ TyR f w' (fun b => wr.heap.size ≤ b) t [.int .i64 k, .slice A n q, .slice A' n' q'] from HC.out.mono fun ee w' ⟨k, A, n, q, A', n', q', h1, h2, h3⟩ => ⟨k, A, n, q, A', n', q', h1, h2.ok hr, h3 _ _ hr⟩)
        have HPR := hide hr
        obtain ⟨v, hv⟩ : ∃ v, isB s y 44 = v := ⟨_, rfl⟩
        clear hr
        cases v
        · have HE := hide (HR.out.symm.trans (pTys_end HPR.out hv))
          have HIS := hide (fun W h => rIs_no c s y 44 W hs hys hv h)
          clear hv
          go_wp2_with (first
            | (go_at_call 59; refine HC1.out.mono ?_; rintro r w1 ⟨k, A1, n1, q1, A2, n2, q2, rfl, hq1, hty⟩; have HO1 := hide (HOW.out.butAt (stay_ty f) hq1.bu hcw); have HQ1 := hide (HQ.out.trans hq1); have HTY := hide hty; have hz1 := (HQ.out.trans hq1).size; have HSB := hide (show ∀ b, wr.heap.size ≤ b → b < w1.heap.size → (w.heap.size ≤ b ∧ u5.ownBlock ≠ some b) from fun b h1 _ => ⟨by omega, fun e => by have := (HOW.out.lt b e).2; omega⟩); clear hq1 hty)
            | (at_builtin; refine wpList_append_own_at _ rfl (.tmp 11) (.tmp 15) 23 rfl w.heap.size 52 i0 (.agg #[.int .i64 0, .slice none 0 0, .slice none 0 0]) 3 56 Try.underlying23 hi0 iz0 iz1 iz2 rfl (by decide) _ n _ rfl (HO1.out.choose_spec.1.alloc _) ⟨w1.heap.size, 0, none⟩ 1 1 [.int .i64 k, .slice A1 n1 q1, .slice A2 n2 q2] rfl rfl (cells_new w1 [.int .i64 k, .slice A1 n1 q1, .slice A2 n2 q2] _) (by intro u hu; simp at hu; rcases hu with rfl | rfl | rfl <;> rfl) (by unfold maxLen; omega) (by omega) (by simp; try omega) ?_; intro v1 w2 hown1 hg1 _ hv1; obtain ⟨ao, cp, rfl⟩ := own_sliceP hown1; have HQ2 := hide (HQ1.out.grown hg1 HO1.out.lt (Nat.le_refl _) hcw); have HO2 := hide (OwnT.push1 (stay_ty f) HO1.out rfl (stay_ty f _ _ _ _ _ _ HTY.out (StayS.refl _ _) HSB.out) hown1 hg1 hv1); clear hown1 hg1 hv1)
            | (go_at_call 35; refine (HIS.out _ HQ2.out.box).mono ?_; rintro r w3 ⟨rfl, hq3⟩; have HQ3 := hide (HQ2.out.trans hq3); have HO3 := hide (HO2.out.butAt (stay_ty f) hq3.bu hcw); clear hq3))
          go_ret
          exact ⟨_, n + 1, _, rfl, by omega, HO3.out.any, After.of_ok HE.out HQ3.out, fun j l h => by rw [HE.out] at h; cases h; exact HO3.out⟩
        · have HIS := hide (fun W h => rIs_yes c s y 44 W hs hys hv h)
          cases hn : needB s [32] (y + 1) with
          | bad e =>
            have HE := hide (HR.out.symm.trans (pTys_no HPR.out hv hn))
            have HTK := hide (show ∀ W, W.heap[c]? = some (.cells #[.string s, .int .i64 (y + 1 : Nat), .int .i64 (-1)] 67 (0, 0)) → Calls Try.prog 34 #[.pointer (some ⟨c, 0, none⟩), .string ⟨#[32]⟩] W fun r w' => r = .returned (.tuple #[]) ∧ ∃ i : Nat, i ≤ s.size ∧ Pb c 67 s i e W w' from fun W h => (rNeed_on c s 32 (y + 1) W hs (get_lt (isB_true hv)) h).mono fun r w' ⟨h1, h2⟩ => ⟨h1, h2.bad hn⟩)
            clear hn hv
            go_wp2_with (first
              | (go_at_call 59; refine HC1.out.mono ?_; rintro r w1 ⟨k, A1, n1, q1, A2, n2, q2, rfl, hq1, hty⟩; have HO1 := hide (HOW.out.butAt (stay_ty f) hq1.bu hcw); have HQ1 := hide (HQ.out.trans hq1); have HTY := hide hty; have hz1 := (HQ.out.trans hq1).size; have HSB := hide (show ∀ b, wr.heap.size ≤ b → b < w1.heap.size → (w.heap.size ≤ b ∧ u5.ownBlock ≠ some b) from fun b h1 _ => ⟨by omega, fun e => by have := (HOW.out.lt b e).2; omega⟩); clear hq1 hty)
              | (at_builtin; refine wpList_append_own_at _ rfl (.tmp 11) (.tmp 15) 23 rfl w.heap.size 52 i0 (.agg #[.int .i64 0, .slice none 0 0, .slice none 0 0]) 3 56 Try.underlying23 hi0 iz0 iz1 iz2 rfl (by decide) _ n _ rfl (HO1.out.choose_spec.1.alloc _) ⟨w1.heap.size, 0, none⟩ 1 1 [.int .i64 k, .slice A1 n1 q1, .slice A2 n2 q2] rfl rfl (cells_new w1 [.int .i64 k, .slice A1 n1 q1, .slice A2 n2 q2] _) (by intro u hu; simp at hu; rcases hu with rfl | rfl | rfl <;> rfl) (by unfold maxLen; omega) (by omega) (by simp; try omega) ?_; intro v1 w2 hown1 hg1 _ hv1; obtain ⟨ao, cp, rfl⟩ := own_sliceP hown1; have HQ2 := hide (HQ1.out.grown hg1 HO1.out.lt (Nat.le_refl _) hcw); have HO2 := hide (OwnT.push1 (stay_ty f) HO1.out rfl (stay_ty f _ _ _ _ _ _ HTY.out (StayS.refl _ _) HSB.out) hown1 hg1 hv1); clear hown1 hg1 hv1)
              | (go_at_call 35; refine (HIS.out _ HQ2.out.box).mono ?_; rintro r w3 ⟨rfl, hq3⟩; have HQ3 := hide (HQ2.out.trans hq3); have HO3 := hide (HO2.out.any.butAt hq3.bu hcw); clear hq3)
              | (go_at_call 34; refine (HTK.out _ HQ3.out.box).mono ?_; rintro r w4 ⟨rfl, z, hz4, hq4⟩; have HQ4 := hide (HQ3.out.trans hq4); have HO4 := hide (HO3.out.butAt hq4.bu hcw); clear hq4))
            go_roundw
            case rel => exact .inr ⟨ao, n + 1, cp, e, z, rfl, by omega, HO4.out, HE.out, hz4, HQ4.out⟩
            case measure => rw [HMS.out, onOf_off HQ4.out, atOf_pb HQ4.out]; rw [Nat.zero_mul]; omega
          | ok z u =>
            have HE := hide ((pTys_go HPR.out hv hn).symm.trans HR.out)
            have hz := needB_ok s [32] (y + 1) z u (get_lt (isB_true hv)) hn
            have hz1 : z = y + 2 := by simpa using hz.1
            have hz2 := hz.2
            have HTK := hide (show ∀ W, W.heap[c]? = some (.cells #[.string s, .int .i64 (y + 1 : Nat), .int .i64 (-1)] 67 (0, 0)) → Calls Try.prog 34 #[.pointer (some ⟨c, 0, none⟩), .string ⟨#[32]⟩] W fun r w' => r = .returned (.tuple #[]) ∧ Pb c 67 s z (-1) W w' from fun W h => (rNeed_on c s 32 (y + 1) W hs (get_lt (isB_true hv)) h).mono fun r w' ⟨h1, h2⟩ => ⟨h1, h2.ok hn⟩)
            clear hn hv hz
            go_wp2_with (first
              | (go_at_call 59; refine HC1.out.mono ?_; rintro r w1 ⟨k, A1, n1, q1, A2, n2, q2, rfl, hq1, hty⟩; have HO1 := hide (HOW.out.butAt (stay_ty f) hq1.bu hcw); have HQ1 := hide (HQ.out.trans hq1); have HTY := hide hty; have hz1 := (HQ.out.trans hq1).size; have HSB := hide (show ∀ b, wr.heap.size ≤ b → b < w1.heap.size → (w.heap.size ≤ b ∧ u5.ownBlock ≠ some b) from fun b h1 _ => ⟨by omega, fun e => by have := (HOW.out.lt b e).2; omega⟩); clear hq1 hty)
              | (at_builtin; refine wpList_append_own_at _ rfl (.tmp 11) (.tmp 15) 23 rfl w.heap.size 52 i0 (.agg #[.int .i64 0, .slice none 0 0, .slice none 0 0]) 3 56 Try.underlying23 hi0 iz0 iz1 iz2 rfl (by decide) _ n _ rfl (HO1.out.choose_spec.1.alloc _) ⟨w1.heap.size, 0, none⟩ 1 1 [.int .i64 k, .slice A1 n1 q1, .slice A2 n2 q2] rfl rfl (cells_new w1 [.int .i64 k, .slice A1 n1 q1, .slice A2 n2 q2] _) (by intro u hu; simp at hu; rcases hu with rfl | rfl | rfl <;> rfl) (by unfold maxLen; omega) (by omega) (by simp; try omega) ?_; intro v1 w2 hown1 hg1 _ hv1; obtain ⟨ao, cp, rfl⟩ := own_sliceP hown1; have HQ2 := hide (HQ1.out.grown hg1 HO1.out.lt (Nat.le_refl _) hcw); have HO2 := hide (OwnT.push1 (stay_ty f) HO1.out rfl (stay_ty f _ _ _ _ _ _ HTY.out (StayS.refl _ _) HSB.out) hown1 hg1 hv1); clear hown1 hg1 hv1)
              | (go_at_call 35; refine (HIS.out _ HQ2.out.box).mono ?_; rintro r w3 ⟨rfl, hq3⟩; have HQ3 := hide (HQ2.out.trans hq3); have HO3 := hide (HO2.out.butAt (stay_ty f) hq3.bu hcw); clear hq3)
              | (go_at_call 34; refine (HTK.out _ HQ3.out.box).mono ?_; rintro r w4 ⟨rfl, hq4⟩; have HQ4 := hide (HQ3.out.trans hq4); have HO4 := hide (HO3.out.butAt (stay_ty f) hq4.bu hcw); clear hq4))
            go_roundw
            case rel => exact .inl ⟨n + 1, g, z, acc ++ [t], HO4.out, by omega, hz2, by omega, HE.out, HQ4.out⟩
            case measure => rw [HMS.out, onOf_on HQ4.out, atOf_pb HQ4.out, Nat.one_mul]; omega
    · have c2 := hp.c2
      have HQ := hide hp
      have HR := hide hR
      have HOA := hide hoa
      clear hp hR hoa
      have hoff : decide (((e : Nat) : Int) < 0) = false := by simp
      go_wp2_with (fail)
      go_ret
      exact ⟨A, n, q, rfl, hn8, HOA.out, After.of_bad HR.out hx HQ.out, fun j l h => by rw [HR.out] at h; cases h⟩
set_option maxHeartbeats 4000000 in
theorem rTys_off (c : Nat) (s : ByteArray) (i : Nat) (wq d : Int) (w : World) (h0 : 0 ≤ wq) (h : w.heap[c]? = some (.cells #[.string s, .int .i64 i, .int .i64 wq] 67 (0, 0))) :
    Calls Try.prog 36 #[.pointer (some ⟨c, 0, none⟩), .int .i64 d] w fun e w' => e = .returned (.slice none 0 0) ∧ Pb c 67 s i wq w w' := by
  have HP := hide (Pb.start h)
  have c2 := HP.out.c2
  have h1 : decide (wq < 0) = false := by simp; omega
  clear h
  go_enter Try.func36, Try.ntmps36
  go_wp2_with (fail)
  go_loopw [5] (fun v wr => v = .slice none 0 0 ∧ wr = w) (fun _ _ => 0)
  case atStart => exact ⟨rfl, rfl⟩
  case round =>
    obtain ⟨rfl, rfl⟩ := hrel
    go_wp2_with (fail)
    go_ret
    exact ⟨rfl, HP.out⟩
end Go.Proofs.Ythlhiegbiapllaa
