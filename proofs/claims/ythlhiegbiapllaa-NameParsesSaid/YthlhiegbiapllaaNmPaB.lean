/- Walks of both parsers' ident and word (printed by gen_pb.py). -/
import Derived.Test.YthlhiegbiapllaaNmPaA
namespace Go.Proofs.Ythlhiegbiapllaa
open Go.RowKit
set_option linter.unusedVariables false
set_option linter.unusedSimpArgs false
/-- Where the box at c says that it stands. -/
def atOf (c : Nat) (w : World) : Nat := match w.cell? ⟨c, 1, none⟩ with
  | some (.int _ n) => n.toNat
  | _ => 0
theorem atOf_pb {c : Nat} {T : TypeId} {s : ByteArray} {i : Nat} {wr : Int} {w0 w : World} (h : Pb c T s i wr w0 w) : atOf c w = i := by
  unfold atOf; rw [h.c1]; simp
theorem okId_get {s : ByteArray} {j i : Nat} (h : j < s.size) : (∀ c, s.data.toList[j]? = some c → okId i c = okId i s[j]) := fun c hc => by rw [get_at s j h] at hc; cases hc; rfl
theorem ext_nil (s : ByteArray) (i : Nat) : s.extract i i = ⟨#[]⟩ := str_empty (by simp)
theorem okId_first (c : UInt8) : okId 0 c = lettB c := by simp [okId]
theorem okId_rest {j : Nat} (h : 0 < j) (c : UInt8) : okId j c = (lettB c || digB c) := by simp [okId, h]
/-- Where it is wrong behind an identifier at i. -/
def idWr (s : ByteArray) (i : Nat) : Int := if idL s i = 0 then (i : Int) else -1
theorem idL_at {s : ByteArray} {i x : Nat} (hix : i ≤ x) (hk : x ≤ s.size) (h1 : ∀ j, i ≤ j → j < x → ∀ d, s.data.toList[j]? = some d → okId (j - i) d = true) (h2 : ∀ d, s.data.toList[x]? = some d → okId (x - i) d = false) : idL s i = x - i := by
  refine idL_is s i (x - i) (by omega) (fun j hj d hd => ?_) (fun d hd => h2 d (by rwa [show i + (x - i) = x by omega] at hd))
  have := h1 (i + j) (by omega) (by omega) d hd
  rwa [show i + j - i = j by omega] at this
theorem idL_no (s : ByteArray) (i : Nat) (h : ¬ i < s.size) : idL s i = 0 := by
  have : s.data.toList.drop i = [] := List.drop_eq_nil_of_le (by rw [str_len]; omega)
  unfold idL; rw [this]; rfl
set_option maxRecDepth 100000 in
set_option maxHeartbeats 8000000 in
theorem nIdent_on (c : Nat) (s : ByteArray) (i : Nat) (w : World) (hs : s.size ≤ 8000) (hi : i ≤ s.size) (h : w.heap[c]? = some (.cells #[.string s, .int .i64 i, .int .i64 (-1)] 58 (0, 0))) :
    Calls Try.prog 28 #[.pointer (some ⟨c, 0, none⟩)] w fun e w' => e = .returned (.string (s.extract i (i + idL s i))) ∧ Pb c 58 s ((i + idL s i : Nat) : Int) (idWr s i) w w' := by
  have HP := hide (Pb.start h)
  have c1 := HP.out.c1
  clear h
  go_enter Try.func28, Try.ntmps28
  go_wp2_with (fail)
  go_loopw [] (fun wr => ∃ x : Nat, i ≤ x ∧ x ≤ s.size ∧ (∀ j, i ≤ j → j < x → ∀ d, s.data.toList[j]? = some d → okId (j - i) d = true) ∧ Pb c 58 s (x : Int) (-1) w wr) (fun wr => s.size - atOf c wr)
  case atStart => exact ⟨i, Nat.le_refl _, hi, fun j h h' => by omega, HP.out⟩
  case round =>
    obtain ⟨x, hix, hk, hall, hp⟩ := hrel
    have HALL := hide hall
    have HQ := hide hp
    have c0 := hp.c0
    have c1 := hp.c1
    have c2 := hp.c2
    have f1 := hp.f1
    have HAT := hide (atOf_pb hp)
    clear hall hp
    by_cases hlt : x < s.size
    · have HL := hide (fun W => isLetter_any s[x] W)
      have HD := hide (fun W => isDigit_any s[x] W)
      cases hl : lettB s[x]
      · by_cases hk0 : i < x
        · have hik : (i : Int) < (x : Int) := by omega
          have hne : ((x : Int) == (i : Int)) = false := by simp; omega
          have hne2 : ¬ (x : Int) = (i : Int) := by omega
          cases hd : digB s[x]
          · have E := hide (show idL s i = x - i from idL_at hix hk HALL.out (fun d h => by rw [okId_get hlt d h, okId_rest (by omega), hl, hd]; rfl))
            rw [hl] at HL
            rw [hd] at HD
            clear hl hd
            go_wp2_with (first | go_quiet (first | (go_at_call 54; exact Calls.quiet_of_same (HL.out _)) | (go_at_call 55; exact Calls.quiet_of_same (HD.out _))))
            go_ret
            rw [idWr, E.out, if_neg (by omega), show i + (x - i) = x by omega]
            exact ⟨rfl, (HQ.out.drewN _).drewN _⟩
          · have HK := hide (show okId (x - i) s[x] = true by rw [okId_rest (by omega), hl, hd]; rfl)
            rw [hl] at HL
            rw [hd] at HD
            clear hl hd
            go_wp2_with (first | go_quiet (first | (go_at_call 54; exact Calls.quiet_of_same (HL.out _)) | (go_at_call 55; exact Calls.quiet_of_same (HD.out _))))
            go_roundw
            case rel => exact ⟨x + 1, by omega, by omega, fun j h1 h2 d hd => by (by_cases e : j = x); (subst e; rw [get_at s _ hlt] at hd; cases hd; exact HK.out); exact HALL.out j h1 (by omega) d hd, (HQ.out.drewN _).step⟩
            case measure => rw [HAT.out, atOf_pb (i := x + 1) ((HQ.out.drewN _).step)]; omega
        · have E := hide (show idL s i = x - i from idL_at hix hk HALL.out (fun d h => by rw [okId_get hlt d h, okId, hl]; simp; omega))
          have hik : decide ((i : Int) < (x : Int)) = false := by simp; omega
          rw [hl] at HL
          clear hl
          obtain rfl : x = i := by omega
          have HF := hide (fun W (hq : Pb c 58 s x (-1) w W) => nFail_new c s x x W hq.box)
          go_wp2_with (first | go_quiet (first | (go_at_call 54; exact Calls.quiet_of_same (HL.out _)) | (go_at_call 55; exact Calls.quiet_of_same (HD.out _))) | (go_at_call 32; refine (HF.out _ (by first | exact HQ.out | exact HQ.out.drewN _)).mono ?_; rintro e w2 ⟨rfl, hq2⟩; have c0 := hq2.c0; have c1 := hq2.c1; have HQ2 := hide (Pb.trans (HQ.out.drewN _) hq2); clear hq2))
          go_ret
          rw [idWr, E.out, if_pos (by omega), show x + (x - x) = x by omega]
          exact ⟨by rw [ext_nil]; rfl, HQ2.out.drewN _⟩
      · have HK := hide (show okId (x - i) s[x] = true by rw [okId, hl]; rfl)
        rw [hl] at HL
        clear hl
        go_wp2_with (first | go_quiet (first | (go_at_call 54; exact Calls.quiet_of_same (HL.out _)) | (go_at_call 55; exact Calls.quiet_of_same (HD.out _))))
        go_roundw
        case rel => exact ⟨x + 1, by omega, by omega, fun j h1 h2 d hd => by (by_cases e : j = x); (subst e; rw [get_at s _ hlt] at hd; cases hd; exact HK.out); exact HALL.out j h1 (by omega) d hd, (HQ.out.drewN _).step⟩
        case measure => rw [HAT.out, atOf_pb (i := x + 1) ((HQ.out.drewN _).step)]; omega
    · have E := hide (show idL s i = x - i from idL_at hix hk HALL.out (fun d h => by rw [get_no s _ hlt] at h; cases h))
      have hlt' : decide ((x : Int) < (s.size : Int)) = false := by simp; omega
      by_cases hk0 : i < x
      · have hne : ((x : Int) == (i : Int)) = false := by simp; omega
        have hne2 : ¬ (x : Int) = (i : Int) := by omega
        go_wp2_with (first | go_quiet (fail))
        go_ret
        rw [idWr, E.out, if_neg (by omega), show i + (x - i) = x by omega]
        exact ⟨rfl, (HQ.out.drewN _).drewN _⟩
      · obtain rfl : x = i := by omega
        have HF := hide (fun W (hq : Pb c 58 s x (-1) w W) => nFail_new c s x x W hq.box)
        go_wp2_with (first | go_quiet (fail) | (go_at_call 32; refine (HF.out _ (by first | exact HQ.out | exact HQ.out.drewN _)).mono ?_; rintro e w2 ⟨rfl, hq2⟩; have c0 := hq2.c0; have c1 := hq2.c1; have HQ2 := hide (Pb.trans (HQ.out.drewN _) hq2); clear hq2))
        go_ret
        rw [idWr, E.out, if_pos (by omega), show x + (x - x) = x by omega]
        exact ⟨by rw [ext_nil]; rfl, HQ2.out.drewN _⟩
set_option maxHeartbeats 4000000 in
theorem nIdent_off (c : Nat) (s : ByteArray) (i : Nat) (wq : Int) (w : World) (h0 : 0 ≤ wq) (hs : s.size ≤ 8000) (hi : i ≤ s.size) (h : w.heap[c]? = some (.cells #[.string s, .int .i64 i, .int .i64 wq] 58 (0, 0))) :
    Calls Try.prog 28 #[.pointer (some ⟨c, 0, none⟩)] w fun e w' => e = .returned (.string ⟨#[]⟩) ∧ Pb c 58 s i wq w w' := by
  have HP := hide (Pb.start h)
  have c0 := HP.out.c0
  have c1 := HP.out.c1
  have c2 := HP.out.c2
  have h1 : decide (wq < 0) = false := by simp; omega
  clear h
  go_enter Try.func28, Try.ntmps28
  go_wp2_with (fail)
  go_loopw [] (fun wr => wr = w) (fun wr => 0)
  case atStart => exact rfl
  case round =>
    obtain rfl := hrel
    go_wp2_with (first | go_quiet (fail))
    go_ret
    exact ⟨rfl, (HP.out.drewN _).drewN _⟩
set_option maxRecDepth 100000 in
set_option maxHeartbeats 8000000 in
theorem rWord_on (c : Nat) (s : ByteArray) (i : Nat) (w : World) (hs : s.size ≤ 8000) (hi : i ≤ s.size) (h : w.heap[c]? = some (.cells #[.string s, .int .i64 i, .int .i64 (-1)] 67 (0, 0))) :
    Calls Try.prog 57 #[.pointer (some ⟨c, 0, none⟩)] w fun e w' => e = .returned (.string (s.extract i (i + idL s i))) ∧ Pb c 67 s ((i + idL s i : Nat) : Int) (idWr s i) w w' := by
  have HP := hide (Pb.start h)
  have c1 := HP.out.c1
  clear h
  go_enter Try.func57, Try.ntmps57
  go_wp2_with (fail)
  go_loopw [3] (fun y wr => ∃ x : Nat, y = .int .i64 x ∧ i ≤ x ∧ x ≤ s.size ∧ (∀ j, i ≤ j → j < x → ∀ d, s.data.toList[j]? = some d → okId (j - i) d = true) ∧ Pb c 67 s (i : Int) (-1) w wr) (fun y _ => s.size - (intOf y).toNat)
  case atStart => exact ⟨i, rfl, Nat.le_refl _, hi, fun j h h' => by omega, HP.out⟩
  case round =>
    obtain ⟨x, rfl, hix, hk, hall, hp⟩ := hrel
    have HALL := hide hall
    have HQ := hide hp
    have c0 := hp.c0
    have c1 := hp.c1
    have c2 := hp.c2
    have f1 := hp.f1
    clear hall hp
    by_cases hlt : x < s.size
    · obtain ⟨b, hb⟩ : ∃ b, okId (x - i) s[x] = b := ⟨_, rfl⟩
      by_cases hk0 : i < x
      · have hne : ((x : Int) == (i : Int)) = false := by simp; omega
        have hne2 : ¬ (x : Int) = (i : Int) := by omega
        have HL := hide (show ∀ W, Calls Try.prog 48 #[.int .u8 s[x].toNat, .bool false] W fun e w' => e = .returned (.bool b) ∧ w' = W from fun W => by have h1 := letter_next s[x] W; rw [← okId_rest (j := x - i) (by omega), hb] at h1; exact h1)
        cases b
        · have E := hide (show idL s i = x - i from idL_at hix hk HALL.out (fun d h => by rw [okId_get hlt d h]; exact hb))
          clear hb
          go_wp2_with (first | go_quiet ((go_at_call 48; exact Calls.quiet_of_same (HL.out _))))
          go_ret
          rw [idWr, E.out, if_neg (by omega), show i + (x - i) = x by omega]
          exact ⟨rfl, (HQ.out.drewN _).set1 _⟩
        · have HK := hide hb
          clear hb
          go_wp2_with (first | go_quiet ((go_at_call 48; exact Calls.quiet_of_same (HL.out _))))
          go_roundw
          case rel => exact ⟨x + 1, by go_num, by omega, by omega, fun j h1 h2 d hd => by (by_cases e : j = x); (subst e; rw [get_at s _ hlt] at hd; cases hd; exact HK.out); exact HALL.out j h1 (by omega) d hd, HQ.out.drewN _⟩
          case measure => simp [intOf]; omega
      · obtain rfl : x = i := by omega
        have HL := hide (show ∀ W, Calls Try.prog 48 #[.int .u8 s[x].toNat, .bool true] W fun e w' => e = .returned (.bool b) ∧ w' = W from fun W => by have h1 := letter_first s[x] W; rw [← okId_first, ← Nat.sub_self x, hb] at h1; exact h1)
        cases b
        · have E := hide (show idL s x = x - x from idL_at hix hk HALL.out (fun d h => by rw [okId_get hlt d h]; exact hb))
          have HF := hide (fun W (hq : Pb c 67 s x (-1) w W) => rFail_new c s x x W hq.box)
          clear hb
          go_wp2_with (first | go_quiet ((go_at_call 48; exact Calls.quiet_of_same (HL.out _))) | (go_at_call 37; refine (HF.out _ (by first | exact HQ.out | exact HQ.out.drewN _)).mono ?_; rintro e w2 ⟨rfl, hq2⟩; have c0 := hq2.c0; have c1 := hq2.c1; have c2 := hq2.c2; have HQ2 := hide (Pb.trans (HQ.out.drewN _) hq2); clear hq2))
          go_ret
          rw [idWr, E.out, if_pos (by omega), show x + (x - x) = x by omega]
          exact ⟨by rw [ext_nil]; rfl, HQ2.out⟩
        · have HK := hide hb
          clear hb
          go_wp2_with (first | go_quiet ((go_at_call 48; exact Calls.quiet_of_same (HL.out _))))
          go_roundw
          case rel => exact ⟨x + 1, by go_num, by omega, by omega, fun j h1 h2 d hd => by (obtain rfl : j = x := by omega); rw [get_at s _ hlt] at hd; cases hd; exact HK.out, HQ.out.drewN _⟩
          case measure => simp [intOf]; omega
    · have E := hide (show idL s i = x - i from idL_at hix hk HALL.out (fun d h => by rw [get_no s _ hlt] at h; cases h))
      have hlt' : decide ((x : Int) < (s.size : Int)) = false := by simp; omega
      by_cases hk0 : i < x
      · have hne : ((x : Int) == (i : Int)) = false := by simp; omega
        have hne2 : ¬ (x : Int) = (i : Int) := by omega
        go_wp2_with (first | go_quiet (fail))
        go_ret
        rw [idWr, E.out, if_neg (by omega), show i + (x - i) = x by omega]
        exact ⟨rfl, (HQ.out.drewN _).set1 _⟩
      · obtain rfl : x = i := by omega
        have HF := hide (fun W (hq : Pb c 67 s x (-1) w W) => rFail_new c s x x W hq.box)
        go_wp2_with (first | go_quiet (fail) | (go_at_call 37; refine (HF.out _ (by first | exact HQ.out | exact HQ.out.drewN _)).mono ?_; rintro e w2 ⟨rfl, hq2⟩; have c0 := hq2.c0; have c1 := hq2.c1; have c2 := hq2.c2; have HQ2 := hide (Pb.trans (HQ.out.drewN _) hq2); clear hq2))
        go_ret
        rw [idWr, E.out, if_pos (by omega), show x + (x - x) = x by omega]
        exact ⟨by rw [ext_nil]; rfl, HQ2.out⟩
end Go.Proofs.Ythlhiegbiapllaa
