/- Walks of both parsers' fail, is, take and need (printed by gen_pa.py). -/
import Derived.Test.YthlhiegbiapllaaNmPaL
import Derived.Test.YthlhiegbiapllaaShelf
import Derived.Test.YthlhiegbiapllaaFam
namespace Go.Proofs.Ythlhiegbiapllaa
open Go.RowKit
set_option linter.unusedVariables false
set_option linter.unusedSimpArgs false
/-- A parser's box, and what was before it. -/
structure Pb (c : Nat) (T : TypeId) (s : ByteArray) (i wr : Int) (w0 w : World) : Prop where
  bu : ButAt c w0 w
  box : w.heap[c]? = some (.cells #[.string s, .int .i64 i, .int .i64 wr] T (0, 0))
section
variable {c : Nat} {T : TypeId} {s : ByteArray} {i wr : Int} {w0 w w' : World}
theorem Pb.start (h : w.heap[c]? = some (.cells #[.string s, .int .i64 i, .int .i64 wr] T (0, 0))) : Pb c T s i wr w w := ⟨ButAt.refl _ _, h⟩
theorem Pb.trans {i' wr' : Int} (h : Pb c T s i wr w0 w) (h' : Pb c T s i' wr' w w') : Pb c T s i' wr' w0 w' := ⟨h.bu.trans h'.bu, h'.box⟩
theorem Pb.set1 (h : Pb c T s i wr w0 w) (j : Int) : Pb c T s j wr w0 (w.setCell ⟨c, 1, none⟩ (.int .i64 j)) := ⟨h.bu.trans (ButAt.set _ _ _), (block_set h.box (i := 1) (.int .i64 j)).trans rfl⟩
theorem Pb.step {x : Nat} (h : Pb c T s (x : Int) wr w0 w) : Pb c T s ((x + 1 : Nat) : Int) wr w0 (w.setCell ⟨c, 1, none⟩ (.int .i64 ((x : Int) + 1))) := by
  have := h.set1 ((x : Int) + 1)
  rwa [show (x : Int) + 1 = ((x + 1 : Nat) : Int) by omega] at this ⊢
theorem Pb.set2 (h : Pb c T s i wr w0 w) (j : Int) : Pb c T s i j w0 (w.setCell ⟨c, 2, none⟩ (.int .i64 j)) := ⟨h.bu.trans (ButAt.set _ _ _), (block_set h.box (i := 2) (.int .i64 j)).trans rfl⟩
theorem Pb.drew (h : Pb c T s i wr w0 w) : Pb c T s i wr w0 w.drew := ⟨⟨h.bu.be.drew, h.bu.keep⟩, h.box⟩
theorem Pb.drewN (h : Pb c T s i wr w0 w) (n : Nat) : Pb c T s i wr w0 (w.drewN n) := ⟨⟨below_drewN h.bu.be n, h.bu.keep⟩, h.box⟩
theorem Pb.alloc (h : Pb c T s i wr w0 w) (o : Obj) : Pb c T s i wr w0 (w.alloc o) := ⟨h.bu.alloc (Nat.le_of_lt (lt_of_block h.box)) o, block_below h.box ((Below.refl _ _).alloc (Nat.le_refl _) o)⟩
theorem Pb.c0 (h : Pb c T s i wr w0 w) : w.cell? ⟨c, 0, none⟩ = some (.string s) := (block_cell h.box 0).trans rfl
theorem Pb.c1 (h : Pb c T s i wr w0 w) : w.cell? ⟨c, 1, none⟩ = some (.int .i64 i) := (block_cell h.box 1).trans rfl
theorem Pb.c2 (h : Pb c T s i wr w0 w) : w.cell? ⟨c, 2, none⟩ = some (.int .i64 wr) := (block_cell h.box 2).trans rfl
theorem Pb.f1 (h : Pb c T s i wr w0 w) : w.frozen? ⟨c, 1, none⟩ = false := block_free h.box 1
theorem Pb.f2 (h : Pb c T s i wr w0 w) : w.frozen? ⟨c, 2, none⟩ = false := block_free h.box 2
end
theorem get_at (s : ByteArray) (k : Nat) (h : k < s.size) : s.data.toList[k]? = some s[k] := str_get s k h
theorem get_no (s : ByteArray) (k : Nat) (h : ¬ k < s.size) : s.data.toList[k]? = none := List.getElem?_eq_none (by rw [str_len]; omega)
theorem u8_ne {a b : UInt8} (h : ¬ a = b) : ¬ (a.toNat : Int) = (b.toNat : Int) := fun e => h (UInt8.toNat_inj.1 (by omega))
set_option maxHeartbeats 2000000 in
theorem nFail_new (c : Nat) (s : ByteArray) (i a : Int) (w : World) (h : w.heap[c]? = some (.cells #[.string s, .int .i64 i, .int .i64 (-1)] 58 (0, 0))) :
    Calls Try.prog 32 #[.pointer (some ⟨c, 0, none⟩), .int .i64 a] w fun e w' => e = .returned (.tuple #[]) ∧ Pb c 58 s i a w w' := by
  have HP := hide (Pb.start h)
  have c2 := HP.out.c2
  have f2 := HP.out.f2
  clear h
  go_enter Try.func32, Try.ntmps32
  go_wp2_with (fail)
  go_end0
  exact ⟨rfl, HP.out.set2 a⟩
set_option maxHeartbeats 2000000 in
theorem nFail_old (c : Nat) (s : ByteArray) (i wr a : Int) (w : World) (h0 : 0 ≤ wr) (h : w.heap[c]? = some (.cells #[.string s, .int .i64 i, .int .i64 wr] 58 (0, 0))) :
    Calls Try.prog 32 #[.pointer (some ⟨c, 0, none⟩), .int .i64 a] w fun e w' => e = .returned (.tuple #[]) ∧ Pb c 58 s i wr w w' := by
  have HP := hide (Pb.start h)
  have c2 := HP.out.c2
  have h1 : decide (wr < 0) = false := by simp; omega
  clear h
  go_enter Try.func32, Try.ntmps32
  go_wp2_with (fail)
  go_end0
  exact ⟨rfl, HP.out⟩
set_option maxHeartbeats 2000000 in
theorem rFail_new (c : Nat) (s : ByteArray) (i a : Int) (w : World) (h : w.heap[c]? = some (.cells #[.string s, .int .i64 i, .int .i64 (-1)] 67 (0, 0))) :
    Calls Try.prog 37 #[.pointer (some ⟨c, 0, none⟩), .int .i64 a] w fun e w' => e = .returned (.tuple #[]) ∧ Pb c 67 s i a w w' := by
  have HP := hide (Pb.start h)
  have c2 := HP.out.c2
  have f2 := HP.out.f2
  clear h
  go_enter Try.func37, Try.ntmps37
  go_wp2_with (fail)
  go_end0
  exact ⟨rfl, HP.out.set2 a⟩
set_option maxHeartbeats 2000000 in
theorem rFail_old (c : Nat) (s : ByteArray) (i wr a : Int) (w : World) (h0 : 0 ≤ wr) (h : w.heap[c]? = some (.cells #[.string s, .int .i64 i, .int .i64 wr] 67 (0, 0))) :
    Calls Try.prog 37 #[.pointer (some ⟨c, 0, none⟩), .int .i64 a] w fun e w' => e = .returned (.tuple #[]) ∧ Pb c 67 s i wr w w' := by
  have HP := hide (Pb.start h)
  have c2 := HP.out.c2
  have h1 : decide (wr < 0) = false := by simp; omega
  clear h
  go_enter Try.func37, Try.ntmps37
  go_wp2_with (fail)
  go_end0
  exact ⟨rfl, HP.out⟩
/-- Whether a byte comes. -/
def isB (s : ByteArray) (i : Nat) (b : UInt8) : Bool := decide (s.data.toList[i]? = some b)
set_option maxRecDepth 100000 in
set_option maxHeartbeats 4000000 in
theorem nIs_on (c : Nat) (s : ByteArray) (i : Nat) (b : UInt8) (w : World) (hs : s.size ≤ 8000) (h : w.heap[c]? = some (.cells #[.string s, .int .i64 i, .int .i64 (-1)] 58 (0, 0))) :
    Calls Try.prog 30 #[.pointer (some ⟨c, 0, none⟩), .int .u8 b.toNat] w fun e w' => e = .returned (.bool (isB s i b)) ∧ Pb c 58 s i (-1) w w' := by
  have HP := hide (Pb.start h)
  have c0 := HP.out.c0
  have c1 := HP.out.c1
  have c2 := HP.out.c2
  clear h
  by_cases hlt : i < s.size
  · by_cases hb : s[i] = b
    · have E := hide (show isB s i b = true by rw [isB, get_at s i hlt, hb]; simp)
      have t1 : (s[i].toNat : Int) = (b.toNat : Int) := by rw [hb]
      clear hb
      go_enter Try.func30, Try.ntmps30
      go_wp2_with (go_quiet (fail))
      go_ret
      exact ⟨by rw [E.out]; rfl, HP.out.drewN _⟩
    · have E := hide (show isB s i b = false by rw [isB, get_at s i hlt]; simpa using hb)
      have t1 : ¬ (s[i].toNat : Int) = (b.toNat : Int) := u8_ne hb
      have t2 : ((s[i].toNat : Int) == (b.toNat : Int)) = false := by simpa using t1
      clear hb
      go_enter Try.func30, Try.ntmps30
      go_wp2_with (go_quiet (fail))
      go_ret
      exact ⟨by rw [E.out]; rfl, HP.out.drewN _⟩
  · have E := hide (show isB s i b = false by rw [isB, get_no s i hlt]; simp)
    have hlt' : decide ((i : Int) < (s.size : Int)) = false := by simp; omega
    go_enter Try.func30, Try.ntmps30
    go_wp2_with (go_quiet (fail))
    go_ret
    exact ⟨by rw [E.out]; rfl, HP.out.drewN _⟩
set_option maxHeartbeats 4000000 in
theorem nIs_off (c : Nat) (s : ByteArray) (i : Nat) (wr : Int) (b : UInt8) (w : World) (h0 : 0 ≤ wr) (h : w.heap[c]? = some (.cells #[.string s, .int .i64 i, .int .i64 wr] 58 (0, 0))) :
    Calls Try.prog 30 #[.pointer (some ⟨c, 0, none⟩), .int .u8 b.toNat] w fun e w' => e = .returned (.bool false) ∧ Pb c 58 s i wr w w' := by
  have HP := hide (Pb.start h)
  have c0 := HP.out.c0
  have c1 := HP.out.c1
  have c2 := HP.out.c2
  have h1 : decide (wr < 0) = false := by simp; omega
  clear h
  go_enter Try.func30, Try.ntmps30
  go_wp2_with (go_quiet (fail))
  go_ret
  exact ⟨rfl, HP.out.drewN _⟩
theorem needB_snoc (s : ByteArray) : ∀ (t : List UInt8) (i k : Nat) (b : UInt8), (∀ j d, j < k → t[j]? = some d → s.data.toList[i + j]? = some d) → t[k]? = some b → ¬ s.data.toList[i + k]? = some b → needB s t i = .bad (i + k)
  | [], _, _, _, _, h, _ => by simp at h
  | x :: t, i, 0, b, _, h1, h2 => by simp at h1; subst h1; rw [needB, if_neg (by simpa using h2)]; rfl
  | x :: t, i, k + 1, b, h, h1, h2 => by
    rw [needB, if_pos (by simpa using h 0 x (by omega) rfl), needB_snoc s t (i + 1) k b (fun j d hj hd => by have := h (j + 1) d (by omega) (by simpa using hd); rwa [show i + 1 + j = i + (j + 1) by omega]) (by simpa using h1) (by rwa [show i + 1 + k = i + (k + 1) by omega])]
    congr 1; omega
theorem needB_all (s : ByteArray) : ∀ (t : List UInt8) (i : Nat), (∀ j d, j < t.length → t[j]? = some d → s.data.toList[i + j]? = some d) → needB s t i = .ok (i + t.length) ()
  | [], _, _ => rfl
  | x :: t, i, h => by
    rw [needB, if_pos (by simpa using h 0 x (by simp) rfl), needB_all s t (i + 1) (fun j d hj hd => by have := h (j + 1) d (by simp; omega) (by simpa using hd); rwa [show i + 1 + j = i + (j + 1) by omega])]
    rw [List.length_cons]; congr 1; omega
/-- The box behind a result. -/
def After (c : Nat) (T : TypeId) (s : ByteArray) (w : World) {α : Type} (r : Res α) (w' : World) : Prop := match r with
  | .bad e => ∃ i : Nat, i ≤ s.size ∧ Pb c T s i e w w'
  | .ok i _ => Pb c T s i (-1) w w'
set_option maxRecDepth 100000 in
set_option maxHeartbeats 4000000 in
theorem nTake_on (c : Nat) (s t : ByteArray) (i : Nat) (w : World) (hs : s.size ≤ 8000) (ht : t.size ≤ 8000) (hi : i ≤ s.size) (h : w.heap[c]? = some (.cells #[.string s, .int .i64 i, .int .i64 (-1)] 58 (0, 0))) :
    Calls Try.prog 29 #[.pointer (some ⟨c, 0, none⟩), .string t] w fun e w' => e = .returned (.tuple #[]) ∧ After c 58 s w (needB s t.data.toList i) w' := by
  have HP := hide (Pb.start h)
  clear h
  go_enter Try.func29, Try.ntmps29
  go_wp2_with (fail)
  go_loopw [7] (fun x wr => ∃ k : Nat, k ≤ t.size ∧ i + k ≤ s.size ∧ x = .int .i64 k ∧ (∀ j d, j < k → t.data.toList[j]? = some d → s.data.toList[i + j]? = some d) ∧ Pb c 58 s ((i + k : Nat) : Int) (-1) w wr) (fun x _ => t.size - (intOf x).toNat)
  case atStart => exact ⟨0, Nat.zero_le _, hi, rfl, fun j d h => by omega, HP.out⟩
  case round =>
    obtain ⟨k, hk, hks, rfl, hall, hp⟩ := hrel
    have HALL := hide hall
    have HQ := hide hp
    have HC := hide (fun b => nIs_on c s (i + k) b wr hs hp.box)
    clear hall hp
    by_cases hlt : k < t.size
    · have HG := hide (get_at t k hlt)
      obtain ⟨v, hv⟩ : ∃ v, isB s (i + k) t[k] = v := ⟨_, rfl⟩
      have HC1 := hide (hv ▸ HC.out t[k])
      cases v
      · have E := hide (needB_snoc s t.data.toList i k t[k] HALL.out HG.out (by simpa [isB] using hv))
        clear hv
        go_wp2_with (first | (go_at_call 30; refine HC1.out.mono ?_; rintro e w1 ⟨rfl, hq1⟩; have HQ1 := hide hq1; have c1 := hq1.c1; have HF := hide (nFail_new c s (i + k : Nat) (i + k : Nat) w1 hq1.box); clear hq1) | (go_at_call 32; refine HF.out.mono ?_; rintro e w2 ⟨rfl, hq2⟩; have HQ2 := hide hq2; clear hq2))
        ((try simp only [Exit.inBlock, Exit.then]); refine bodyPost_ret (results_none rfl _ _ _) rfl ?_)
        rw [E.out]
        exact ⟨rfl, i + k, hks, HQ.out.trans (HQ1.out.trans HQ2.out)⟩
      · have hs1 : s.data.toList[i + k]? = some t[k] := by simpa [isB] using hv
        have hks1 := get_lt hs1
        have HS1 := hide hs1
        clear hv hs1
        go_wp2_with (go_at_call 30; refine HC1.out.mono ?_; rintro e w1 ⟨rfl, hq1⟩; have HQ1 := hide (HQ.out.trans hq1); have c1 := hq1.c1; have f1 := hq1.f1; clear hq1)
        go_roundw
        case rel => exact ⟨k + 1, by omega, by omega, by go_num, fun j d hj hd => by (by_cases e : j = k); (subst e; rw [HG.out] at hd; cases hd; exact HS1.out); exact HALL.out j d (by omega) hd, (show ((i + k : Nat) : Int) + 1 = ((i + (k + 1) : Nat) : Int) by omega) ▸ HQ1.out.set1 _⟩
        case measure => simp [intOf]; omega
    · obtain rfl : k = t.size := by omega
      have E := hide (needB_all s t.data.toList i (fun j d hj hd => HALL.out j d (by rwa [str_len] at hj) hd))
      go_wp2_with (fail)
      go_end0
      rw [E.out, str_len]
      exact ⟨rfl, HQ.out⟩
set_option maxRecDepth 100000 in
set_option maxHeartbeats 4000000 in
theorem nTake_off (c : Nat) (s t : ByteArray) (i : Nat) (wq : Int) (w : World) (h0 : 0 ≤ wq) (ht0 : 0 < t.size) (ht : t.size ≤ 8000) (h : w.heap[c]? = some (.cells #[.string s, .int .i64 i, .int .i64 wq] 58 (0, 0))) :
    Calls Try.prog 29 #[.pointer (some ⟨c, 0, none⟩), .string t] w fun e w' => e = .returned (.tuple #[]) ∧ Pb c 58 s i wq w w' := by
  have HP := hide (Pb.start h)
  have HC := hide (fun b => nIs_off c s i wq b w h0 h)
  clear h
  go_enter Try.func29, Try.ntmps29
  go_wp2_with (fail)
  go_loopw [7] (fun x wr => x = .int .i64 0 ∧ wr = w) (fun _ _ => 0)
  case atStart => exact ⟨rfl, rfl⟩
  case round =>
    obtain ⟨rfl, rfl⟩ := hrel
    go_wp2_with (first | (go_at_call 30; refine (HC.out t[0]).mono ?_; rintro e w1 ⟨rfl, hq1⟩; have HQ1 := hide hq1; have c1 := hq1.c1; have HF := hide (nFail_old c s i wq i w1 h0 hq1.box); clear hq1) | (go_at_call 32; refine HF.out.mono ?_; rintro e w2 ⟨rfl, hq2⟩; have HQ2 := hide hq2; clear hq2))
    ((try simp only [Exit.inBlock, Exit.then]); refine bodyPost_ret (results_none rfl _ _ _) rfl ?_)
    exact ⟨rfl, HQ1.out.trans HQ2.out⟩
theorem hasP_one (s : ByteArray) (i : Nat) (b : UInt8) : Lib.hasPrefix (s.extract i s.size).data.toList (⟨#[b]⟩ : ByteArray).data.toList = isB s i b := by
  have e : (s.extract i s.size).data.toList = s.data.toList.drop i := by
    rw [ByteArray.data_extract, Array.toList_extract, List.extract_eq_take_drop]
    exact List.take_of_length_le (by simp)
  have h : s.data.toList[i]? = (s.data.toList.drop i)[0]? := by rw [List.getElem?_drop]; rfl
  rw [e, isB, h]
  cases s.data.toList.drop i with
  | nil => rfl
  | cons x l =>
    by_cases hx : x = b
    · subst hx; simp [Lib.hasPrefix]
    · have hx' : ¬ b = x := fun e => hx e.symm
      simp [Lib.hasPrefix, List.isPrefixOf, hx, hx']
/-- The worlds with the parser's box as it is: a family that calls do not leave. -/
theorem pfam {c : Nat} {T : TypeId} {s : ByteArray} {i wq : Int} {w0 w : World} (h : Pb c T s i wq w0 w) : ∃ (I : Type) (F : I → World), (∃ j, w.drew = F j) ∧ (∀ j, Pb c T s i wq w0 (F j)) ∧ ∀ j w', w' = F j → ∃ k, w' = F k :=
  ⟨{ w' : World // Pb c T s i wq w0 w' }, Subtype.val, ⟨⟨w.drew, h.drew⟩, rfl⟩, fun j => j.2, fun j w' e => ⟨j, e⟩⟩
set_option maxRecDepth 100000 in
set_option maxHeartbeats 4000000 in
theorem rIs_on (c : Nat) (s : ByteArray) (i : Nat) (b : UInt8) (w : World) (hs : s.size ≤ 8000) (hi : i ≤ s.size) (h : w.heap[c]? = some (.cells #[.string s, .int .i64 i, .int .i64 (-1)] 67 (0, 0))) :
    Calls Try.prog 35 #[.pointer (some ⟨c, 0, none⟩), .string ⟨#[b]⟩] w fun e w' => e = .returned (.bool (isB s i b)) ∧ Pb c 67 s ((if isB s i b then i + 1 else i : Nat) : Int) (-1) w w' := by
  have HP := hide (Pb.start h)
  have c0 := HP.out.c0
  have c1 := HP.out.c1
  have c2 := HP.out.c2
  have f1 := HP.out.f1
  have HC := hide (fun W => hasP_one s i b ▸ Try.strings_HasPrefix (s.extract i s.size) ⟨#[b]⟩ W)
  obtain ⟨v, hv⟩ : ∃ v, isB s i b = v := ⟨_, rfl⟩
  rw [hv] at HC ⊢
  have hii : (i : Int) ≤ (s.size : Int) := by omega
  clear h hv
  cases v
  · go_enter Try.func35, Try.ntmps35
    go_wp2_with (go_quiet ((go_at_call 58; exact Calls.quiet_of_same (HC.out _))))
    go_ret
    exact ⟨rfl, HP.out.drewN _⟩
  · go_enter Try.func35, Try.ntmps35
    go_wp2_with (go_quiet ((go_at_call 58; exact Calls.quiet_of_same (HC.out _))))
    go_ret
    exact ⟨rfl, (show (i : Int) + 1 = ((i + 1 : Nat) : Int) by omega) ▸ (HP.out.drewN _).set1 _⟩
set_option maxHeartbeats 4000000 in
theorem rIs_off (c : Nat) (s : ByteArray) (i : Nat) (wq : Int) (b : UInt8) (w : World) (h0 : 0 ≤ wq) (h : w.heap[c]? = some (.cells #[.string s, .int .i64 i, .int .i64 wq] 67 (0, 0))) :
    Calls Try.prog 35 #[.pointer (some ⟨c, 0, none⟩), .string ⟨#[b]⟩] w fun e w' => e = .returned (.bool false) ∧ Pb c 67 s i wq w w' := by
  have HP := hide (Pb.start h)
  have c0 := HP.out.c0
  have c1 := HP.out.c1
  have c2 := HP.out.c2
  clear h
  go_enter Try.func35, Try.ntmps35
  go_wp2_with (go_quiet (fail))
  go_ret
  exact ⟨rfl, HP.out.drewN _⟩
theorem one_cut (b : UInt8) : (⟨#[b]⟩ : ByteArray).extract 0 1 = ⟨#[b]⟩ := rfl
set_option maxRecDepth 100000 in
set_option maxHeartbeats 4000000 in
theorem rNeed_on (c : Nat) (s : ByteArray) (b : UInt8) (i : Nat) (w : World) (hs : s.size ≤ 8000) (hi : i ≤ s.size) (h : w.heap[c]? = some (.cells #[.string s, .int .i64 i, .int .i64 (-1)] 67 (0, 0))) :
    Calls Try.prog 34 #[.pointer (some ⟨c, 0, none⟩), .string ⟨#[b]⟩] w fun e w' => e = .returned (.tuple #[]) ∧ After c 67 s w (needB s [b] i) w' := by
  have HP := hide (Pb.start h)
  have c2 := HP.out.c2
  have HC := hide (rIs_on c s i b w hs hi h)
  obtain ⟨v, hv⟩ : ∃ v, isB s i b = v := ⟨_, rfl⟩
  rw [hv] at HC
  have hsz : (⟨#[b]⟩ : ByteArray).size = 1 := rfl
  clear h
  cases v
  · have E := hide (show needB s [b] i = .bad i by rw [needB, if_neg (by simpa [isB] using hv)])
    have HC' := hide (show Calls Try.prog 35 #[.pointer (some ⟨c, 0, none⟩), .string ((⟨#[b]⟩ : ByteArray).extract 0 1)] w fun e w' => e = .returned (.bool false) ∧ Pb c 67 s i (-1) w w' from HC.out)
    clear hv
    go_enter Try.func34, Try.ntmps34
    go_wp2_with (fail)
    go_loopw [7] (fun x wr => (x = .int .i64 0 ∧ wr = w) ∨ (x = .int .i64 1 ∧ Pb c 67 s i i w wr)) (fun x _ => 1 - (intOf x).toNat)
    case atStart => exact .inl ⟨rfl, rfl⟩
    case round =>
      rcases hrel with ⟨rfl, rfl⟩ | ⟨rfl, hp⟩
      · go_wp2_with (first | (go_at_call 35; refine HC'.out.mono ?_; rintro e w1 ⟨rfl, hq1⟩; have HQ1 := hide hq1; have c1 := hq1.c1; have HF := hide (rFail_new c s i i w1 hq1.box); clear hq1) | (go_at_call 37; refine HF.out.mono ?_; rintro e w2 ⟨rfl, hq2⟩; have HQ2 := hide hq2; clear hq2))
        go_roundw
        case rel => exact .inr ⟨rfl, HQ1.out.trans HQ2.out⟩
        case measure => simp [intOf]
      · have HQ := hide hp
        clear hp
        go_wp2_with (fail)
        go_end0
        rw [E.out]
        exact ⟨rfl, i, hi, HQ.out⟩
  · have E := hide (show needB s [b] i = .ok (i + 1) () by rw [needB, if_pos (by simpa [isB] using hv)]; rfl)
    have HC' := hide (show Calls Try.prog 35 #[.pointer (some ⟨c, 0, none⟩), .string ((⟨#[b]⟩ : ByteArray).extract 0 1)] w fun e w' => e = .returned (.bool true) ∧ Pb c 67 s (i + 1 : Nat) (-1) w w' from HC.out)
    clear hv
    go_enter Try.func34, Try.ntmps34
    go_wp2_with (fail)
    go_loopw [7] (fun x wr => (x = .int .i64 0 ∧ wr = w) ∨ (x = .int .i64 1 ∧ Pb c 67 s (i + 1 : Nat) (-1) w wr)) (fun x _ => 1 - (intOf x).toNat)
    case atStart => exact .inl ⟨rfl, rfl⟩
    case round =>
      rcases hrel with ⟨rfl, rfl⟩ | ⟨rfl, hp⟩
      · go_wp2_with (go_at_call 35; refine HC'.out.mono ?_; rintro e w1 ⟨rfl, hq1⟩; have HQ1 := hide hq1; clear hq1)
        go_roundw
        case rel => exact .inr ⟨rfl, HQ1.out⟩
        case measure => simp [intOf]
      · have HQ := hide hp
        clear hp
        go_wp2_with (fail)
        go_end0
        rw [E.out]
        exact ⟨rfl, HQ.out⟩
set_option maxRecDepth 100000 in
set_option maxHeartbeats 4000000 in
theorem rNeed_off (c : Nat) (s : ByteArray) (b : UInt8) (i : Nat) (wq : Int) (w : World) (h0 : 0 ≤ wq) (h : w.heap[c]? = some (.cells #[.string s, .int .i64 i, .int .i64 wq] 67 (0, 0))) :
    Calls Try.prog 34 #[.pointer (some ⟨c, 0, none⟩), .string ⟨#[b]⟩] w fun e w' => e = .returned (.tuple #[]) ∧ Pb c 67 s i wq w w' := by
  have HP := hide (Pb.start h)
  have c2 := HP.out.c2
  have h1 : decide (wq < 0) = false := by simp; omega
  have hsz : (⟨#[b]⟩ : ByteArray).size = 1 := rfl
  clear h
  go_enter Try.func34, Try.ntmps34
  go_wp2_with (fail)
  go_loopw [7] (fun x wr => (x = .int .i64 0 ∨ x = .int .i64 1) ∧ wr = w) (fun x _ => 1 - (intOf x).toNat)
  case atStart => exact ⟨.inl rfl, rfl⟩
  case round =>
    obtain ⟨rfl | rfl, rfl⟩ := hrel
    · go_wp2_with (fail)
      go_roundw
      case rel => exact ⟨.inr rfl, by first | rfl | trivial⟩
      case measure => simp [intOf]
    · go_wp2_with (fail)
      go_end0
      exact ⟨rfl, HP.out⟩
end Go.Proofs.Ythlhiegbiapllaa
