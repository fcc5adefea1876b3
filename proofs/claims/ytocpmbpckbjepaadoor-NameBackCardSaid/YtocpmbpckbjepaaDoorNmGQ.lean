/- NmPaA, NmPaB, NmPaT, NmPaY: texts of one's own, in one file. -/
import Derived.Test.YtocpmbpckbjepaaDoorNmGC
import Derived.Test.YtocpmbpckbjepaaDoorShelf
import Derived.Test.YtocpmbpckbjepaaDoorNmGA
import Derived.Maps.AppendAt
/- Walks of both parsers' fail, is, take and need (printed by gen_pa.py). -/
namespace Go.Proofs.YtocpmbpckbjepaaDoor
open Go.RowKit
set_option linter.unusedVariables false
set_option linter.unusedSimpArgs false
/-- A parser's box, and what was before it. -/
structure Pb (c : Nat) (T : TypeId) (s : ByteArray) (i wr : Int) (w0 w : World) : Prop where
  bu : ButAt c w0 w
  box : w.heap[c]? = some (.cells #[.string s, .int .i64 i, .int .i64 wr] T (0, 0))
section
variable {c : Nat} {T : TypeId} {s : ByteArray} {i wr : Int} {w0 w w' : World}
theorem Pb.start (h : w.heap[c]? = some (.cells #[.string s, .int .i64 i, .int .i64 wr] T (0, 0))) : Pb c T s i wr w w := ⟨ButAt.refl _ _, h⟩
theorem Pb.trans {i' wr' : Int} (h : Pb c T s i wr w0 w) (h' : Pb c T s i' wr' w w') : Pb c T s i' wr' w0 w' := ⟨h.bu.trans h'.bu, h'.box⟩
theorem Pb.set1 (h : Pb c T s i wr w0 w) (j : Int) : Pb c T s j wr w0 (w.setCell ⟨c, 1, none⟩ (.int .i64 j)) := ⟨h.bu.trans (ButAt.set _ _ _), (block_set h.box (i := 1) (.int .i64 j)).trans rfl⟩
theorem Pb.step {x : Nat} (h : Pb c T s (x : Int) wr w0 w) : Pb c T s ((x + 1 : Nat) : Int) wr w0 (w.setCell ⟨c, 1, none⟩ (.int .i64 ((x : Int) + 1))) := by
  have := h.set1 ((x : Int) + 1)
  rwa [show (x : Int) + 1 = ((x + 1 : Nat) : Int) by omega] at this ⊢
theorem Pb.set2 (h : Pb c T s i wr w0 w) (j : Int) : Pb c T s i j w0 (w.setCell ⟨c, 2, none⟩ (.int .i64 j)) := ⟨h.bu.trans (ButAt.set _ _ _), (block_set h.box (i := 2) (.int .i64 j)).trans rfl⟩
theorem Pb.drew (h : Pb c T s i wr w0 w) : Pb c T s i wr w0 w.drew := ⟨⟨h.bu.be.drew, h.bu.keep⟩, h.box⟩
theorem Pb.drewN (h : Pb c T s i wr w0 w) (n : Nat) : Pb c T s i wr w0 (w.drewN n) := ⟨⟨below_drewN h.bu.be n, h.bu.keep⟩, h.box⟩
theorem Pb.alloc (h : Pb c T s i wr w0 w) (o : Obj) : Pb c T s i wr w0 (w.alloc o) := ⟨h.bu.alloc (Nat.le_of_lt (lt_of_block h.box)) o, block_below h.box ((Below.refl _ _).alloc (Nat.le_refl _) o)⟩
theorem Pb.c0 (h : Pb c T s i wr w0 w) : w.cell? ⟨c, 0, none⟩ = some (.string s) := (block_cell h.box 0).trans rfl
theorem Pb.c1 (h : Pb c T s i wr w0 w) : w.cell? ⟨c, 1, none⟩ = some (.int .i64 i) := (block_cell h.box 1).trans rfl
theorem Pb.c2 (h : Pb c T s i wr w0 w) : w.cell? ⟨c, 2, none⟩ = some (.int .i64 wr) := (block_cell h.box 2).trans rfl
theorem Pb.f1 (h : Pb c T s i wr w0 w) : w.frozen? ⟨c, 1, none⟩ = false := block_free h.box 1
theorem Pb.f2 (h : Pb c T s i wr w0 w) : w.frozen? ⟨c, 2, none⟩ = false := block_free h.box 2
end
theorem get_at (s : ByteArray) (k : Nat) (h : k < s.size) : s.data.toList[k]? = some s[k] := str_get s k h
theorem get_no (s : ByteArray) (k : Nat) (h : ¬ k < s.size) : s.data.toList[k]? = none := List.getElem?_eq_none (by rw [str_len]; omega)
theorem u8_ne {a b : UInt8} (h : ¬ a = b) : ¬ (a.toNat : Int) = (b.toNat : Int) := fun e => h (UInt8.toNat_inj.1 (by omega))
set_option maxHeartbeats 2000000 in
theorem nFail_newP (c : Nat) (s : ByteArray) (i a : Int) (w : World) (h : w.heap[c]? = some (.cells #[.string s, .int .i64 i, .int .i64 (-1)] 86 (0, 0))) :
    Calls Tryd.prog 40 #[.pointer (some ⟨c, 0, none⟩), .int .i64 a] w fun e w' => e = .returned (.tuple #[]) ∧ Pb c 86 s i a w w' := by
  have HP := hide (Pb.start h)
  have c2 := HP.out.c2
  have f2 := HP.out.f2
  clear h
  go_enter Tryd.func40, Tryd.ntmps40
  go_wp2_with (fail)
  go_end0
  exact ⟨rfl, HP.out.set2 a⟩
set_option maxHeartbeats 2000000 in
theorem nFail_oldP (c : Nat) (s : ByteArray) (i wr a : Int) (w : World) (h0 : 0 ≤ wr) (h : w.heap[c]? = some (.cells #[.string s, .int .i64 i, .int .i64 wr] 86 (0, 0))) :
    Calls Tryd.prog 40 #[.pointer (some ⟨c, 0, none⟩), .int .i64 a] w fun e w' => e = .returned (.tuple #[]) ∧ Pb c 86 s i wr w w' := by
  have HP := hide (Pb.start h)
  have c2 := HP.out.c2
  have h1 : decide (wr < 0) = false := by simp; omega
  clear h
  go_enter Tryd.func40, Tryd.ntmps40
  go_wp2_with (fail)
  go_end0
  exact ⟨rfl, HP.out⟩
/-- Whether a byte comes. -/
def isB (s : ByteArray) (i : Nat) (b : UInt8) : Bool := decide (s.data.toList[i]? = some b)
set_option maxRecDepth 100000 in
set_option maxHeartbeats 4000000 in
theorem nIs_on (c : Nat) (s : ByteArray) (i : Nat) (b : UInt8) (w : World) (hs : s.size ≤ 8000) (h : w.heap[c]? = some (.cells #[.string s, .int .i64 i, .int .i64 (-1)] 86 (0, 0))) :
    Calls Tryd.prog 38 #[.pointer (some ⟨c, 0, none⟩), .int .u8 b.toNat] w fun e w' => e = .returned (.bool (isB s i b)) ∧ Pb c 86 s i (-1) w w' := by
  have HP := hide (Pb.start h)
  have c0 := HP.out.c0
  have c1 := HP.out.c1
  have c2 := HP.out.c2
  clear h
  by_cases hlt : i < s.size
  · by_cases hb : s[i] = b
    · have E := hide (show isB s i b = true by rw [isB, get_at s i hlt, hb]; simp)
      have t1 : (s[i].toNat : Int) = (b.toNat : Int) := by rw [hb]
      clear hb
      go_enter Tryd.func38, Tryd.ntmps38
      go_wp2_with (go_quiet (fail))
      go_ret
      exact ⟨by rw [E.out]; rfl, HP.out.drewN _⟩
    · have E := hide (show isB s i b = false by rw [isB, get_at s i hlt]; simpa using hb)
      have t1 : ¬ (s[i].toNat : Int) = (b.toNat : Int) := u8_ne hb
      have t2 : ((s[i].toNat : Int) == (b.toNat : Int)) = false := by simpa using t1
      clear hb
      go_enter Tryd.func38, Tryd.ntmps38
      go_wp2_with (go_quiet (fail))
      go_ret
      exact ⟨by rw [E.out]; rfl, HP.out.drewN _⟩
  · have E := hide (show isB s i b = false by rw [isB, get_no s i hlt]; simp)
    have hlt' : decide ((i : Int) < (s.size : Int)) = false := by simp; omega
    go_enter Tryd.func38, Tryd.ntmps38
    go_wp2_with (go_quiet (fail))
    go_ret
    exact ⟨by rw [E.out]; rfl, HP.out.drewN _⟩
set_option maxHeartbeats 4000000 in
theorem nIs_off (c : Nat) (s : ByteArray) (i : Nat) (wr : Int) (b : UInt8) (w : World) (h0 : 0 ≤ wr) (h : w.heap[c]? = some (.cells #[.string s, .int .i64 i, .int .i64 wr] 86 (0, 0))) :
    Calls Tryd.prog 38 #[.pointer (some ⟨c, 0, none⟩), .int .u8 b.toNat] w fun e w' => e = .returned (.bool false) ∧ Pb c 86 s i wr w w' := by
  have HP := hide (Pb.start h)
  have c0 := HP.out.c0
  have c1 := HP.out.c1
  have c2 := HP.out.c2
  have h1 : decide (wr < 0) = false := by simp; omega
  clear h
  go_enter Tryd.func38, Tryd.ntmps38
  go_wp2_with (go_quiet (fail))
  go_ret
  exact ⟨rfl, HP.out.drewN _⟩
theorem needB_snoc (s : ByteArray) : ∀ (t : List UInt8) (i k : Nat) (b : UInt8), (∀ j d, j < k → t[j]? = some d → s.data.toList[i + j]? = some d) → t[k]? = some b → ¬ s.data.toList[i + k]? = some b → needB s t i = .bad (i + k)
  | [], _, _, _, _, h, _ => by simp at h
  | x :: t, i, 0, b, _, h1, h2 => by simp at h1; subst h1; rw [needB, if_neg (by simpa using h2)]; rfl
  | x :: t, i, k + 1, b, h, h1, h2 => by
    rw [needB, if_pos (by simpa using h 0 x (by omega) rfl), needB_snoc s t (i + 1) k b (fun j d hj hd => by have := h (j + 1) d (by omega) (by simpa using hd); rwa [show i + 1 + j = i + (j + 1) by omega]) (by simpa using h1) (by rwa [show i + 1 + k = i + (k + 1) by omega])]
    congr 1; omega
theorem needB_all (s : ByteArray) : ∀ (t : List UInt8) (i : Nat), (∀ j d, j < t.length → t[j]? = some d → s.data.toList[i + j]? = some d) → needB s t i = .ok (i + t.length) ()
  | [], _, _ => rfl
  | x :: t, i, h => by
    rw [needB, if_pos (by simpa using h 0 x (by simp) rfl), needB_all s t (i + 1) (fun j d hj hd => by have := h (j + 1) d (by simp; omega) (by simpa using hd); rwa [show i + 1 + j = i + (j + 1) by omega])]
    rw [List.length_cons]; congr 1; omega
/-- The box behind a result. -/
def After (c : Nat) (T : TypeId) (s : ByteArray) (w : World) {α : Type} (r : Res α) (w' : World) : Prop := match r with
  | .bad e => ∃ i : Nat, i ≤ s.size ∧ Pb c T s i e w w'
  | .ok i _ => Pb c T s i (-1) w w'
set_option maxRecDepth 100000 in
set_option maxHeartbeats 4000000 in
theorem nTake_on (c : Nat) (s t : ByteArray) (i : Nat) (w : World) (hs : s.size ≤ 8000) (ht : t.size ≤ 8000) (hi : i ≤ s.size) (h : w.heap[c]? = some (.cells #[.string s, .int .i64 i, .int .i64 (-1)] 86 (0, 0))) :
    Calls Tryd.prog 37 #[.pointer (some ⟨c, 0, none⟩), .string t] w fun e w' => e = .returned (.tuple #[]) ∧ After c 86 s w (needB s t.data.toList i) w' := by
  have HP := hide (Pb.start h)
  clear h
  go_enter Tryd.func37, Tryd.ntmps37
  go_wp2_with (fail)
  go_loopw [7] (fun x wr => ∃ k : Nat, k ≤ t.size ∧ i + k ≤ s.size ∧ x = .int .i64 k ∧ (∀ j d, j < k → t.data.toList[j]? = some d → s.data.toList[i + j]? = some d) ∧ Pb c 86 s ((i + k : Nat) : Int) (-1) w wr) (fun x _ => t.size - (intOf x).toNat)
  case atStart => exact ⟨0, Nat.zero_le _, hi, rfl, fun j d h => by omega, HP.out⟩
  case round =>
    obtain ⟨k, hk, hks, rfl, hall, hp⟩ := hrel
    have HALL := hide hall
    have HQ := hide hp
    have HC := hide (fun b => nIs_on c s (i + k) b wr hs hp.box)
    clear hall hp
    by_cases hlt : k < t.size
    · have HG := hide (get_at t k hlt)
      obtain ⟨v, hv⟩ : ∃ v, isB s (i + k) t[k] = v := ⟨_, rfl⟩
      have HC1 := hide (hv ▸ HC.out t[k])
      cases v
      · have E := hide (needB_snoc s t.data.toList i k t[k] HALL.out HG.out (by simpa [isB] using hv))
        clear hv
        go_wp2_with (first | (go_at_call 38; refine HC1.out.mono ?_; rintro e w1 ⟨rfl, hq1⟩; have HQ1 := hide hq1; have c1 := hq1.c1; have HF := hide (nFail_newP c s (i + k : Nat) (i + k : Nat) w1 hq1.box); clear hq1) | (go_at_call 40; refine HF.out.mono ?_; rintro e w2 ⟨rfl, hq2⟩; have HQ2 := hide hq2; clear hq2))
        ((try simp only [Exit.inBlock, Exit.then]); refine bodyPost_ret (results_none rfl _ _ _) rfl ?_)
        rw [E.out]
        exact ⟨rfl, i + k, hks, HQ.out.trans (HQ1.out.trans HQ2.out)⟩
      · have hs1 : s.data.toList[i + k]? = some t[k] := by simpa [isB] using hv
        have hks1 := get_lt hs1
        have HS1 := hide hs1
        clear hv hs1
        go_wp2_with (go_at_call 38; refine HC1.out.mono ?_; rintro e w1 ⟨rfl, hq1⟩; have HQ1 := hide (HQ.out.trans hq1); have c1 := hq1.c1; have f1 := hq1.f1; clear hq1)
        go_roundw
        case rel => exact ⟨k + 1, by omega, by omega, by go_num, fun j d hj hd => by (by_cases e : j = k); (subst e; rw [HG.out] at hd; cases hd; exact HS1.out); exact HALL.out j d (by omega) hd, (show ((i + k : Nat) : Int) + 1 = ((i + (k + 1) : Nat) : Int) by omega) ▸ HQ1.out.set1 _⟩
        case measure => simp [intOf]; omega
    · obtain rfl : k = t.size := by omega
      have E := hide (needB_all s t.data.toList i (fun j d hj hd => HALL.out j d (by rwa [str_len] at hj) hd))
      go_wp2_with (fail)
      go_end0
      rw [E.out, str_len]
      exact ⟨rfl, HQ.out⟩
set_option maxRecDepth 100000 in
set_option maxHeartbeats 4000000 in
theorem nTake_offP (c : Nat) (s t : ByteArray) (i : Nat) (wq : Int) (w : World) (h0 : 0 ≤ wq) (ht0 : 0 < t.size) (ht : t.size ≤ 8000) (h : w.heap[c]? = some (.cells #[.string s, .int .i64 i, .int .i64 wq] 86 (0, 0))) :
    Calls Tryd.prog 37 #[.pointer (some ⟨c, 0, none⟩), .string t] w fun e w' => e = .returned (.tuple #[]) ∧ Pb c 86 s i wq w w' := by
  have HP := hide (Pb.start h)
  have HC := hide (fun b => nIs_off c s i wq b w h0 h)
  clear h
  go_enter Tryd.func37, Tryd.ntmps37
  go_wp2_with (fail)
  go_loopw [7] (fun x wr => x = .int .i64 0 ∧ wr = w) (fun _ _ => 0)
  case atStart => exact ⟨rfl, rfl⟩
  case round =>
    obtain ⟨rfl, rfl⟩ := hrel
    go_wp2_with (first | (go_at_call 38; refine (HC.out t[0]).mono ?_; rintro e w1 ⟨rfl, hq1⟩; have HQ1 := hide hq1; have c1 := hq1.c1; have HF := hide (nFail_oldP c s i wq i w1 h0 hq1.box); clear hq1) | (go_at_call 40; refine HF.out.mono ?_; rintro e w2 ⟨rfl, hq2⟩; have HQ2 := hide hq2; clear hq2))
    ((try simp only [Exit.inBlock, Exit.then]); refine bodyPost_ret (results_none rfl _ _ _) rfl ?_)
    exact ⟨rfl, HQ1.out.trans HQ2.out⟩
theorem hasP_one (s : ByteArray) (i : Nat) (b : UInt8) : Lib.hasPrefix (s.extract i s.size).data.toList (⟨#[b]⟩ : ByteArray).data.toList = isB s i b := by
  have e : (s.extract i s.size).data.toList = s.data.toList.drop i := by
    rw [ByteArray.data_extract, Array.toList_extract, List.extract_eq_take_drop]
    exact List.take_of_length_le (by simp)
  have h : s.data.toList[i]? = (s.data.toList.drop i)[0]? := by rw [List.getElem?_drop]; rfl
  rw [e, isB, h]
  cases s.data.toList.drop i with
  | nil => rfl
  | cons x l =>
    by_cases hx : x = b
    · subst hx; simp [Lib.hasPrefix]
    · have hx' : ¬ b = x := fun e => hx e.symm
      simp [Lib.hasPrefix, List.isPrefixOf, hx, hx']
/-- The worlds with the parser's box as it is: a family that calls do not leave. -/
theorem pfam {c : Nat} {T : TypeId} {s : ByteArray} {i wq : Int} {w0 w : World} (h : Pb c T s i wq w0 w) : ∃ (I : Type) (F : I → World), (∃ j, w.drew = F j) ∧ (∀ j, Pb c T s i wq w0 (F j)) ∧ ∀ j w', w' = F j → ∃ k, w' = F k :=
  ⟨{ w' : World // Pb c T s i wq w0 w' }, Subtype.val, ⟨⟨w.drew, h.drew⟩, rfl⟩, fun j => j.2, fun j w' e => ⟨j, e⟩⟩
theorem one_cut (b : UInt8) : (⟨#[b]⟩ : ByteArray).extract 0 1 = ⟨#[b]⟩ := rfl
end Go.Proofs.YtocpmbpckbjepaaDoor

/- Walks of both parsers' ident and word (printed by gen_pb.py). -/
namespace Go.Proofs.YtocpmbpckbjepaaDoor
open Go.RowKit
set_option linter.unusedVariables false
set_option linter.unusedSimpArgs false
/-- Where the box at c says that it stands. -/
def atOf (c : Nat) (w : World) : Nat := match w.cell? ⟨c, 1, none⟩ with
  | some (.int _ n) => n.toNat
  | _ => 0
theorem atOf_pb {c : Nat} {T : TypeId} {s : ByteArray} {i : Nat} {wr : Int} {w0 w : World} (h : Pb c T s i wr w0 w) : atOf c w = i := by
  unfold atOf; rw [h.c1]; simp
theorem okId_get {s : ByteArray} {j i : Nat} (h : j < s.size) : (∀ c, s.data.toList[j]? = some c → okId i c = okId i s[j]) := fun c hc => by rw [get_at s j h] at hc; cases hc; rfl
theorem ext_nil (s : ByteArray) (i : Nat) : s.extract i i = ⟨#[]⟩ := str_empty (by simp)
theorem okId_first (c : UInt8) : okId 0 c = lettB c := by simp [okId]
theorem okId_rest {j : Nat} (h : 0 < j) (c : UInt8) : okId j c = (lettB c || digB c) := by simp [okId, h]
/-- Where it is wrong behind an identifier at i. -/
def idWr (s : ByteArray) (i : Nat) : Int := if idL s i = 0 then (i : Int) else -1
theorem idL_at {s : ByteArray} {i x : Nat} (hix : i ≤ x) (hk : x ≤ s.size) (h1 : ∀ j, i ≤ j → j < x → ∀ d, s.data.toList[j]? = some d → okId (j - i) d = true) (h2 : ∀ d, s.data.toList[x]? = some d → okId (x - i) d = false) : idL s i = x - i := by
  refine idL_is s i (x - i) (by omega) (fun j hj d hd => ?_) (fun d hd => h2 d (by rwa [show i + (x - i) = x by omega] at hd))
  have := h1 (i + j) (by omega) (by omega) d hd
  rwa [show i + j - i = j by omega] at this
theorem idL_no (s : ByteArray) (i : Nat) (h : ¬ i < s.size) : idL s i = 0 := by
  have : s.data.toList.drop i = [] := List.drop_eq_nil_of_le (by rw [str_len]; omega)
  unfold idL; rw [this]; rfl
set_option maxRecDepth 100000 in
set_option maxHeartbeats 8000000 in
theorem nIdent_onP (c : Nat) (s : ByteArray) (i : Nat) (w : World) (hs : s.size ≤ 8000) (hi : i ≤ s.size) (h : w.heap[c]? = some (.cells #[.string s, .int .i64 i, .int .i64 (-1)] 86 (0, 0))) :
    Calls Tryd.prog 36 #[.pointer (some ⟨c, 0, none⟩)] w fun e w' => e = .returned (.string (s.extract i (i + idL s i))) ∧ Pb c 86 s ((i + idL s i : Nat) : Int) (idWr s i) w w' := by
  have HP := hide (Pb.start h)
  have c1 := HP.out.c1
  clear h
  go_enter Tryd.func36, Tryd.ntmps36
  go_wp2_with (fail)
  go_loopw [] (fun wr => ∃ x : Nat, i ≤ x ∧ x ≤ s.size ∧ (∀ j, i ≤ j → j < x → ∀ d, s.data.toList[j]? = some d → okId (j - i) d = true) ∧ Pb c 86 s (x : Int) (-1) w wr) (fun wr => s.size - atOf c wr)
  case atStart => exact ⟨i, Nat.le_refl _, hi, fun j h h' => by omega, HP.out⟩
  case round =>
    obtain ⟨x, hix, hk, hall, hp⟩ := hrel
    have HALL := hide hall
    have HQ := hide hp
    have c0 := hp.c0
    have c1 := hp.c1
    have c2 := hp.c2
    have f1 := hp.f1
    have HAT := hide (atOf_pb hp)
    clear hall hp
    by_cases hlt : x < s.size
    · have HL := hide (fun W => isLetter_any s[x] W)
      have HD := hide (fun W => isDigit_any s[x] W)
      cases hl : lettB s[x]
      · by_cases hk0 : i < x
        · have hik : (i : Int) < (x : Int) := by omega
          have hne : ((x : Int) == (i : Int)) = false := by simp; omega
          have hne2 : ¬ (x : Int) = (i : Int) := by omega
          cases hd : digB s[x]
          · have E := hide (show idL s i = x - i from idL_at hix hk HALL.out (fun d h => by rw [okId_get hlt d h, okId_rest (by omega), hl, hd]; rfl))
            rw [hl] at HL
            rw [hd] at HD
            clear hl hd
            go_wp2_with (first | go_quiet (first | (go_at_call 63; exact Calls.quiet_of_same (HL.out _)) | (go_at_call 64; exact Calls.quiet_of_same (HD.out _))))
            go_ret
            rw [idWr, E.out, if_neg (by omega), show i + (x - i) = x by omega]
            exact ⟨rfl, (HQ.out.drewN _).drewN _⟩
          · have HK := hide (show okId (x - i) s[x] = true by rw [okId_rest (by omega), hl, hd]; rfl)
            rw [hl] at HL
            rw [hd] at HD
            clear hl hd
            go_wp2_with (first | go_quiet (first | (go_at_call 63; exact Calls.quiet_of_same (HL.out _)) | (go_at_call 64; exact Calls.quiet_of_same (HD.out _))))
            go_roundw
            case rel => exact ⟨x + 1, by omega, by omega, fun j h1 h2 d hd => by (by_cases e : j = x); (subst e; rw [get_at s _ hlt] at hd; cases hd; exact HK.out); exact HALL.out j h1 (by omega) d hd, (HQ.out.drewN _).step⟩
            case measure => rw [HAT.out, atOf_pb (i := x + 1) ((HQ.out.drewN _).step)]; omega
        · have E := hide (show idL s i = x - i from idL_at hix hk HALL.out (fun d h => by rw [okId_get hlt d h, okId, hl]; simp; omega))
          have hik : decide ((i : Int) < (x : Int)) = false := by simp; omega
          rw [hl] at HL
          clear hl
          obtain rfl : x = i := by omega
          have HF := hide (fun W (hq : Pb c 86 s x (-1) w W) => nFail_newP c s x x W hq.box)
          go_wp2_with (first | go_quiet (first | (go_at_call 63; exact Calls.quiet_of_same (HL.out _)) | (go_at_call 64; exact Calls.quiet_of_same (HD.out _))) | (go_at_call 40; refine (HF.out _ (by first | exact HQ.out | exact HQ.out.drewN _)).mono ?_; rintro e w2 ⟨rfl, hq2⟩; have c0 := hq2.c0; have c1 := hq2.c1; have HQ2 := hide (Pb.trans (HQ.out.drewN _) hq2); clear hq2))
          go_ret
          rw [idWr, E.out, if_pos (by omega), show x + (x - x) = x by omega]
          exact ⟨by rw [ext_nil]; rfl, HQ2.out.drewN _⟩
      · have HK := hide (show okId (x - i) s[x] = true by rw [okId, hl]; rfl)
        rw [hl] at HL
        clear hl
        go_wp2_with (first | go_quiet (first | (go_at_call 63; exact Calls.quiet_of_same (HL.out _)) | (go_at_call 64; exact Calls.quiet_of_same (HD.out _))))
        go_roundw
        case rel => exact ⟨x + 1, by omega, by omega, fun j h1 h2 d hd => by (by_cases e : j = x); (subst e; rw [get_at s _ hlt] at hd; cases hd; exact HK.out); exact HALL.out j h1 (by omega) d hd, (HQ.out.drewN _).step⟩
        case measure => rw [HAT.out, atOf_pb (i := x + 1) ((HQ.out.drewN _).step)]; omega
    · have E := hide (show idL s i = x - i from idL_at hix hk HALL.out (fun d h => by rw [get_no s _ hlt] at h; cases h))
      have hlt' : decide ((x : Int) < (s.size : Int)) = false := by simp; omega
      by_cases hk0 : i < x
      · have hne : ((x : Int) == (i : Int)) = false := by simp; omega
        have hne2 : ¬ (x : Int) = (i : Int) := by omega
        go_wp2_with (first | go_quiet (fail))
        go_ret
        rw [idWr, E.out, if_neg (by omega), show i + (x - i) = x by omega]
        exact ⟨rfl, (HQ.out.drewN _).drewN _⟩
      · obtain rfl : x = i := by omega
        have HF := hide (fun W (hq : Pb c 86 s x (-1) w W) => nFail_newP c s x x W hq.box)
        go_wp2_with (first | go_quiet (fail) | (go_at_call 40; refine (HF.out _ (by first | exact HQ.out | exact HQ.out.drewN _)).mono ?_; rintro e w2 ⟨rfl, hq2⟩; have c0 := hq2.c0; have c1 := hq2.c1; have HQ2 := hide (Pb.trans (HQ.out.drewN _) hq2); clear hq2))
        go_ret
        rw [idWr, E.out, if_pos (by omega), show x + (x - x) = x by omega]
        exact ⟨by rw [ext_nil]; rfl, HQ2.out.drewN _⟩
set_option maxHeartbeats 4000000 in
theorem nIdent_off (c : Nat) (s : ByteArray) (i : Nat) (wq : Int) (w : World) (h0 : 0 ≤ wq) (hs : s.size ≤ 8000) (hi : i ≤ s.size) (h : w.heap[c]? = some (.cells #[.string s, .int .i64 i, .int .i64 wq] 86 (0, 0))) :
    Calls Tryd.prog 36 #[.pointer (some ⟨c, 0, none⟩)] w fun e w' => e = .returned (.string ⟨#[]⟩) ∧ Pb c 86 s i wq w w' := by
  have HP := hide (Pb.start h)
  have c0 := HP.out.c0
  have c1 := HP.out.c1
  have c2 := HP.out.c2
  have h1 : decide (wq < 0) = false := by simp; omega
  clear h
  go_enter Tryd.func36, Tryd.ntmps36
  go_wp2_with (fail)
  go_loopw [] (fun wr => wr = w) (fun wr => 0)
  case atStart => exact rfl
  case round =>
    obtain rfl := hrel
    go_wp2_with (first | go_quiet (fail))
    go_ret
    exact ⟨rfl, (HP.out.drewN _).drewN _⟩
end Go.Proofs.YtocpmbpckbjepaaDoor

/- Rows of trees that are being filled; what the parsers' calls answer. No walk. -/
namespace Go.Proofs.YtocpmbpckbjepaaDoor
open Go.RowKit
set_option linter.unusedVariables false
/-- A thing that stays where its blocks stay. -/
def StayR {α : Type} (R : World → (Nat → Prop) → α → List Value → Prop) : Prop := ∀ (w w' : World) (S S' : Nat → Prop) (a : α) (cs : List Value), R w S a cs → StayS S w w' → (∀ b, S b → b < w.heap.size → S' b) → R w' S' a cs
theorem flatten_get {sz : Nat} : ∀ (css : List (List Value)) (i j : Nat) (c : List Value) (u : Value), (∀ c ∈ css, c.length = sz) → css[i]? = some c → c[j]? = some u → css.flatten[i * sz + j]? = some u := by
  intro css
  induction css with
  | nil => intro i j c u _ h; simp at h
  | cons x l ih =>
    intro i j c u hs hc hu
    have hx := hs x (by simp)
    rw [List.flatten_cons]
    cases i with
    | zero =>
      simp at hc; subst hc
      have hj : j < x.length := (List.getElem?_eq_some_iff.1 hu).1
      rw [Nat.zero_mul, Nat.zero_add, List.getElem?_append_left hj]
      exact hu
    | succ i =>
      have := ih i j c u (fun c hc => hs c (by simp [hc])) (by simpa using hc) hu
      rw [List.getElem?_append_right (by rw [hx, Nat.succ_mul]; omega), hx, Nat.succ_mul, show i * sz + sz + j - sz = i * sz + j by omega]
      exact this
section
variable {α : Type} {R : World → (Nat → Prop) → α → List Value → Prop} {w w1 w2 : World} {base sz n : Nat} {e : TypeId} {v v' : Value} {l : List α}
theorem OwnT.nil (w : World) (base : Nat) (e : TypeId) (sz : Nat) : OwnT w base e sz R (.slice none 0 0) 0 [] := ⟨[], World.ownsRow_nil _ _ _ _, rfl, rfl, fun i a c h => by simp at h⟩
theorem OwnT.len (h : OwnT w base e sz R v n l) : l.length = n := h.choose_spec.2.2.1
theorem OwnT.slice (h : OwnT w base e sz R v n l) : ∃ A c, v = .slice A n c := by
  obtain ⟨css, ho, _⟩ := h
  rcases ho.2 with ⟨rfl, rfl⟩ | ⟨g, cap, cur, rfl, _⟩
  · exact ⟨_, _, rfl⟩
  · exact ⟨_, _, rfl⟩
theorem OwnT.butAt {c : Nat} (hR : StayR R) (h : OwnT w base e sz R v n l) (hb : ButAt c w w1) (hc : c < base) : OwnT w1 base e sz R v n l := by
  obtain ⟨css, ho, h1, h2, h3⟩ := h
  refine ⟨css, ⟨ho.1, ?_⟩, h1, h2, fun i a cs ha hcs => ⟨(h3 i a cs ha hcs).1, hR w w1 _ _ a cs (h3 i a cs ha hcs).2 ⟨hb.be.size, fun b o hs hbo => hb.keep b o hbo (by omega)⟩ (fun b hs _ => hs)⟩⟩
  rcases ho.2 with h0 | ⟨g, cap, cur, q1, q2, q3, q4⟩
  · exact .inl h0
  · exact .inr ⟨g, cap, cur, q1, q2, hb.keep g _ q3 (by omega), q4⟩
theorem OwnT.push1 (hR : StayR R) (h : OwnT w base e sz R v n l) {a : α} {c : List Value} (hc : c.length = sz) (ha : R w (fun b => base ≤ b ∧ v.ownBlock ≠ some b) a c) {o : Obj}
    (ho : w2.ownsRow base e sz v' (n + 1) (h.choose.flatten ++ c)) (hg : (w.alloc o).grownBy w2 v.ownBlock) (hv : v'.ownBlock = v.ownBlock ∨ v'.ownBlock = some (w.alloc o).heap.size) :
    OwnT w2 base e sz R v' (n + 1) (l ++ [a]) := by
  have hsp := h.choose_spec
  revert ho hsp
  generalize h.choose = css
  intro ho hsp
  obtain ⟨how, h1, h2, h3⟩ := hsp
  have hst : StayS (fun b => base ≤ b ∧ v.ownBlock ≠ some b) w w2 := ⟨by have := hg.size; simp at this; omega, fun b ob hs hbo => by
    have hlt := lt_of_block hbo
    exact (hg.block b (by simp; omega) (fun e => hs.2 e.symm)).trans (block_below hbo ((Below.refl _ _).alloc (Nat.le_refl _) o))⟩
  have hS : ∀ b, (base ≤ b ∧ v.ownBlock ≠ some b) → b < w.heap.size → (base ≤ b ∧ v'.ownBlock ≠ some b) := fun b hb hlt => ⟨hb.1, by
    rcases hv with e | e
    · rw [e]; exact hb.2
    · rw [e]; simp; omega⟩
  refine ⟨css ++ [c], ?_, by simp [h1], by simp [h2], fun i x cs hx hcs => ?_⟩
  · simpa using ho
  · by_cases hi : i < n
    · rw [List.getElem?_append_left (by omega)] at hx hcs
      exact ⟨(h3 i x cs hx hcs).1, hR w w2 _ _ x cs (h3 i x cs hx hcs).2 hst hS⟩
    · rw [List.getElem?_append_right (by omega)] at hx hcs
      have hi0 : i - l.length = 0 := by
        rcases Nat.eq_zero_or_pos (i - l.length) with e0 | e0
        · exact e0
        · rw [List.getElem?_eq_none (by simp; omega)] at hx; cases hx
      rw [hi0] at hx
      rw [show i - css.length = 0 by omega] at hcs
      simp at hx hcs
      subst hx; subst hcs
      exact ⟨hc, hR w w2 _ _ _ _ ha hst hS⟩
theorem OwnT.done (hR : StayR R) (h : OwnT w base e sz R v n l) : ∃ A cap, v = .slice A n cap ∧ n ≤ cap ∧ cap ≤ maxLen ∧ SlS w (fun b => base ≤ b) sz (R w (fun b => base ≤ b)) A n l := by
  obtain ⟨css, how, h1, h2, h3⟩ := h
  rcases how.2 with ⟨rfl, h0⟩ | ⟨g, cap, cur, rfl, hg, hh, hnc, hcm, _, _⟩
  · subst h0
    obtain rfl : l = [] := List.eq_nil_of_length_eq_zero h2
    exact ⟨none, 0, rfl, Nat.le_refl _, Nat.zero_le _, SlS.nil _ _ _ _ _⟩
  · refine ⟨some ⟨g, 0, none⟩, cap, rfl, hnc, hcm, h2, fun hn => ⟨g, 0, rfl, hg, lt_of_block hh, fun i a ha => ?_⟩⟩
    have hi : i < css.length := by have := (List.getElem?_eq_some_iff.1 ha).1; omega
    have hcs := List.getElem?_eq_getElem hi
    have h4 := h3 i a _ ha hcs
    refine ⟨css[i], hR w w _ _ a _ h4.2 (StayS.refl _ _) (fun b hb _ => hb.1), fun j u hu => ?_⟩
    have hall : ∀ c ∈ css, c.length = sz := fun c hc => by
      obtain ⟨k, hk, rfl⟩ := List.mem_iff_getElem.1 hc
      exact (h3 k _ _ (List.getElem?_eq_getElem (by omega)) (List.getElem?_eq_getElem hk)).1
    have hk := flatten_get css i j _ u hall hcs hu
    have hc := how.cells (g := g) rfl _ _ hk
    have e : ((⟨g, 0, none⟩ : Addr).add (i * sz + j)) = ⟨g, 0 + i * sz + j, none⟩ := by
      unfold Addr.add; split
      · rename_i e; rw [Nat.zero_add, e]
      · simp
    rw [e] at hc
    exact hc
theorem OwnT.lt (h : OwnT w base e sz R v n l) : ∀ k, v.ownBlock = some k → base ≤ k ∧ k < w.heap.size := h.choose_spec.1.lt
end
/-- 1 where the box at c says that nothing is wrong, else 0. -/
def onOf (c : Nat) (w : World) : Nat := match w.cell? ⟨c, 2, none⟩ with
  | some (.int _ n) => if n < 0 then 1 else 0
  | _ => 0
theorem onOf_on {c : Nat} {T : TypeId} {s : ByteArray} {i : Int} {w0 w : World} (h : Pb c T s i (-1) w0 w) : onOf c w = 1 := by
  unfold onOf; rw [h.c2]; rfl
theorem onOf_off {c : Nat} {T : TypeId} {s : ByteArray} {i : Int} {e : Nat} {w0 w : World} (h : Pb c T s i (e : Int) w0 w) : onOf c w = 0 := by
  unfold onOf; rw [h.c2]; simp
theorem own_sliceP {w : World} {base sz n : Nat} {e : TypeId} {v : Value} {xs : List Value} (h : w.ownsRow base e sz v n xs) : ∃ a c, v = .slice a n c := by
  rcases h.2 with ⟨rfl, rfl⟩ | ⟨g, cap, cur, rfl, _⟩
  · exact ⟨_, _, rfl⟩
  · exact ⟨_, _, rfl⟩
def TyR (f : Nat) (w : World) (S : Nat → Prop) (t : Ty) (cs : List Value) : Prop := TyS w S f t cs
def PartR (f : Nat) (w : World) (S : Nat → Prop) (p : Part) (cs : List Value) : Prop := PartS w S (TyS w S f) p cs
theorem stay_ty (f : Nat) : StayR (TyR f) := fun w w' S S' t cs h hst hS => TyS.stay hst hS h
theorem stay_part (f : Nat) : StayR (PartR f) := fun w w' S S' p cs h hst hS => PartS.stay h hst hS (fun a cs h => TyS.stay hst hS h)
/-- The box behind an append to a row that is not the box. -/
theorem Pb.grown {c : Nat} {T : TypeId} {s : ByteArray} {i wr : Int} {w0 w w2 : World} {base : Nat} {v : Value} {o : Obj} (h : Pb c T s i wr w0 w) (hg : (w.alloc o).grownBy w2 v.ownBlock) (hv : ∀ k, v.ownBlock = some k → base ≤ k ∧ k < w.heap.size)
    (hb : w0.heap.size ≤ base) (hc : c < base) : Pb c T s i wr w0 w2 := by
  have hlt := lt_of_block h.box
  have hz := h.bu.be.size
  have ha := h.alloc o
  refine ⟨⟨ha.bu.be.grown hg (by simp; omega) (fun k hk => by have := (hv k hk).1; omega), fun k ob hk hne => ?_⟩, ?_⟩
  · exact (hg.block k (lt_of_block (ha.bu.keep k ob hk hne)) (fun e => by have := (hv k e.symm).1; have := lt_of_block hk; omega)).trans (ha.bu.keep k ob hk hne)
  · exact (hg.block c (by simp; omega) (fun e => by have := (hv c e.symm).1; omega)).trans ha.box
theorem size_grown {w w2 : World} {o : Obj} {r : Option Nat} (hg : (w.alloc o).grownBy w2 r) : w.heap.size ≤ w2.heap.size := by have := hg.size; simp at this; omega
theorem Pb.size {c : Nat} {T : TypeId} {s : ByteArray} {i wr : Int} {w0 w : World} (h : Pb c T s i wr w0 w) : w0.heap.size ≤ w.heap.size := h.bu.be.size
theorem Pb.lt {c : Nat} {T : TypeId} {s : ByteArray} {i wr : Int} {w0 w : World} (h : Pb c T s i wr w0 w) : c < w.heap.size := lt_of_block h.box
theorem After.bad {c : Nat} {T : TypeId} {s : ByteArray} {w w' : World} {α : Type} {r : Res α} {e : Nat} (h : After c T s w r w') (hr : r = .bad e) : ∃ i : Nat, i ≤ s.size ∧ Pb c T s i e w w' := by subst hr; exact h
theorem After.ok {c : Nat} {T : TypeId} {s : ByteArray} {w w' : World} {α : Type} {r : Res α} {i : Nat} {a : α} (h : After c T s w r w') (hr : r = .ok i a) : Pb c T s i (-1) w w' := by subst hr; exact h
theorem After.of_bad {c : Nat} {T : TypeId} {s : ByteArray} {w w' : World} {α : Type} {r : Res α} {e i : Nat} (hr : r = .bad e) (hi : i ≤ s.size) (h : Pb c T s i e w w') : After c T s w r w' := by subst hr; exact ⟨i, hi, h⟩
theorem After.of_ok {c : Nat} {T : TypeId} {s : ByteArray} {w w' : World} {α : Type} {r : Res α} {i : Nat} {a : α} (hr : r = .ok i a) (h : Pb c T s i (-1) w w') : After c T s w r w' := by subst hr; exact h
/-- Lists of trees that were made behind w. -/
def TysNew (f : Nat) (w w' : World) (A : Option Addr) (n cap : Nat) (l : List Ty) : Prop := OwnT w' w.heap.size 75 3 (TyR f) (.slice A n cap) n l
/-- A row of one's own, whatever it holds. -/
def OwnAny (w : World) (base : Nat) (e : TypeId) (sz : Nat) (v : Value) (n : Nat) : Prop := ∃ xs, w.ownsRow base e sz v n xs
theorem OwnAny.butAt {c : Nat} {w w1 : World} {base sz n : Nat} {e : TypeId} {v : Value} (h : OwnAny w base e sz v n) (hb : ButAt c w w1) (hc : c < base) : OwnAny w1 base e sz v n := by
  obtain ⟨xs, h0, h1⟩ := h
  refine ⟨xs, h0, ?_⟩
  rcases h1 with h1 | ⟨g, cap, cur, q1, q2, q3, q4⟩
  · exact .inl h1
  · exact .inr ⟨g, cap, cur, q1, q2, hb.keep g _ q3 (by omega), q4⟩
theorem OwnT.any {α : Type} {R : World → (Nat → Prop) → α → List Value → Prop} {w : World} {base sz n : Nat} {e : TypeId} {v : Value} {l : List α} (h : OwnT w base e sz R v n l) : OwnAny w base e sz v n := ⟨_, h.choose_spec.1⟩
def PartsNew (f : Nat) (w w' : World) (A : Option Addr) (n cap : Nat) (l : List Part) : Prop := n ≤ cap ∧ cap ≤ maxLen ∧ SlS w' (fun b => w.heap.size ≤ b) 2 (PartS w' (fun b => w.heap.size ≤ b) (TyS w' (fun b => w.heap.size ≤ b) f)) A n l
theorem isB_true {s : ByteArray} {i : Nat} {b : UInt8} (h : isB s i b = true) : s.data.toList[i]? = some b := by simpa [isB] using h
theorem isB_false {s : ByteArray} {i : Nat} {b : UInt8} (h : isB s i b = false) : ¬ s.data.toList[i]? = some b := by simpa [isB] using h
theorem pTys_bad {s : ByteArray} {one : Nat → Res Ty} {g i e : Nat} {acc : List Ty} (h : one i = .bad e) : pTys s one (g + 1) acc i = .bad e := by unfold pTys; rw [h]; rfl
theorem pTys_end {s : ByteArray} {one : Nat → Res Ty} {g i j : Nat} {acc : List Ty} {t : Ty} (h : one i = .ok j t) (h2 : isB s j 44 = false) : pTys s one (g + 1) acc i = .ok j (acc ++ [t]) := by
  unfold pTys; rw [h]; simp only [Res.bind]; rw [if_neg (isB_false h2)]
theorem pTys_no {s : ByteArray} {one : Nat → Res Ty} {g i j e : Nat} {acc : List Ty} {t : Ty} (h : one i = .ok j t) (h2 : isB s j 44 = true) (h3 : needB s [32] (j + 1) = .bad e) : pTys s one (g + 1) acc i = .bad e := by
  unfold pTys; rw [h]; simp only [Res.bind]; rw [if_pos (isB_true h2), h3]
theorem pTys_go {s : ByteArray} {one : Nat → Res Ty} {g i j k : Nat} {u : Unit} {acc : List Ty} {t : Ty} (h : one i = .ok j t) (h2 : isB s j 44 = true) (h3 : needB s [32] (j + 1) = .ok k u) : pTys s one (g + 1) acc i = pTys s one g (acc ++ [t]) k := by
  rw [pTys, h]; simp only [Res.bind]; rw [if_pos (isB_true h2), h3]
theorem need_two {s : ByteArray} {a b : UInt8} {j : Nat} (h : isB s j a = true) : needB s [a, b] j = needB s [b] (j + 1) := by rw [needB, if_pos (isB_true h)]
theorem nIs_yes (c : Nat) (s : ByteArray) (i : Nat) (b : UInt8) (w : World) (hs : s.size ≤ 8000) (hi : i ≤ s.size) (hv : isB s i b = true) (h : w.heap[c]? = some (.cells #[.string s, .int .i64 i, .int .i64 (-1)] 86 (0, 0))) :
    Calls Tryd.prog 38 #[.pointer (some ⟨c, 0, none⟩), .int .u8 b.toNat] w fun e w' => e = .returned (.bool true) ∧ Pb c 86 s i (-1) w w' := hv ▸ nIs_on c s i b w hs h
theorem nIs_no (c : Nat) (s : ByteArray) (i : Nat) (b : UInt8) (w : World) (hs : s.size ≤ 8000) (hi : i ≤ s.size) (hv : isB s i b = false) (h : w.heap[c]? = some (.cells #[.string s, .int .i64 i, .int .i64 (-1)] 86 (0, 0))) :
    Calls Tryd.prog 38 #[.pointer (some ⟨c, 0, none⟩), .int .u8 b.toNat] w fun e w' => e = .returned (.bool false) ∧ Pb c 86 s i (-1) w w' := hv ▸ nIs_on c s i b w hs h
end Go.Proofs.YtocpmbpckbjepaaDoor

/- Walks of the parsers' types and list (printed by gen_pt.py). -/
namespace Go.Proofs.YtocpmbpckbjepaaDoor
open Go.RowKit
set_option linter.unusedVariables false
set_option linter.unusedSimpArgs false
theorem info_tyP : (Tryd.prog.info? 75).map (fun i => (i.zero, i.size, i.bytes)) = some (some (.agg #[.int .i64 0, .slice none 0 0, .slice none 0 0]), 3, 56) := by kernel_rfl
/-- What the call of 'one' answers, f types from the bottom. -/
def nOneOkP (f : Nat) : Prop := ∀ (c : Nat) (s : ByteArray) (i : Nat) (d : Int) (w : World), s.size ≤ 8000 → i ≤ s.size → d = 12 - (f : Int) → w.heap[c]? = some (.cells #[.string s, .int .i64 i, .int .i64 (-1)] 86 (0, 0)) →
  Calls Tryd.prog 65 #[.pointer (some ⟨c, 0, none⟩), .int .i64 d] w fun e w' => ∃ (k : Int) (A : Option Addr) (n q : Nat) (A' : Option Addr) (n' q' : Nat), e = .returned (.agg #[.int .i64 k, .slice A n q, .slice A' n' q']) ∧
    After c 86 s w (pOne s f i) w' ∧ ∀ j t, pOne s f i = .ok j t → TyR f w' (fun b => w.heap.size ≤ b) t [.int .i64 k, .slice A n q, .slice A' n' q']
def nTysOkP (f : Nat) : Prop := ∀ (c : Nat) (s : ByteArray) (i : Nat) (d : Int) (w : World), s.size ≤ 8000 → i ≤ s.size → d = 12 - (f : Int) → w.heap[c]? = some (.cells #[.string s, .int .i64 i, .int .i64 (-1)] 86 (0, 0)) →
  Calls Tryd.prog 39 #[.pointer (some ⟨c, 0, none⟩), .int .i64 d] w fun e w' => ∃ (A : Option Addr) (n q : Nat), e = .returned (.slice A n q) ∧ n ≤ s.size + 1 ∧ OwnAny w' w.heap.size 75 3 (.slice A n q) n ∧
    After c 86 s w (pTys s (pOne s f) (s.size + 1) [] i) w' ∧ ∀ j l, pTys s (pOne s f) (s.size + 1) [] i = .ok j l → TysNew f w w' A n q l
set_option maxRecDepth 100000 in
set_option maxHeartbeats 8000000 in
theorem nTys_ofP {f : Nat} (H : nOneOkP f) : nTysOkP f := by
  intro c s i d w hs hi hd h
  obtain ⟨i0, hi0, iz0, iz1, iz2⟩ := info_parts info_tyP
  have HP := hide (Pb.start h)
  have hcw := lt_of_block h
  have HONE := hide H
  have HD := hide hd
  clear h H hd
  obtain ⟨R, hR⟩ : ∃ R, pTys s (pOne s f) (s.size + 1) [] i = R := ⟨_, rfl⟩
  rw [hR]
  have HRR := hide hR
  clear hR
  go_enter Tryd.func39, Tryd.ntmps39
  go_wp2_with (fail)
  go_loopw [5] (fun vrow wr => (∃ (n g i : Nat) (acc : List Ty), OwnT wr w.heap.size 75 3 (TyR f) vrow n acc ∧ n ≤ i ∧ i ≤ s.size ∧ s.size < i + g ∧ pTys s (pOne s f) g acc i = R ∧ Pb c 86 s i (-1) w wr) ∨
    (∃ (A : Option Addr) (n q e i : Nat), vrow = .slice A n q ∧ n ≤ s.size + 1 ∧ OwnAny wr w.heap.size 75 3 (.slice A n q) n ∧ R = .bad e ∧ i ≤ s.size ∧ Pb c 86 s i e w wr)) (fun _ wr => onOf c wr * (s.size - atOf c wr + 1))
  case atStart => exact .inl ⟨0, s.size + 1, i, [], OwnT.nil _ _ _ _, Nat.zero_le _, hi, by omega, HRR.out, HP.out⟩
  case round =>
    rcases hrel with ⟨n, g, x, acc, hown, hnx, hx, hg, hR, hp⟩ | ⟨A, n, q, e, x, rfl, hn8, hoa, hR, hx, hp⟩
    · obtain ⟨g, rfl⟩ : ∃ g', g = g' + 1 := ⟨g - 1, by omega⟩
      have c1 := hp.c1
      have c2 := hp.c2
      have hzw := hp.size
      have HQ := hide hp
      have HOW := hide hown
      have HR := hide hR
      have HMS := hide (show onOf c wr * (s.size - atOf c wr + 1) = s.size - x + 1 by rw [atOf_pb hp, onOf_on hp, Nat.one_mul])
      have HC := hide (HONE.out c s x d wr hs hx HD.out hp.box)
      have HXF := hide (pOne_from s f x hx)
      clear hown hp hR
      cases hr : pOne s f x with
      | bad e =>
        have HE := hide (HR.out.symm.trans (pTys_bad hr))
        have HC1 := hide (show Calls Tryd.prog 65 #[.pointer (some ⟨c, 0, none⟩), .int .i64 d] wr fun ee w' => ∃ (k : Int) (A : Option Addr) (n q : Nat) (A' : Option Addr) (n' q' : Nat), ee = .returned (.agg #[.int .i64 k, .slice A n q, .slice A' n' q']) ∧ ∃ i : Nat, i ≤ s.size ∧ Pb c 86 s i e wr w' from HC.out.mono fun ee w' ⟨k, A, n, q, A', n', q', h1, h2, _⟩ => ⟨k, A, n, q, A', n', q', h1, h2.bad hr⟩)
        clear hr
        go_wp2_with (first
          | (go_at_call 65; refine HC1.out.mono ?_; rintro r w1 ⟨k, A1, n1, q1, A2, n2, q2, rfl, y, hy, hq1⟩; have HO1 := hide (HOW.out.butAt (stay_ty f) hq1.bu hcw); have HQ1 := hide (HQ.out.trans hq1); have hz1 := (HQ.out.trans hq1).size; clear hq1)
          | (at_builtin; refine wpList_append_own_at _ rfl (.tmp 11) (.tmp 15) 23 rfl w.heap.size 75 i0 (.agg #[.int .i64 0, .slice none 0 0, .slice none 0 0]) 3 56 Tryd.underlying23 hi0 iz0 iz1 iz2 rfl (by decide) _ n _ rfl (HO1.out.choose_spec.1.alloc _) ⟨w1.heap.size, 0, none⟩ 1 1 [.int .i64 k, .slice A1 n1 q1, .slice A2 n2 q2] rfl rfl (cells_new w1 [.int .i64 k, .slice A1 n1 q1, .slice A2 n2 q2] _) (by intro u hu; simp at hu; rcases hu with rfl | rfl | rfl <;> rfl) (by unfold maxLen; omega) (by omega) (by simp; try omega) ?_; intro v1 w2 hown1 hg1 _ _; obtain ⟨ao, cp, rfl⟩ := own_sliceP hown1; have HQ2 := hide (HQ1.out.grown hg1 HO1.out.lt (Nat.le_refl _) hcw); have HO2 := hide (show OwnAny w2 w.heap.size 75 3 (.slice ao (n + 1) cp) (n + 1) from ⟨_, hown1⟩); clear hown1 hg1)
          | (go_at_call 38; refine (nIs_off c s y e 44 _ (by omega) HQ2.out.box).mono ?_; rintro r w3 ⟨rfl, hq3⟩; have HQ3 := hide (HQ2.out.trans hq3); have HO3 := hide (HO2.out.butAt hq3.bu hcw); clear hq3))
        go_ret
        exact ⟨ao, n + 1, cp, rfl, by omega, HO3.out, After.of_bad HE.out hy HQ3.out, fun j l h => by rw [HE.out] at h; cases h⟩
      | ok y t =>
        have HXY := hide (show x ≤ y ∧ y ≤ s.size by have := HXF.out; rw [hr] at this; exact this)
        have hxy := HXY.out.1
        have hys := HXY.out.2
        have HC1 := hide (show Calls Tryd.prog 65 #[.pointer (some ⟨c, 0, none⟩), .int .i64 d] wr fun ee w' => ∃ (k : Int) (A : Option Addr) (n q : Nat) (A' : Option Addr) (n' q' : Nat), ee = .returned (.agg #[.int .i64 k, .slice A n q, .slice A' n' q']) ∧ Pb c 86 s y (-1) wr w' ∧ TyR f w' (fun b => wr.heap.size ≤ b) t [.int .i64 k, .slice A n q, .slice A' n' q'] from HC.out.mono fun ee w' ⟨k, A, n, q, A', n', q', h1, h2, h3⟩ => ⟨k, A, n, q, A', n', q', h1, h2.ok hr, h3 _ _ hr⟩)
        have HPR := hide hr
        obtain ⟨v, hv⟩ : ∃ v, isB s y 44 = v := ⟨_, rfl⟩
        clear hr
        cases v
        · have HE := hide (HR.out.symm.trans (pTys_end HPR.out hv))
          have HIS := hide (fun W h => nIs_no c s y 44 W hs hys hv h)
          clear hv
          go_wp2_with (first
            | (go_at_call 65; refine HC1.out.mono ?_; rintro r w1 ⟨k, A1, n1, q1, A2, n2, q2, rfl, hq1, hty⟩; have HO1 := hide (HOW.out.butAt (stay_ty f) hq1.bu hcw); have HQ1 := hide (HQ.out.trans hq1); have HTY := hide hty; have hz1 := (HQ.out.trans hq1).size; have HSB := hide (show ∀ b, wr.heap.size ≤ b → b < w1.heap.size → (w.heap.size ≤ b ∧ u5.ownBlock ≠ some b) from fun b h1 _ => ⟨by omega, fun e => by have := (HOW.out.lt b e).2; omega⟩); clear hq1 hty)
            | (at_builtin; refine wpList_append_own_at _ rfl (.tmp 11) (.tmp 15) 23 rfl w.heap.size 75 i0 (.agg #[.int .i64 0, .slice none 0 0, .slice none 0 0]) 3 56 Tryd.underlying23 hi0 iz0 iz1 iz2 rfl (by decide) _ n _ rfl (HO1.out.choose_spec.1.alloc _) ⟨w1.heap.size, 0, none⟩ 1 1 [.int .i64 k, .slice A1 n1 q1, .slice A2 n2 q2] rfl rfl (cells_new w1 [.int .i64 k, .slice A1 n1 q1, .slice A2 n2 q2] _) (by intro u hu; simp at hu; rcases hu with rfl | rfl | rfl <;> rfl) (by unfold maxLen; omega) (by omega) (by simp; try omega) ?_; intro v1 w2 hown1 hg1 _ hv1; obtain ⟨ao, cp, rfl⟩ := own_sliceP hown1; have HQ2 := hide (HQ1.out.grown hg1 HO1.out.lt (Nat.le_refl _) hcw); have HO2 := hide (OwnT.push1 (stay_ty f) HO1.out rfl (stay_ty f _ _ _ _ _ _ HTY.out (StayS.refl _ _) HSB.out) hown1 hg1 hv1); clear hown1 hg1 hv1)
            | (go_at_call 38; refine (HIS.out _ HQ2.out.box).mono ?_; rintro r w3 ⟨rfl, hq3⟩; have HQ3 := hide (HQ2.out.trans hq3); have HO3 := hide (HO2.out.butAt (stay_ty f) hq3.bu hcw); clear hq3))
          go_ret
          exact ⟨_, n + 1, _, rfl, by omega, HO3.out.any, After.of_ok HE.out HQ3.out, fun j l h => by rw [HE.out] at h; cases h; exact HO3.out⟩
        · have HIS := hide (fun W h => nIs_yes c s y 44 W hs hys hv h)
          cases hn : needB s [32] (y + 1) with
          | bad e =>
            have HE := hide (HR.out.symm.trans (pTys_no HPR.out hv hn))
            have HTK := hide (show ∀ W, W.heap[c]? = some (.cells #[.string s, .int .i64 y, .int .i64 (-1)] 86 (0, 0)) → Calls Tryd.prog 37 #[.pointer (some ⟨c, 0, none⟩), .string ⟨#[44, 32]⟩] W fun r w' => r = .returned (.tuple #[]) ∧ ∃ i : Nat, i ≤ s.size ∧ Pb c 86 s i e W w' from fun W h => (nTake_on c s ⟨#[44, 32]⟩ y W hs (by decide) hys h).mono fun r w' ⟨h1, h2⟩ => ⟨h1, h2.bad ((need_two hv).trans hn)⟩)
            clear hn hv
            go_wp2_with (first
              | (go_at_call 65; refine HC1.out.mono ?_; rintro r w1 ⟨k, A1, n1, q1, A2, n2, q2, rfl, hq1, hty⟩; have HO1 := hide (HOW.out.butAt (stay_ty f) hq1.bu hcw); have HQ1 := hide (HQ.out.trans hq1); have HTY := hide hty; have hz1 := (HQ.out.trans hq1).size; have HSB := hide (show ∀ b, wr.heap.size ≤ b → b < w1.heap.size → (w.heap.size ≤ b ∧ u5.ownBlock ≠ some b) from fun b h1 _ => ⟨by omega, fun e => by have := (HOW.out.lt b e).2; omega⟩); clear hq1 hty)
              | (at_builtin; refine wpList_append_own_at _ rfl (.tmp 11) (.tmp 15) 23 rfl w.heap.size 75 i0 (.agg #[.int .i64 0, .slice none 0 0, .slice none 0 0]) 3 56 Tryd.underlying23 hi0 iz0 iz1 iz2 rfl (by decide) _ n _ rfl (HO1.out.choose_spec.1.alloc _) ⟨w1.heap.size, 0, none⟩ 1 1 [.int .i64 k, .slice A1 n1 q1, .slice A2 n2 q2] rfl rfl (cells_new w1 [.int .i64 k, .slice A1 n1 q1, .slice A2 n2 q2] _) (by intro u hu; simp at hu; rcases hu with rfl | rfl | rfl <;> rfl) (by unfold maxLen; omega) (by omega) (by simp; try omega) ?_; intro v1 w2 hown1 hg1 _ hv1; obtain ⟨ao, cp, rfl⟩ := own_sliceP hown1; have HQ2 := hide (HQ1.out.grown hg1 HO1.out.lt (Nat.le_refl _) hcw); have HO2 := hide (OwnT.push1 (stay_ty f) HO1.out rfl (stay_ty f _ _ _ _ _ _ HTY.out (StayS.refl _ _) HSB.out) hown1 hg1 hv1); clear hown1 hg1 hv1)
              | (go_at_call 38; refine (HIS.out _ HQ2.out.box).mono ?_; rintro r w3 ⟨rfl, hq3⟩; have HQ3 := hide (HQ2.out.trans hq3); have HO3 := hide (HO2.out.any.butAt hq3.bu hcw); clear hq3)
              | (go_at_call 37; refine (HTK.out _ HQ3.out.box).mono ?_; rintro r w4 ⟨rfl, z, hz4, hq4⟩; have HQ4 := hide (HQ3.out.trans hq4); have HO4 := hide (HO3.out.butAt hq4.bu hcw); clear hq4))
            go_roundw
            case rel => exact .inr ⟨ao, n + 1, cp, e, z, rfl, by omega, HO4.out, HE.out, hz4, HQ4.out⟩
            case measure => rw [HMS.out, onOf_off HQ4.out, atOf_pb HQ4.out]; rw [Nat.zero_mul]; omega
          | ok z u =>
            have HE := hide ((pTys_go HPR.out hv hn).symm.trans HR.out)
            have hz := needB_ok s [32] (y + 1) z u (get_lt (isB_true hv)) hn
            have hz1 : z = y + 2 := by simpa using hz.1
            have hz2 := hz.2
            have HTK := hide (show ∀ W, W.heap[c]? = some (.cells #[.string s, .int .i64 y, .int .i64 (-1)] 86 (0, 0)) → Calls Tryd.prog 37 #[.pointer (some ⟨c, 0, none⟩), .string ⟨#[44, 32]⟩] W fun r w' => r = .returned (.tuple #[]) ∧ Pb c 86 s z (-1) W w' from fun W h => (nTake_on c s ⟨#[44, 32]⟩ y W hs (by decide) hys h).mono fun r w' ⟨h1, h2⟩ => ⟨h1, h2.ok ((need_two hv).trans hn)⟩)
            clear hn hv hz
            go_wp2_with (first
              | (go_at_call 65; refine HC1.out.mono ?_; rintro r w1 ⟨k, A1, n1, q1, A2, n2, q2, rfl, hq1, hty⟩; have HO1 := hide (HOW.out.butAt (stay_ty f) hq1.bu hcw); have HQ1 := hide (HQ.out.trans hq1); have HTY := hide hty; have hz1 := (HQ.out.trans hq1).size; have HSB := hide (show ∀ b, wr.heap.size ≤ b → b < w1.heap.size → (w.heap.size ≤ b ∧ u5.ownBlock ≠ some b) from fun b h1 _ => ⟨by omega, fun e => by have := (HOW.out.lt b e).2; omega⟩); clear hq1 hty)
              | (at_builtin; refine wpList_append_own_at _ rfl (.tmp 11) (.tmp 15) 23 rfl w.heap.size 75 i0 (.agg #[.int .i64 0, .slice none 0 0, .slice none 0 0]) 3 56 Tryd.underlying23 hi0 iz0 iz1 iz2 rfl (by decide) _ n _ rfl (HO1.out.choose_spec.1.alloc _) ⟨w1.heap.size, 0, none⟩ 1 1 [.int .i64 k, .slice A1 n1 q1, .slice A2 n2 q2] rfl rfl (cells_new w1 [.int .i64 k, .slice A1 n1 q1, .slice A2 n2 q2] _) (by intro u hu; simp at hu; rcases hu with rfl | rfl | rfl <;> rfl) (by unfold maxLen; omega) (by omega) (by simp; try omega) ?_; intro v1 w2 hown1 hg1 _ hv1; obtain ⟨ao, cp, rfl⟩ := own_sliceP hown1; have HQ2 := hide (HQ1.out.grown hg1 HO1.out.lt (Nat.le_refl _) hcw); have HO2 := hide (OwnT.push1 (stay_ty f) HO1.out rfl (stay_ty f _ _ _ _ _ _ HTY.out (StayS.refl _ _) HSB.out) hown1 hg1 hv1); clear hown1 hg1 hv1)
              | (go_at_call 38; refine (HIS.out _ HQ2.out.box).mono ?_; rintro r w3 ⟨rfl, hq3⟩; have HQ3 := hide (HQ2.out.trans hq3); have HO3 := hide (HO2.out.butAt (stay_ty f) hq3.bu hcw); clear hq3)
              | (go_at_call 37; refine (HTK.out _ HQ3.out.box).mono ?_; rintro r w4 ⟨rfl, hq4⟩; have HQ4 := hide (HQ3.out.trans hq4); have HO4 := hide (HO3.out.butAt (stay_ty f) hq4.bu hcw); clear hq4))
            go_roundw
            case rel => exact .inl ⟨n + 1, g, z, acc ++ [t], HO4.out, by omega, hz2, by omega, HE.out, HQ4.out⟩
            case measure => rw [HMS.out, onOf_on HQ4.out, atOf_pb HQ4.out, Nat.one_mul]; omega
    · have c2 := hp.c2
      have HQ := hide hp
      have HR := hide hR
      have HOA := hide hoa
      clear hp hR hoa
      have hoff : decide (((e : Nat) : Int) < 0) = false := by simp
      go_wp2_with (fail)
      go_ret
      exact ⟨A, n, q, rfl, hn8, HOA.out, After.of_bad HR.out hx HQ.out, fun j l h => by rw [HR.out] at h; cases h⟩
end Go.Proofs.YtocpmbpckbjepaaDoor
