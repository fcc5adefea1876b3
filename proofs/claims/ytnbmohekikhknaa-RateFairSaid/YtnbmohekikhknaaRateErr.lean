/- Walks of SharesError: the search for a key that came before, by a closure. -/
import Derived.Test.YtnbmohekikhknaaRateKey
import Derived.Test.YtnbmohekikhknaaFam
namespace Go.Proofs.Ytnbmohekikhknaa
open Go.RowKit
/-- '==' of two strings, as the walk has it. -/
def beqS (a b : ByteArray) : Bool := a.data.toList == b.data.toList
theorem beqS_toList (a b : ByteArray) : (a.toList == b.toList) = beqS a b := by rw [ByteArray.toList_eq, ByteArray.toList_eq]; rfl
theorem beqS_comm (a b : ByteArray) : beqS a b = beqS b a := by unfold beqS; rw [Bool.eq_iff_iff]; simp; exact ⟨Eq.symm, Eq.symm⟩
theorem SharesErr1_any (x : Share) (k : ByteArray) (b o : Nat) (w : World) (h0 : w.cell? ⟨b, o, none⟩ = some (.string k)) :
    Calls Try.prog 44 #[.agg #[.string x.key, .int .i64 x.came], .pointer (some ⟨b, o, none⟩)] w fun e w' => e = .returned (.bool (beqS x.key k)) ∧ Below w.heap.size w w' := by
  have E := hide (beqS_toList x.key k)
  go_enter Try.func44, Try.ntmps44
  go_wp2
  go_ret
  exact ⟨by rw [← E.out]; rfl, by go_grown⟩
def anyKey (l : List Share) (k : ByteArray) : Bool := l.any fun x => beqS x.key k
theorem anyKey_keys (l : List Share) (k : ByteArray) : anyKey l k = (keysOf l).contains k.data.toList := by
  unfold anyKey keysOf beqS
  induction l with
  | nil => rfl
  | cons x l ih => simp only [List.any_cons, List.map_cons, List.contains_cons, ih]; congr 1; rw [Bool.eq_iff_iff]; simp; exact ⟨Eq.symm, Eq.symm⟩
theorem anyKey_snoc (l : List Share) (x : Share) (k : ByteArray) : anyKey (l ++ [x]) k = (anyKey l k || beqS x.key k) := by simp [anyKey]
/-- The search says whether there is one (a number from 0 on, or -1). -/
def FoundInt (P : Bool) (W w : World) (e : Ending) (w' : World) : Prop := ∃ r : Int, e = .returned (.int .i64 r) ∧ (0 ≤ r ↔ P = true) ∧ Below W.heap.size W w' ∧ W = w
set_option maxHeartbeats 1000000 in
theorem IndexFunc_share (A : Option Addr) (n cap : Nat) (l : List Share) (k : ByteArray) (b o : Nat) (w : World) (hn : n ≤ maxLen) (hl : Sl w w.heap.size Share.cs 2 A n l) (h0 : w.cell? ⟨b, o, none⟩ = some (.string k)) :
    Calls Try.prog 51 #[.slice A n cap, .func (.func 44) #[] #[.pointer (some ⟨b, o, none⟩)]] w (FoundInt (anyKey l k) w w) := by
  unfold maxLen at hn
  have HL := hide hl.len
  have hb : b < w.heap.size := World.block_lt_of_cell? w ⟨b, o, none⟩ h0
  go_enter Try.func51, Try.ntmps51
  go_wp2_with (fail)
  go_loopw [8] (fun i wr => ∃ j : Nat, j ≤ n ∧ i = .int .i64 j ∧ anyKey (l.take j) k = false ∧ Below w.heap.size w wr) (fun i _ => n - (intOf i).toNat)
  case atStart => exact ⟨0, Nat.zero_le _, rfl, rfl, Below.refl _ _⟩
  case round =>
    obtain ⟨j, hj, rfl, hno, hB⟩ := hrel
    have HNO := hide hno
    clear hno
    by_cases hlt : j < n
    · obtain ⟨bb, oo, x, rfl, hbb, hx, hc⟩ := (hl.below hB).at_ hlt
      have c0 := hc 0 _ rfl
      have c1 := hc 1 _ rfl
      have hk : wr.cell? ⟨b, o, none⟩ = some (.string k) := (hB.cell (p := ⟨b, o, none⟩) hb).trans h0
      have HX := hide hx
      simp only [Nat.add_zero] at c0
      have hz := hB.size
      have C := hide (SharesErr1_any x k b o wr hk)
      clear hc hx
      obtain ⟨y, hy⟩ : ∃ y, beqS x.key k = y := ⟨_, rfl⟩
      rw [hy] at C
      have HY := hide hy
      clear hy
      cases y
      · go_wp2_with (go_at_call 44; refine C.out.mono ?_; rintro e w1 ⟨rfl, hw1⟩; have hB1 := hB.trans (hw1.mono hB.size))
        go_roundw
        case rel => exact ⟨j + 1, by omega, by go_num, by rw [take_succ_get HX.out, anyKey_snoc, HNO.out, HY.out]; rfl, hB1⟩
        case measure => simp [intOf]; omega
      · go_wp2_with (go_at_call 44; refine C.out.mono ?_; rintro e w1 ⟨rfl, hw1⟩; have hB1 := hB.trans (hw1.mono hB.size))
        go_ret
        refine ⟨j, rfl, ?_, hB1, rfl⟩
        have : anyKey l k = true := by
          unfold anyKey; rw [List.any_eq_true]; exact ⟨x, List.mem_of_getElem? HX.out, HY.out⟩
        simp [this]
    · have E := hide (show anyKey l k = false by rw [← HNO.out, take_len l (by have := HL.out; omega)])
      go_wp2_with (fail)
      go_ret
      exact ⟨-1, rfl, by rw [E.out]; simp, hB, rfl⟩
theorem ContainsFunc_share (A : Option Addr) (n cap : Nat) (l : List Share) (k : ByteArray) (b o : Nat) (w : World) (hn : n ≤ maxLen) (hl : Sl w w.heap.size Share.cs 2 A n l) (h0 : w.cell? ⟨b, o, none⟩ = some (.string k)) :
    Calls Try.prog 43 #[.slice A n cap, .func (.func 44) #[] #[.pointer (some ⟨b, o, none⟩)]] w fun e w' => e = .returned (.bool (anyKey l k)) ∧ Below w.heap.size w w' := by
  have C := hide (IndexFunc_share A n cap l k b o w hn hl h0)
  obtain ⟨y, hy⟩ : ∃ y, anyKey l k = y := ⟨_, rfl⟩
  rw [hy] at C ⊢
  clear hy hl h0
  go_enter Try.func43, Try.ntmps43
  go_wp2_with (fail)
  refine C.out.mono ?_
  rintro e w1 ⟨r, rfl, hr, hB, _⟩
  cases y
  · have hr' : r < 0 := by simpa using hr
    clear hr
    go_wp2_with (fail)
    go_ret
    exact ⟨ret_bool (by first | (simp; done) | (simp; omega)), hB⟩
  · have hr' : 0 ≤ r := by simpa using hr
    clear hr
    go_wp2_with (fail)
    go_ret
    exact ⟨ret_bool (by first | (simp; done) | (simp; omega)), hB⟩
theorem Sl.take {α : Type} {w : World} {B sz n k : Nat} {f : α → List Value} {A : Option Addr} {l : List α} (h : Sl w B f sz A n l) (hk : k ≤ n) : Sl w B f sz A k (l.take k) := by
  refine ⟨by rw [List.length_take, h.len]; omega, fun h0 => ?_⟩
  obtain ⟨b, o, e, hlt, hc⟩ := h.cells (by omega)
  refine ⟨b, o, e, hlt, fun i a ha j v hv => hc i a ?_ j v hv⟩
  rw [List.getElem?_take] at ha
  split at ha
  · exact ha
  · cases ha
/-- The error at place k, by its parts. -/
theorem shErrAt_key {l : List Share} {k : Nat} {x : Share} (hx : l[k]? = some x) (h : keyErr x.key ≠ 0) : shErrAt l k = keyErr x.key := by
  rw [shErrAt, hx]; simp [h]
theorem shErrAt_twice {l : List Share} {k : Nat} {x : Share} (hx : l[k]? = some x) (h : keyErr x.key = 0) (h2 : anyKey (l.take k) x.key = true) : shErrAt l k = 6 := by
  rw [anyKey_keys] at h2; rw [shErrAt, hx]; simp only [h, h2]; rfl
theorem shErrAt_range {l : List Share} {k : Nat} {x : Share} (hx : l[k]? = some x) (h : keyErr x.key = 0) (h2 : anyKey (l.take k) x.key = false) (h3 : outsideB x.came 0 1000000000 = true) : shErrAt l k = 2 := by
  rw [anyKey_keys] at h2; rw [shErrAt, hx]; simp only [h, h2, h3]; rfl
theorem shErrAt_none {l : List Share} {k : Nat} {x : Share} (hx : l[k]? = some x) (h : keyErr x.key = 0) (h2 : anyKey (l.take k) x.key = false) (h3 : outsideB x.came 0 1000000000 = false) : shErrAt l k = 0 := by
  rw [anyKey_keys] at h2; rw [shErrAt, hx]; simp only [h, h2, h3]; rfl
theorem shErr_hit {l : List Share} {k : Nat} (h : ¬ 200 < l.length) (h0 : ∀ j, j < k → shErrAt l j = 0) (hk : k < l.length) {v : Int} (hv : shErrAt l k = v) (hne : v ≠ 0) : shErr l = v := by
  rw [shErr, if_neg h, firstErr_hit h0 hk (by rw [hv]; exact hne), hv]
theorem shErr_none {l : List Share} (h : ¬ 200 < l.length) (h0 : ∀ j, j < l.length → shErrAt l j = 0) : shErr l = 0 := by
  rw [shErr, if_neg h, firstErr_zero h0]
def sharesE (l : List Share) (most : Int) : Int := if shErr l = 0 then (if outsideB most 0 1000000000 then 2 else 0) else shErr l
theorem sharesE_of {l : List Share} {most v : Int} (h : shErr l = v) (hv : v ≠ 0) : sharesE l most = v := by rw [sharesE, h, if_neg hv]
/-- The keys that are not too long to be held at all. -/
def KeysFit (l : List Share) : Prop := ∀ x ∈ l, x.key.size ≤ maxLen
set_option maxRecDepth 100000 in
set_option maxHeartbeats 2000000 in
theorem SharesError_any (A : Option Addr) (n cap : Nat) (l : List Share) (most : Int) (w : World) (hn : n ≤ maxLen) (hnc : n ≤ cap) (hl : Sl w w.heap.size Share.cs 2 A n l) (hf : KeysFit l) :
    Calls Try.prog 26 #[.slice A n cap, .int .i64 most] w fun e w' => e = .returned (.int .i64 (sharesE l most)) ∧ Below w.heap.size w w' := by
  have hn' := hn
  unfold maxLen at hn
  have HL := hide hl.len
  by_cases h : 200 < n
  · have E := hide (show sharesE l most = 4 from sharesE_of (by rw [shErr, if_pos (by rw [HL.out]; exact h)]) (by decide))
    go_enter Try.func26, Try.ntmps26
    go_wp2_with (fail)
    go_ret
    exact ⟨by rw [E.out]; rfl, Below.refl _ _⟩
  · have h200 : ¬ 200 < l.length := by rw [HL.out]; exact h
    have H200 := hide h200
    clear h200
    go_enter Try.func26, Try.ntmps26
    go_wp2_with (fail)
    go_loopw [13] (fun i wr => ∃ k : Nat, k ≤ n ∧ i = .int .i64 k ∧ (∀ j, j < k → shErrAt l j = 0) ∧ Below w.heap.size w wr) (fun i _ => n - (intOf i).toNat)
    case atStart => exact ⟨0, Nat.zero_le _, rfl, fun j hj => absurd hj (by omega), Below.refl _ _⟩
    case round =>
      obtain ⟨k, hk, rfl, hno, hB⟩ := hrel
      have HNO := hide hno
      clear hno
      by_cases hlt : k < n
      · have hlr := hl.below hB
        obtain ⟨bb, oo, x, rfl, hbb, hx, hc⟩ := hlr.at_ hlt
        have c0 := hc 0 _ rfl
        have c1 := hc 1 _ rfl
        simp only [Nat.add_zero] at c0
        have HX := hide hx
        have hz := hB.size
        have hkf : x.key.size ≤ maxLen := hf x (List.mem_of_getElem? hx)
        have hkl : k < l.length := by rw [HL.out]; exact hlt
        have hst : Sl (wr.alloc (.cells #[.string x.key, .int .i64 x.came] 51)) (wr.alloc (.cells #[.string x.key, .int .i64 x.came] 51)).heap.size Share.cs 2 (some ⟨bb, oo, none⟩) k (l.take k) :=
          ((hlr.below (B := w.heap.size) ((Below.refl _ _).alloc hz _)).more (by simp; omega)).take (by omega)
        have CW := hide (fun W => WordError_any x.key W hkf)
        have CC := hide (ContainsFunc_share (some ⟨bb, oo, none⟩) k cap (l.take k) x.key wr.heap.size 0 _ (by omega) hst (by simp))
        clear hc hx hst hlr
        by_cases hke : keyErr x.key = 0
        · rw [hke] at CW
          cases hany : anyKey (l.take k) x.key
          · rw [hany] at CC
            cases hout : outsideB x.came 0 1000000000
            · have HK := hide (shErrAt_none HX.out hke hany hout)
              clear hany hke
              go_wp2_with (first | (go_at_call 42; refine (CW.out _).mono ?_; rintro e w' ⟨rfl, rfl⟩) | (go_at_call 40; refine (in_any _ _ _ _).mono ?_; rintro e w' ⟨rfl, rfl⟩) | (go_at_call 43; go_must (refine CC.out.mono ?_; rintro r w1 ⟨rfl, hw1⟩; obtain ⟨hc1, hf1⟩ := bcell hw1; have hB1 : Below w.heap.size w w1 := hB.trans (((Below.refl _ _).alloc hz _).trans (hw1.mono (by simp; omega))); have x1_1 : w1.cell? ⟨wr.heap.size, 1, none⟩ = some (.int .i64 x.came) := (hc1 _ _ (by first | omega | (simp; done) | (simp; omega))).trans (by first | (simp [go_sem]; done) | (go_simp; done)); clear hw1 hc1 hf1)))
              go_roundw
              case rel => exact ⟨k + 1, by omega, by go_num, fun j hj => by (by_cases e : j < k); exact HNO.out j e; (obtain rfl : j = k := by omega); exact HK.out, hB1⟩
              case measure => simp [intOf]; omega
            · have E := hide (show sharesE l most = 2 from sharesE_of (shErr_hit H200.out HNO.out hkl (shErrAt_range HX.out hke hany hout) (by decide)) (by decide))
              clear hany hke
              go_wp2_with (first | (go_at_call 42; refine (CW.out _).mono ?_; rintro e w' ⟨rfl, rfl⟩) | (go_at_call 40; refine (in_any _ _ _ _).mono ?_; rintro e w' ⟨rfl, rfl⟩) | (go_at_call 43; go_must (refine CC.out.mono ?_; rintro r w1 ⟨rfl, hw1⟩; obtain ⟨hc1, hf1⟩ := bcell hw1; have hB1 : Below w.heap.size w w1 := hB.trans (((Below.refl _ _).alloc hz _).trans (hw1.mono (by simp; omega))); have x1_1 : w1.cell? ⟨wr.heap.size, 1, none⟩ = some (.int .i64 x.came) := (hc1 _ _ (by first | omega | (simp; done) | (simp; omega))).trans (by first | (simp [go_sem]; done) | (go_simp; done)); clear hw1 hc1 hf1)))
              go_ret
              exact ⟨by rw [E.out]; rfl, hB1⟩
          · rw [hany] at CC
            have E := hide (show sharesE l most = 6 from sharesE_of (shErr_hit H200.out HNO.out hkl (shErrAt_twice HX.out hke hany) (by decide)) (by decide))
            clear hany hke
            go_wp2_with (first | (go_at_call 42; refine (CW.out _).mono ?_; rintro e w' ⟨rfl, rfl⟩) | (go_at_call 43; go_must (refine CC.out.mono ?_; rintro r w1 ⟨rfl, hw1⟩; have hB1 : Below w.heap.size w w1 := hB.trans (((Below.refl _ _).alloc hz _).trans (hw1.mono (by simp; omega))); clear hw1)))
            go_ret
            exact ⟨by rw [E.out]; rfl, hB1⟩
        · have E := hide (show sharesE l most = keyErr x.key from sharesE_of (shErr_hit H200.out HNO.out hkl (shErrAt_key HX.out hke) hke) hke)
          go_wp2_with (first | (go_at_call 42; refine (CW.out _).mono ?_; rintro e w' ⟨rfl, rfl⟩))
          go_ret
          exact ⟨by rw [E.out]; rfl, hB.alloc hz _⟩
      · have E0 : shErr l = 0 := shErr_none H200.out fun j hj => HNO.out j (by have := HL.out; omega)
        have E := hide (show sharesE l most = if outsideB most 0 1000000000 then 2 else 0 by rw [sharesE, if_pos E0])
        clear E0
        cases hm : outsideB most 0 1000000000
        · go_wp2_with (first | (go_at_call 40; refine (in_any _ _ _ _).mono ?_; rintro e w' ⟨rfl, rfl⟩))
          go_ret
          exact ⟨by rw [E.out, hm]; rfl, hB⟩
        · go_wp2_with (first | (go_at_call 40; refine (in_any _ _ _ _).mono ?_; rintro e w' ⟨rfl, rfl⟩))
          go_ret
          exact ⟨by rw [E.out, hm]; rfl, hB⟩
end Go.Proofs.Ytnbmohekikhknaa
