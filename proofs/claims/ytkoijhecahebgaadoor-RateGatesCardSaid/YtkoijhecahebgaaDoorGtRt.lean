/- The rates of a gate: RatesError, checkRates (printed by gen_gt1.py out of the texts of shares). -/
import Derived.Test.YtkoijhecahebgaaDoorGtKey
import Derived.Test.YtkoijhecahebgaaDoorFam
namespace Go.Proofs.YtkoijhecahebgaaDoor
open Go.RowKit Go.Maps
structure RtK where
  key : ByteArray
  keep : Int
  deriving DecidableEq
def RtK.cs (x : RtK) : List Value := [.string x.key, .int .i64 x.keep]
def rkOf (l : List RtK) : List (List UInt8) := l.map fun x => x.key.data.toList
/-- The error at place k of rates. -/
def rtErrAt (l : List RtK) (k : Nat) : Int :=
  match l[k]? with
  | none => 0
  | some x => if keyErr x.key = 0 then (if (rkOf (l.take k)).contains x.key.data.toList then 6 else if outsideB x.keep 0 1000000 then 2 else 0) else keyErr x.key
def rtErr (l : List RtK) : Int := if 200 < l.length then 4 else firstErr (rtErrAt l) l.length
/-- '==' of two strings, as the walk has it. -/
def beqT (a b : ByteArray) : Bool := a.data.toList == b.data.toList
theorem beqT_toList (a b : ByteArray) : (a.toList == b.toList) = beqT a b := by rw [ByteArray.toList_eq, ByteArray.toList_eq]; rfl
theorem beqT_comm (a b : ByteArray) : beqT a b = beqT b a := by unfold beqT; rw [Bool.eq_iff_iff]; simp; exact ⟨Eq.symm, Eq.symm⟩
theorem RatesErr1_any (x : RtK) (k : ByteArray) (b o : Nat) (w : World) (h0 : w.cell? ⟨b, o, none⟩ = some (.string k)) :
    Calls Tryd.prog 33 #[.agg #[.string x.key, .int .i64 x.keep], .pointer (some ⟨b, o, none⟩)] w fun e w' => e = .returned (.bool (beqT x.key k)) ∧ Below w.heap.size w w' := by
  have E := hide (beqT_toList x.key k)
  go_enter Tryd.func33, Tryd.ntmps33
  go_wp2
  go_ret
  exact ⟨by rw [← E.out]; rfl, by go_grown⟩
def anyRk (l : List RtK) (k : ByteArray) : Bool := l.any fun x => beqT x.key k
theorem anyRk_keys (l : List RtK) (k : ByteArray) : anyRk l k = (rkOf l).contains k.data.toList := by
  unfold anyRk rkOf beqT
  induction l with
  | nil => rfl
  | cons x l ih => simp only [List.any_cons, List.map_cons, List.contains_cons, ih]; congr 1; rw [Bool.eq_iff_iff]; simp; exact ⟨Eq.symm, Eq.symm⟩
theorem anyRk_snoc (l : List RtK) (x : RtK) (k : ByteArray) : anyRk (l ++ [x]) k = (anyRk l k || beqT x.key k) := by simp [anyRk]
/-- The search says whether there is one (a number from 0 on, or -1). -/
def FoundInt (P : Bool) (W w : World) (e : Ending) (w' : World) : Prop := ∃ r : Int, e = .returned (.int .i64 r) ∧ (0 ≤ r ↔ P = true) ∧ Below W.heap.size W w' ∧ W = w
set_option maxHeartbeats 1000000 in
theorem IndexFunc_rate (A : Option Addr) (n cap : Nat) (l : List RtK) (k : ByteArray) (b o : Nat) (w : World) (hn : n ≤ maxLen) (hl : Sl w w.heap.size RtK.cs 2 A n l) (h0 : w.cell? ⟨b, o, none⟩ = some (.string k)) :
    Calls Tryd.prog 55 #[.slice A n cap, .func (.func 33) #[] #[.pointer (some ⟨b, o, none⟩)]] w (FoundInt (anyRk l k) w w) := by
  unfold maxLen at hn
  have HL := hide hl.len
  have hb : b < w.heap.size := World.block_lt_of_cell? w ⟨b, o, none⟩ h0
  go_enter Tryd.func55, Tryd.ntmps55
  go_wp2_with (fail)
  go_loopw [8] (fun i wr => ∃ j : Nat, j ≤ n ∧ i = .int .i64 j ∧ anyRk (l.take j) k = false ∧ Below w.heap.size w wr) (fun i _ => n - (intOf i).toNat)
  case atStart => exact ⟨0, Nat.zero_le _, rfl, rfl, Below.refl _ _⟩
  case round =>
    obtain ⟨j, hj, rfl, hno, hB⟩ := hrel
    have HNO := hide hno
    clear hno
    by_cases hlt : j < n
    · obtain ⟨bb, oo, x, rfl, hbb, hx, hc⟩ := (hl.below hB).at_ hlt
      have c0 := hc 0 _ rfl
      have c1 := hc 1 _ rfl
      have hk : wr.cell? ⟨b, o, none⟩ = some (.string k) := (hB.cell (p := ⟨b, o, none⟩) hb).trans h0
      have HX := hide hx
      simp only [Nat.add_zero] at c0
      have hz := hB.size
      have C := hide (RatesErr1_any x k b o wr hk)
      clear hc hx
      obtain ⟨y, hy⟩ : ∃ y, beqT x.key k = y := ⟨_, rfl⟩
      rw [hy] at C
      have HY := hide hy
      clear hy
      cases y
      · go_wp2_with (go_at_call 33; refine C.out.mono ?_; rintro e w1 ⟨rfl, hw1⟩; have hB1 := hB.trans (hw1.mono hB.size))
        go_roundw
        case rel => exact ⟨j + 1, by omega, by go_num, by rw [take_succ_get HX.out, anyRk_snoc, HNO.out, HY.out]; rfl, hB1⟩
        case measure => simp [intOf]; omega
      · go_wp2_with (go_at_call 33; refine C.out.mono ?_; rintro e w1 ⟨rfl, hw1⟩; have hB1 := hB.trans (hw1.mono hB.size))
        go_ret
        refine ⟨j, rfl, ?_, hB1, rfl⟩
        have : anyRk l k = true := by
          unfold anyRk; rw [List.any_eq_true]; exact ⟨x, List.mem_of_getElem? HX.out, HY.out⟩
        simp [this]
    · have E := hide (show anyRk l k = false by rw [← HNO.out, take_len l (by have := HL.out; omega)])
      go_wp2_with (fail)
      go_ret
      exact ⟨-1, rfl, by rw [E.out]; simp, hB, rfl⟩
theorem ContainsFunc_rate (A : Option Addr) (n cap : Nat) (l : List RtK) (k : ByteArray) (b o : Nat) (w : World) (hn : n ≤ maxLen) (hl : Sl w w.heap.size RtK.cs 2 A n l) (h0 : w.cell? ⟨b, o, none⟩ = some (.string k)) :
    Calls Tryd.prog 32 #[.slice A n cap, .func (.func 33) #[] #[.pointer (some ⟨b, o, none⟩)]] w fun e w' => e = .returned (.bool (anyRk l k)) ∧ Below w.heap.size w w' := by
  have C := hide (IndexFunc_rate A n cap l k b o w hn hl h0)
  obtain ⟨y, hy⟩ : ∃ y, anyRk l k = y := ⟨_, rfl⟩
  rw [hy] at C ⊢
  clear hy hl h0
  go_enter Tryd.func32, Tryd.ntmps32
  go_wp2_with (fail)
  refine C.out.mono ?_
  rintro e w1 ⟨r, rfl, hr, hB, _⟩
  cases y
  · have hr' : r < 0 := by simpa using hr
    clear hr
    go_wp2_with (fail)
    go_ret
    exact ⟨ret_bool (by first | (simp; done) | (simp; omega)), hB⟩
  · have hr' : 0 ≤ r := by simpa using hr
    clear hr
    go_wp2_with (fail)
    go_ret
    exact ⟨ret_bool (by first | (simp; done) | (simp; omega)), hB⟩
theorem Sl.take {α : Type} {w : World} {B sz n k : Nat} {f : α → List Value} {A : Option Addr} {l : List α} (h : Sl w B f sz A n l) (hk : k ≤ n) : Sl w B f sz A k (l.take k) := by
  refine ⟨by rw [List.length_take, h.len]; omega, fun h0 => ?_⟩
  obtain ⟨b, o, e, hlt, hc⟩ := h.cells (by omega)
  refine ⟨b, o, e, hlt, fun i a ha j v hv => hc i a ?_ j v hv⟩
  rw [List.getElem?_take] at ha
  split at ha
  · exact ha
  · cases ha
/-- The error at place k, by its parts. -/
theorem rtErrAt_key {l : List RtK} {k : Nat} {x : RtK} (hx : l[k]? = some x) (h : keyErr x.key ≠ 0) : rtErrAt l k = keyErr x.key := by
  rw [rtErrAt, hx]; simp [h]
theorem rtErrAt_twice {l : List RtK} {k : Nat} {x : RtK} (hx : l[k]? = some x) (h : keyErr x.key = 0) (h2 : anyRk (l.take k) x.key = true) : rtErrAt l k = 6 := by
  rw [anyRk_keys] at h2; rw [rtErrAt, hx]; simp only [h, h2]; rfl
theorem rtErrAt_range {l : List RtK} {k : Nat} {x : RtK} (hx : l[k]? = some x) (h : keyErr x.key = 0) (h2 : anyRk (l.take k) x.key = false) (h3 : outsideB x.keep 0 1000000 = true) : rtErrAt l k = 2 := by
  rw [anyRk_keys] at h2; rw [rtErrAt, hx]; simp only [h, h2, h3]; rfl
theorem rtErrAt_none {l : List RtK} {k : Nat} {x : RtK} (hx : l[k]? = some x) (h : keyErr x.key = 0) (h2 : anyRk (l.take k) x.key = false) (h3 : outsideB x.keep 0 1000000 = false) : rtErrAt l k = 0 := by
  rw [anyRk_keys] at h2; rw [rtErrAt, hx]; simp only [h, h2, h3]; rfl
theorem rtErr_hit {l : List RtK} {k : Nat} (h : ¬ 200 < l.length) (h0 : ∀ j, j < k → rtErrAt l j = 0) (hk : k < l.length) {v : Int} (hv : rtErrAt l k = v) (hne : v ≠ 0) : rtErr l = v := by
  rw [rtErr, if_neg h, firstErr_hit h0 hk (by rw [hv]; exact hne), hv]
theorem rtErr_none {l : List RtK} (h : ¬ 200 < l.length) (h0 : ∀ j, j < l.length → rtErrAt l j = 0) : rtErr l = 0 := by
  rw [rtErr, if_neg h, firstErr_zero h0]
/-- The keys that are not too long to be held at all. -/
def RkFit (l : List RtK) : Prop := ∀ x ∈ l, x.key.size ≤ maxLen
set_option maxRecDepth 100000 in
set_option maxHeartbeats 2000000 in
theorem RatesError_any (A : Option Addr) (n cap : Nat) (l : List RtK) (w : World) (hn : n ≤ maxLen) (hnc : n ≤ cap) (hl : Sl w w.heap.size RtK.cs 2 A n l) (hf : RkFit l) :
    Calls Tryd.prog 8 #[.slice A n cap] w fun e w' => e = .returned (.int .i64 (rtErr l)) ∧ Below w.heap.size w w' := by
  have hn' := hn
  unfold maxLen at hn
  have HL := hide hl.len
  by_cases h : 200 < n
  · have E := hide (show rtErr l = 4 from (by rw [rtErr, if_pos (by rw [HL.out]; exact h)]))
    go_enter Tryd.func8, Tryd.ntmps8
    go_wp2_with (fail)
    go_ret
    exact ⟨by rw [E.out]; rfl, Below.refl _ _⟩
  · have h200 : ¬ 200 < l.length := by rw [HL.out]; exact h
    have H200 := hide h200
    clear h200
    go_enter Tryd.func8, Tryd.ntmps8
    go_wp2_with (fail)
    go_loopw [11] (fun i wr => ∃ k : Nat, k ≤ n ∧ i = .int .i64 k ∧ (∀ j, j < k → rtErrAt l j = 0) ∧ Below w.heap.size w wr) (fun i _ => n - (intOf i).toNat)
    case atStart => exact ⟨0, Nat.zero_le _, rfl, fun j hj => absurd hj (by omega), Below.refl _ _⟩
    case round =>
      obtain ⟨k, hk, rfl, hno, hB⟩ := hrel
      have HNO := hide hno
      clear hno
      by_cases hlt : k < n
      · have hlr := hl.below hB
        obtain ⟨bb, oo, x, rfl, hbb, hx, hc⟩ := hlr.at_ hlt
        have c0 := hc 0 _ rfl
        have c1 := hc 1 _ rfl
        simp only [Nat.add_zero] at c0
        have HX := hide hx
        have hz := hB.size
        have hkf : x.key.size ≤ maxLen := hf x (List.mem_of_getElem? hx)
        have hkl : k < l.length := by rw [HL.out]; exact hlt
        have hst : Sl (wr.alloc (.cells #[.string x.key, .int .i64 x.keep] 73)) (wr.alloc (.cells #[.string x.key, .int .i64 x.keep] 73)).heap.size RtK.cs 2 (some ⟨bb, oo, none⟩) k (l.take k) :=
          ((hlr.below (B := w.heap.size) ((Below.refl _ _).alloc hz _)).more (by simp; omega)).take (by omega)
        have CW := hide (fun W => WordError_any x.key W hkf)
        have CC := hide (ContainsFunc_rate (some ⟨bb, oo, none⟩) k cap (l.take k) x.key wr.heap.size 0 _ (by omega) hst (by simp))
        clear hc hx hst hlr
        by_cases hke : keyErr x.key = 0
        · rw [hke] at CW
          cases hany : anyRk (l.take k) x.key
          · rw [hany] at CC
            cases hout : outsideB x.keep 0 1000000
            · have HK := hide (rtErrAt_none HX.out hke hany hout)
              clear hany hke
              go_wp2_with (first | (go_at_call 27; refine (CW.out _).mono ?_; rintro e w' ⟨rfl, rfl⟩) | (go_at_call 34; refine (in_any _ _ _ _).mono ?_; rintro e w' ⟨rfl, rfl⟩) | (go_at_call 32; go_must (refine CC.out.mono ?_; rintro r w1 ⟨rfl, hw1⟩; obtain ⟨hc1, hf1⟩ := bcell hw1; have hB1 : Below w.heap.size w w1 := hB.trans (((Below.refl _ _).alloc hz _).trans (hw1.mono (by simp; omega))); have x1_1 : w1.cell? ⟨wr.heap.size, 1, none⟩ = some (.int .i64 x.keep) := (hc1 _ _ (by first | omega | (simp; done) | (simp; omega))).trans (by first | (simp [go_sem]; done) | (go_simp; done)); clear hw1 hc1 hf1)))
              go_roundw
              case rel => exact ⟨k + 1, by omega, by go_num, fun j hj => by (by_cases e : j < k); exact HNO.out j e; (obtain rfl : j = k := by omega); exact HK.out, hB1⟩
              case measure => simp [intOf]; omega
            · have E := hide (show rtErr l = 2 from (rtErr_hit H200.out HNO.out hkl (rtErrAt_range HX.out hke hany hout) (by decide)))
              clear hany hke
              go_wp2_with (first | (go_at_call 27; refine (CW.out _).mono ?_; rintro e w' ⟨rfl, rfl⟩) | (go_at_call 34; refine (in_any _ _ _ _).mono ?_; rintro e w' ⟨rfl, rfl⟩) | (go_at_call 32; go_must (refine CC.out.mono ?_; rintro r w1 ⟨rfl, hw1⟩; obtain ⟨hc1, hf1⟩ := bcell hw1; have hB1 : Below w.heap.size w w1 := hB.trans (((Below.refl _ _).alloc hz _).trans (hw1.mono (by simp; omega))); have x1_1 : w1.cell? ⟨wr.heap.size, 1, none⟩ = some (.int .i64 x.keep) := (hc1 _ _ (by first | omega | (simp; done) | (simp; omega))).trans (by first | (simp [go_sem]; done) | (go_simp; done)); clear hw1 hc1 hf1)))
              go_ret
              exact ⟨by rw [E.out]; rfl, hB1⟩
          · rw [hany] at CC
            have E := hide (show rtErr l = 6 from (rtErr_hit H200.out HNO.out hkl (rtErrAt_twice HX.out hke hany) (by decide)))
            clear hany hke
            go_wp2_with (first | (go_at_call 27; refine (CW.out _).mono ?_; rintro e w' ⟨rfl, rfl⟩) | (go_at_call 32; go_must (refine CC.out.mono ?_; rintro r w1 ⟨rfl, hw1⟩; have hB1 : Below w.heap.size w w1 := hB.trans (((Below.refl _ _).alloc hz _).trans (hw1.mono (by simp; omega))); clear hw1)))
            go_ret
            exact ⟨by rw [E.out]; rfl, hB1⟩
        · have E := hide (show rtErr l = keyErr x.key from (rtErr_hit H200.out HNO.out hkl (rtErrAt_key HX.out hke) hke))
          go_wp2_with (first | (go_at_call 27; refine (CW.out _).mono ?_; rintro e w' ⟨rfl, rfl⟩))
          go_ret
          exact ⟨by rw [E.out]; rfl, hB.alloc hz _⟩
      · have E := hide (show rtErr l = 0 from rtErr_none H200.out fun j hj => HNO.out j (by have := HL.out; omega))
        go_wp2_with (fail)
        go_ret
        exact ⟨by rw [E.out]; rfl, hB⟩
theorem law_str : Keyed Tryd.prog 9 := string_keyed Tryd.underlying9
theorem zero_bool (w : World) : (zeroValue 4).run Tryd.prog w = .ok (.bool false) w := by kernel_rfl
/-- The first k keys lie in the map at block B. -/
def HasRk (w : World) (B : Nat) (l : List RtK) (k : Nat) : Prop := w.ownsMap (H := Unit) Tryd.prog 9 (plainElem Tryd.prog 4) B k (seenD (rkOf (l.take k)))
theorem rkOf_snoc {l : List RtK} {k : Nat} {x : RtK} (hx : l[k]? = some x) : rkOf (l.take (k + 1)) = rkOf (l.take k) ++ [x.key.data.toList] := by
  rw [take_succ_get hx]; simp [rkOf]
theorem key_of (s : ByteArray) (h : s.size ≤ maxLen) : keyOf Tryd.prog 9 (.string s) = some (.string s.data.toList) := Go.WideMaps.keyOf_string_mk Tryd.underlying9 h
theorem HasRk.look {w : World} {B k : Nat} {l : List RtK} (h : HasRk w B l k) : w.ownsMap (H := Unit) Tryd.prog 9 (plainElem Tryd.prog 4) B k (seenD (rkOf (l.take k))) := h
set_option maxRecDepth 100000 in
set_option maxHeartbeats 2000000 in
theorem checkRates_any (A : Option Addr) (n cap : Nat) (l : List RtK) (w : World) (hn : n ≤ maxLen) (hl : Sl w w.heap.size RtK.cs 2 A n l) (hf : RkFit l) :
    Calls Tryd.prog 40 #[.slice A n cap] w fun e w' => e = .returned (.int .i64 (rtErr l)) ∧ Below w.heap.size w w' := by
  unfold maxLen at hn
  have HL := hide hl.len
  by_cases h : 200 < n
  · have E := hide (show rtErr l = 4 by rw [rtErr, if_pos (by rw [HL.out]; exact h)])
    go_enter Tryd.func40, Tryd.ntmps40
    go_wp2_with (fail)
    go_ret
    exact ⟨by rw [E.out]; rfl, Below.refl _ _⟩
  · have h200 : ¬ 200 < l.length := by rw [HL.out]; exact h
    have H200 := hide h200
    clear h200
    have hmm := @run_makeMap Tryd.prog
    go_enter Tryd.func40, Tryd.ntmps40
    go_wp2_with (fail)
    clear hmm
    go_loopw [13] (fun i wr => ∃ k : Nat, k ≤ n ∧ i = .int .i64 k ∧ (∀ j, j < k → rtErrAt l j = 0) ∧ HasRk wr w.heap.size l k ∧ Below w.heap.size w wr) (fun i _ => n - (intOf i).toNat)
    case atStart => exact ⟨0, Nat.zero_le _, rfl, fun j hj => absurd hj (by omega), World.ownsMap_made _ _ _ _, (Below.refl _ _).alloc (Nat.le_refl _) _⟩
    case round =>
      obtain ⟨k, hk, rfl, hno, hM, hB⟩ := hrel
      have HNO := hide hno
      clear hno
      by_cases hlt : k < n
      · have hlr := hl.below hB
        obtain ⟨bb, oo, x, rfl, hbb, hx, hc⟩ := hlr.at_ hlt
        have c0 := hc 0 _ rfl
        have c1 := hc 1 _ rfl
        simp only [Nat.add_zero] at c0
        have HX := hide hx
        have hz := hB.size
        have hkf : x.key.size ≤ maxLen := hf x (List.mem_of_getElem? hx)
        have hkl : k < l.length := by rw [HL.out]; exact hlt
        have CW := hide (fun W => checkKey_any x.key W hkf)
        have HM := hide hM
        have HKF := hide hkf
        have hbm : w.heap.size < wr.heap.size := World.ownsMap.lt hM
        clear hc hx hlr hM hkf
        by_cases hke : keyErr x.key = 0
        · rw [hke] at CW
          cases hany : anyRk (l.take k) x.key
          · have hcon : (rkOf (l.take k)).contains x.key.data.toList = false := by rw [← anyRk_keys]; exact hany
            have HC := hide hcon
            cases hout : outsideB x.keep 0 1000000
            · have HK := hide (rtErrAt_none HX.out hke hany hout)
              clear hany hke hcon
              go_wp2_with (first | (go_at_call 30; refine (CW.out _).mono ?_; rintro e w' ⟨rfl, rfl⟩) | (go_at_call 50; refine (outside_any _ _ _ _).mono ?_; rintro e w' ⟨rfl, rfl⟩) | (at_lookup; go_must (refine wpList_lookup_seen _ rfl _ _ 71 rfl 9 4 law_str Tryd.underlying71 Tryd.underlying4 (zero_bool _) w.heap.size k _ rfl (HM.out.alloc _) x.key rfl (key_of _ HKF.out) ?_; rw [HC.out])) | (at_mapUpdate; go_must (refine wpList_mapUpdate_own _ rfl _ _ _ 71 rfl 9 4 law_str Tryd.underlying71 _ w.heap.size k _ rfl (HM.out.alloc _) (by unfold maxLen; omega) _ _ _ rfl rfl (key_of _ HKF.out) _ [] (plainElem_bool Tryd.underlying4 true) ?_; intro w1 hown1 hg1; have hB1 : Below w.heap.size w w1 := (hB.alloc hz _).grown hg1 (by simp; omega) (fun j hj => by cases hj; exact Nat.le_refl _); have y1 : w1.cell? ⟨wr.heap.size, 1, none⟩ = some (.int .i64 x.keep) := (World.cell?_of_block (w := wr.alloc _) (hg1.block wr.heap.size (by simp) (by simp; omega))).trans (by simp); clear hg1)))
              go_roundw
              case rel => exact ⟨k + 1, by omega, by go_num, fun j hj => by (by_cases e : j < k); exact HNO.out j e; (obtain rfl : j = k := by omega); exact HK.out, by rw [HasRk, rkOf_snoc HX.out, seenD_snoc]; exact hown1, hB1⟩
              case measure => simp [intOf]; omega
            · have E := hide (show rtErr l = 2 from rtErr_hit H200.out HNO.out hkl (rtErrAt_range HX.out hke hany hout) (by decide))
              clear hany hke hcon
              go_wp2_with (first | (go_at_call 30; refine (CW.out _).mono ?_; rintro e w' ⟨rfl, rfl⟩) | (go_at_call 50; refine (outside_any _ _ _ _).mono ?_; rintro e w' ⟨rfl, rfl⟩) | (at_lookup; go_must (refine wpList_lookup_seen _ rfl _ _ 71 rfl 9 4 law_str Tryd.underlying71 Tryd.underlying4 (zero_bool _) w.heap.size k _ rfl (HM.out.alloc _) x.key rfl (key_of _ HKF.out) ?_; rw [HC.out])) | (at_mapUpdate; go_must (refine wpList_mapUpdate_own _ rfl _ _ _ 71 rfl 9 4 law_str Tryd.underlying71 _ w.heap.size k _ rfl (HM.out.alloc _) (by unfold maxLen; omega) _ _ _ rfl rfl (key_of _ HKF.out) _ [] (plainElem_bool Tryd.underlying4 true) ?_; intro w1 hown1 hg1; have hB1 : Below w.heap.size w w1 := (hB.alloc hz _).grown hg1 (by simp; omega) (fun j hj => by cases hj; exact Nat.le_refl _); have y1 : w1.cell? ⟨wr.heap.size, 1, none⟩ = some (.int .i64 x.keep) := (World.cell?_of_block (w := wr.alloc _) (hg1.block wr.heap.size (by simp) (by simp; omega))).trans (by simp); clear hg1)))
              go_ret
              exact ⟨by rw [E.out]; rfl, hB1⟩
          · have hcon : (rkOf (l.take k)).contains x.key.data.toList = true := by rw [← anyRk_keys]; exact hany
            have HC := hide hcon
            have E := hide (show rtErr l = 6 from rtErr_hit H200.out HNO.out hkl (rtErrAt_twice HX.out hke hany) (by decide))
            clear hany hke hcon
            go_wp2_with (first | (go_at_call 30; refine (CW.out _).mono ?_; rintro e w' ⟨rfl, rfl⟩) | (at_lookup; go_must (refine wpList_lookup_seen _ rfl _ _ 71 rfl 9 4 law_str Tryd.underlying71 Tryd.underlying4 (zero_bool _) w.heap.size k _ rfl (HM.out.alloc _) x.key rfl (key_of _ HKF.out) ?_; rw [HC.out])))
            go_ret
            exact ⟨by rw [E.out]; rfl, hB.alloc hz _⟩
        · have E := hide (show rtErr l = keyErr x.key from rtErr_hit H200.out HNO.out hkl (rtErrAt_key HX.out hke) hke)
          go_wp2_with (first | (go_at_call 30; refine (CW.out _).mono ?_; rintro e w' ⟨rfl, rfl⟩))
          go_ret
          exact ⟨by rw [E.out]; rfl, hB.alloc hz _⟩
      · have E := hide (show rtErr l = 0 from rtErr_none H200.out fun j hj => HNO.out j (by have := HL.out; omega))
        go_wp2_with (fail)
        go_ret
        exact ⟨by rw [E.out]; rfl, hB⟩
end Go.Proofs.YtkoijhecahebgaaDoor
