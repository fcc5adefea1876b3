/- StBkL, StBkF, StBkW, StMx, StTabs, OpenSl, StRuns, StOpen, StOpen2, StackCarried: texts of one's own, in one file. -/
import Derived.Test.YtncpeokniffafaaGreatDoorStRdU
import Derived.Test.YtncpeokniffafaaGreatDoorStLineL
import Derived.Test.YtncpeokniffafaaGreatDoorStGY
import Derived.Test.YtncpeokniffafaaGreatDoorStSame
import Derived.Shelf.Vars
import Derived.Test.YtncpeokniffafaaGreatDoorStGX
import Derived.Test.YtncpeokniffafaaGreatDoorRows
import Derived.LaidMore
import Derived.Stop.LaidErr
import Derived.MakeChecks
import Derived.Test.YtncpeokniffafaaGreatDoorProg
import Derived.Test.YtncpeokniffafaaGreatDoorMem
import Derived.ProofKit
import Derived.Deep.Slices
import Derived.Lib.SmallJoins
import Derived.Test.YtncpeokniffafaaGreatDoorStFrames
import Derived.Test.YtncpeokniffafaaGreatDoorStFrame
import Derived.Deep.Strs
import Derived.Test.YtncpeokniffafaaGreatDoorStFault
/- Plain law: a line's parts as they are written, read back. -/
namespace Go.Proofs.YtncpeokniffafaaGreatDoor
open Go.RowKit
set_option linter.unusedVariables false
set_option linter.unusedSimpArgs false
/-- Bytes as a string. -/
def bs (l : List UInt8) : ByteArray := ⟨l.toArray⟩
theorem bs_list (l : List UInt8) : (bs l).data.toList = l := by simp [bs]
theorem bs_of (x : ByteArray) : bs x.data.toList = x := by
  apply ByteArray.ext
  simp [bs]
theorem bs_size (l : List UInt8) : (bs l).size = l.length := by rw [← len_size', bs_list]
theorem bs_eq {x : ByteArray} {l : List UInt8} (h : x.data.toList = l) : x = bs l := by rw [← h, bs_of]
theorem emptyB_bs (l : List UInt8) : emptyB (bs l) = l.isEmpty := by
  unfold emptyB; rw [ByteArray.toList_eq, bs_list]
theorem emptyB_list {x : ByteArray} : emptyB x = x.data.toList.isEmpty := by unfold emptyB; rw [ByteArray.toList_eq]
theorem index_mid (c : UInt8) : ∀ (a b : List UInt8), c ∉ a → Lib.index (a ++ c :: b) [c] = (a.length : Int)
  | [], b, _ => by
    show Lib.index (c :: b) [c] = 0
    rw [Lib.index, if_pos (by simp)]
  | d :: a, b, h => by
    have hd : ¬ c = d := fun e => h (by rw [e]; exact List.mem_cons_self)
    have ih := index_mid c a b (fun e => h (List.mem_cons_of_mem _ e))
    show Lib.index (d :: (a ++ c :: b)) [c] = _
    rw [Lib.index, if_neg (by simp; exact hd), ih, if_neg (by simp <;> omega)]
    simp
theorem index_none (c : UInt8) : ∀ (a : List UInt8), c ∉ a → Lib.index a [c] = -1
  | [], _ => rfl
  | d :: a, h => by
    have hd : ¬ c = d := fun e => h (by rw [e]; exact List.mem_cons_self)
    rw [Lib.index, if_neg (by simp; exact hd), index_none c a (fun e => h (List.mem_cons_of_mem _ e))]
    rfl
theorem cut_mid {c : UInt8} {a : List UInt8} (b : List UInt8) (h : c ∉ a) : Lib.cut (a ++ c :: b) [c] = (a, b, true) := by
  rw [Lib.cut, index_mid c a b h, if_pos (by omega)]
  simp
theorem cut_none {c : UInt8} {a : List UInt8} (h : c ∉ a) : Lib.cut a [c] = (a, [], false) := by
  rw [Lib.cut, index_none c a h, if_neg (by decide)]
theorem cutL_mid {c : UInt8} {a : List UInt8} (b : List UInt8) (h : c ∉ a) : cutL (bs (a ++ c :: b)) c = bs a := by unfold cutL; rw [bs_list, cut_mid b h]; rfl
theorem cutR_mid {c : UInt8} {a : List UInt8} (b : List UInt8) (h : c ∉ a) : cutR (bs (a ++ c :: b)) c = bs b := by unfold cutR; rw [bs_list, cut_mid b h]; rfl
theorem cutK_mid {c : UInt8} {a : List UInt8} (b : List UInt8) (h : c ∉ a) : cutK (bs (a ++ c :: b)) c = true := by unfold cutK; rw [bs_list, cut_mid b h]
theorem cutL_none {c : UInt8} {a : List UInt8} (h : c ∉ a) : cutL (bs a) c = bs a := by unfold cutL; rw [bs_list, cut_none h]; rfl
theorem cutR_none {c : UInt8} {a : List UInt8} (h : c ∉ a) : cutR (bs a) c = bs [] := by unfold cutR; rw [bs_list, cut_none h]; rfl
theorem cutK_none {c : UInt8} {a : List UInt8} (h : c ∉ a) : cutK (bs a) c = false := by unfold cutK; rw [bs_list, cut_none h]
/- Numbers. -/
theorem hexc_dgt : ∀ u, u < 16 → dgt 16 (hexc u) = true ∧ dgtV (hexc u) = u ∧ (u < 10 → dgt 10 (hexc u) = true) ∧ (0 < u → hexc u ≠ 48) := by decide +kernel
theorem hexc_ok {b u : Nat} (hb : b = 10 ∨ b = 16) (h : u < b) : dgt b (hexc u) = true ∧ dgtV (hexc u) = u ∧ (0 < u → hexc u ≠ 48) := by
  have h1 := hexc_dgt u (by omega)
  rcases hb with rfl | rfl
  · exact ⟨h1.2.2.1 h, h1.2.1, h1.2.2.2⟩
  · exact ⟨h1.1, h1.2.1, h1.2.2.2⟩
theorem digs_ok {b : Nat} (hb : b = 10 ∨ b = 16) (u : Nat) : (digs b u).all (dgt b) = true ∧ numV b (digs b u) = u ∧ digs b u ≠ [] ∧ (0 < u → (digs b u)[0]? ≠ some 48) := by
  induction u using Nat.strongRecOn with
  | ind u ih =>
    by_cases hu : u < b
    · rw [digs_small hu]
      have h1 := hexc_ok hb hu
      refine ⟨by simp [h1.1], by simp [numV, h1.2.1], by simp, fun h0 e => h1.2.2 h0 (by simpa using e)⟩
    · have hb2 : 2 ≤ b := by omega
      rw [digs_big (by omega) hb2]
      have hlt : u / b < u := Nat.div_lt_self (by omega) (by omega)
      have h1 := ih _ hlt
      have h2 := hexc_ok hb (Nat.mod_lt u (show 0 < b by omega))
      refine ⟨by rw [List.all_append, h1.1]; simp [h2.1], ?_, by simp, fun _ e => ?_⟩
      · unfold numV at h1 ⊢
        rw [List.foldl_append, h1.2.1]
        simp only [List.foldl_cons, List.foldl_nil, h2.2.1]
        rw [Nat.mul_comm]
        exact Nat.div_add_mod u b
      · have h3 : 0 < u / b := Nat.div_pos (by omega) (by omega)
        refine h1.2.2.2 h3 ?_
        cases hd : digs b (u / b) with
        | nil => exact absurd hd h1.2.2.1
        | cons c r => rw [hd] at e; simpa using e
theorem numR_digs {b m u : Nat} (hb : b = 10 ∨ b = 16) (hu : u < b ^ m) (hm : 1 ≤ m) : numR b m (bs (digs b u)) = some u := by
  have h := digs_ok hb u
  have hl := digs_len b (by omega) m u hu hm
  unfold numR
  rw [bs_size, bs_list, if_neg, if_pos h.1, h.2.1]
  rintro (h0 | h0 | ⟨h0, h1⟩)
  · exact h.2.2.1 (List.eq_nil_of_length_eq_zero h0)
  · omega
  · by_cases hz : 0 < u
    · exact h.2.2.2 hz h1
    · obtain rfl : u = 0 := by omega
      rw [digs_small (by omega)] at h0
      simp at h0
theorem num_digs {b m u : Nat} (hb : b = 10 ∨ b = 16) (hu : u < b ^ m) (hm : 1 ≤ m) : numK b m (bs (digs b u)) = true ∧ numO b m (bs (digs b u)) = (u : Int) := by
  unfold numK numO
  rw [numR_digs hb hu hm]
  exact ⟨rfl, rfl⟩
theorem dgt_low {b : Nat} {c : UInt8} (h : dgt b c = true) : 48 ≤ c.toNat ∧ c.toNat ≠ 58 ∧ c.toNat ≤ 102 := by
  unfold dgt at h
  simp only [Bool.or_eq_true, Bool.and_eq_true, decide_eq_true_eq] at h
  omega
theorem digs_low {b : Nat} (hb : b = 10 ∨ b = 16) {u : Nat} {c : UInt8} (h : c ∈ digs b u) : 48 ≤ c.toNat ∧ c.toNat ≠ 58 ∧ c.toNat ≤ 102 := dgt_low (List.all_eq_true.1 (digs_ok hb u).1 c h)
theorem notin_of {l : List UInt8} {c : UInt8} (h : ∀ d ∈ l, d.toNat ≠ c.toNat) : c ∉ l := fun e => h c e rfl
/- Words of a line. -/
theorem bytesIn_mem {s : ByteArray} {low : Nat} {wo : List UInt8} (h : bytesInB s low wo = true) {c : UInt8} (hc : c ∈ s.data.toList) : low ≤ c.toNat ∧ c.toNat ≤ 126 ∧ c ∉ wo := by
  have := List.all_eq_true.1 h c hc
  simp only [Bool.and_eq_true, decide_eq_true_eq, Bool.not_eq_true', List.contains_eq_mem, decide_eq_false_iff_not] at this
  exact ⟨this.1.1, this.1.2, this.2⟩
/-- A frame that is right and has no sign that it may not have. -/
structure Frame.rt (x : Frame) : Prop where
  good : x.good
  wm : wordB x.mod = true
  wf : wordB x.fn = true
  wl : wordB x.file = true
  fn : emptyB x.fn = false
  ln : emptyB x.file = true → x.line = 0
  bf : (33 : UInt8) ∉ x.fn.data.toList
  bm : (33 : UInt8) ∉ x.mod.data.toList
theorem wordB_mem {s : ByteArray} (h : wordB s = true) {c : UInt8} (hc : c ∈ s.data.toList) : 33 ≤ c.toNat ∧ c.toNat ≤ 126 ∧ c ≠ 40 ∧ c ≠ 41 ∧ c ≠ 58 ∧ c ≠ 44 := by
  have := bytesIn_mem h hc
  have h3 := this.2.2
  simp [marks] at h3
  exact ⟨this.1, this.2.1, h3.1, h3.2.1, h3.2.2.1, h3.2.2.2⟩
theorem wordX_of {s : ByteArray} (h : wordB s = true) (hb : (33 : UInt8) ∉ s.data.toList) : wordX s = true := by
  unfold wordX bytesInB
  rw [List.all_eq_true]
  intro c hc
  have h1 := wordB_mem h hc
  have h2 : c ≠ 33 := fun e => hb (e ▸ hc)
  simp [h1.1, h1.2.1, h1.2.2, h2]
theorem call_back {x : Frame} (h : x.rt) : callK (callB x) = true ∧ callM (callB x) = x.mod ∧ callF (callB x) = x.fn := by
  unfold callB
  by_cases hm : emptyB x.mod = true
  · have hmb : x.mod = bs [] := by
      refine bs_eq ?_
      rw [emptyB_list] at hm
      exact List.isEmpty_iff.1 hm
    have hk : cutK x.fn 33 = false := by rw [← bs_of x.fn]; exact cutK_none (by exact h.bf)
    rw [if_pos hm]
    refine ⟨?_, ?_, ?_⟩
    · unfold callK callM callF
      rw [if_neg (by rw [hk]; decide), if_neg (by rw [hk]; decide), h.fn, wordX_of h.wf h.bf, hk, wordX_nil, emptyB_nil]
      rfl
    · unfold callM; rw [if_neg (by rw [hk]; decide), hmb]; rfl
    · unfold callF; rw [if_neg (by rw [hk]; decide)]
  · have e : x.mod ++ ⟨#[33]⟩ ++ x.fn = bs (x.mod.data.toList ++ 33 :: x.fn.data.toList) := by
      apply bs_eq
      rw [ByteArray.data_append, ByteArray.data_append, Array.toList_append, Array.toList_append]
      simp
    have hk := cutK_mid (c := 33) x.fn.data.toList h.bm
    have hl := cutL_mid (c := 33) x.fn.data.toList h.bm
    have hr := cutR_mid (c := 33) x.fn.data.toList h.bm
    rw [if_neg hm, e]
    rw [bs_of] at hl hr
    refine ⟨?_, ?_, ?_⟩
    · unfold callK callM callF
      rw [if_pos hk, if_pos hk, hl, hr, h.fn, wordX_of h.wf h.bf, wordX_of h.wm h.bm, hk]
      simp at hm
      rw [hm]; rfl
    · unfold callM; rw [if_pos hk, hl]
    · unfold callF; rw [if_pos hk, hr]
theorem call_mem {x : Frame} (h : x.rt) {c : UInt8} (hc : c ∈ (callB x).data.toList) : 33 ≤ c.toNat ∧ c.toNat ≤ 126 ∧ c ≠ 40 ∧ c ≠ 58 := by
  unfold callB at hc
  split at hc
  · have := wordB_mem h.wf hc; exact ⟨this.1, this.2.1, this.2.2.1, this.2.2.2.2.1⟩
  · rw [ByteArray.data_append, ByteArray.data_append, Array.toList_append, Array.toList_append] at hc
    simp only [List.mem_append] at hc
    rcases hc with (hc | hc) | hc
    · have := wordB_mem h.wm hc; exact ⟨this.1, this.2.1, this.2.2.1, this.2.2.2.2.1⟩
    · have : c = 33 := by simpa using hc
      subst this; decide
    · have := wordB_mem h.wf hc; exact ⟨this.1, this.2.1, this.2.2.1, this.2.2.2.2.1⟩
theorem call_ne {x : Frame} (h : x.rt) : (callB x).data.toList ≠ [] := by
  intro e
  have h1 := (call_back h).1
  have h2 : callB x = bs [] := bs_eq e
  rw [h2] at h1
  revert h1
  decide +kernel
/- The words behind the name. -/
def wA (x : Frame) : List UInt8 := 40 :: (x.file.data.toList ++ (if x.line = 0 then [] else 58 :: toldL x.line) ++ [41])
def wB (x : Frame) : List UInt8 := 64 :: digs 16 x.addr.toNat
theorem partA_eq {x : Frame} (h : ¬ emptyB x.file = true) : (partA x).drop 1 = wA x := by unfold partA wA; rw [if_neg h]; simp
theorem partB_eq {x : Frame} (h : ¬ x.addr = -1) : (partB x).drop 1 = wB x := by unfold partB wB; rw [if_neg h]; simp
theorem words_eq (x : Frame) : wordsL x = (if emptyB x.file then [] else [wA x]) ++ (if x.addr = -1 then [] else [wB x]) ++ (if x.own then [[42]] else []) := by
  unfold wordsL
  have hA : (if emptyB x.file then [] else [(partA x).drop 1]) = (if emptyB x.file then [] else [wA x]) := by
    split
    · rfl
    · rename_i he; rw [partA_eq he]
  have hB : (if x.addr = -1 then [] else [(partB x).drop 1]) = (if x.addr = -1 then [] else [wB x]) := by
    split
    · rfl
    · rename_i he; rw [partB_eq he]
  rw [hA, hB]
theorem wA_mem {x : Frame} (h : x.rt) {c : UInt8} (hc : c ∈ wA x) : 33 ≤ c.toNat ∧ c.toNat ≤ 126 := by
  unfold wA at hc
  rw [List.mem_cons, List.mem_append, List.mem_append] at hc
  rcases hc with rfl | (hc | hc) | hc
  · decide
  · have := wordB_mem h.wl hc; exact ⟨this.1, this.2.1⟩
  · split at hc
    · cases hc
    · rcases List.mem_cons.1 hc with rfl | hc
      · decide
      · have := digs_low (.inl rfl) hc; omega
  · obtain rfl : c = 41 := by simpa using hc
    decide
theorem wB_mem {x : Frame} {c : UInt8} (hc : c ∈ wB x) : 33 ≤ c.toNat ∧ c.toNat ≤ 126 := by
  unfold wB at hc
  rcases List.mem_cons.1 hc with rfl | hc
  · decide
  · have := digs_low (.inr rfl) hc; omega
theorem words_mem {x : Frame} (h : x.rt) {l : List UInt8} (hl : l ∈ wordsL x) {c : UInt8} (hc : c ∈ l) : 33 ≤ c.toNat ∧ c.toNat ≤ 126 := by
  rw [words_eq, List.mem_append, List.mem_append] at hl
  rcases hl with (hl | hl) | hl
  · split at hl
    · cases hl
    · obtain rfl := List.mem_singleton.1 hl
      exact wA_mem h hc
  · split at hl
    · cases hl
    · obtain rfl := List.mem_singleton.1 hl
      exact wB_mem hc
  · split at hl
    · obtain rfl := List.mem_singleton.1 hl
      obtain rfl : c = 42 := by simpa using hc
      decide
    · cases hl
theorem preB_bs (l : List UInt8) (c : UInt8) : preB (bs l) c = Lib.hasPrefix l [c] := by unfold preB; rw [bs_list]
theorem restB_bs (c : UInt8) (l : List UInt8) : restB (bs (c :: l)) = bs l := by
  apply bs_eq
  rw [show (restB (bs (c :: l))).data.toList = (bs (c :: l)).data.toList.drop 1 from Lib.extract_to_end _ 1, bs_list]
  rfl
theorem sfx_bs (l : List UInt8) : sfxK (bs (l ++ [41])) = true ∧ sfxS (bs (l ++ [41])) = bs l := by
  have h : Lib.hasSuffix (l ++ [41]) [41] = true := by unfold Lib.hasSuffix; rw [List.isSuffixOf_iff_suffix]; exact List.suffix_append _ _
  unfold sfxK sfxS
  rw [bs_list]
  refine ⟨h, ?_⟩
  rw [Lib.trimSuffix, if_pos h]
  apply bs_eq
  simp
theorem file_back {x : Frame} (h : x.rt) (he : emptyB x.file = false) : preB (bs (wA x)) 40 = true ∧ fileK (bs (wA x)) = true ∧ fileF (bs (wA x)) = x.file ∧ fileL (bs (wA x)) = x.line := by
  have hf : (58 : UInt8) ∉ x.file.data.toList := fun e => (wordB_mem h.wl e).2.2.2.2.1 rfl
  have hp : preB (bs (wA x)) 40 = true := by rw [preB_bs]; unfold wA; rfl
  have hr : restB (bs (wA x)) = bs (x.file.data.toList ++ (if x.line = 0 then [] else 58 :: toldL x.line) ++ [41]) := restB_bs _ _
  have hs := sfx_bs (x.file.data.toList ++ (if x.line = 0 then [] else 58 :: toldL x.line))
  refine ⟨hp, ?_⟩
  by_cases hl : x.line = 0
  · rw [if_pos hl, List.append_nil] at hs hr
    have h1 := cutL_none hf
    have h2 := cutK_none hf
    rw [bs_of] at h1 h2 hs
    unfold fileK fileF fileL
    rw [hr, hs.1, hs.2, h1, h2, he, h.wl]
    exact ⟨rfl, rfl, by rw [if_neg (by decide)]; exact hl.symm⟩
  · rw [if_neg hl] at hs hr
    have h1 := cutL_mid (toldL x.line) hf
    have h2 := cutK_mid (toldL x.line) hf
    have h3 := cutR_mid (toldL x.line) hf
    rw [bs_of] at h1
    have h4 := num_digs (b := 10) (m := 7) (u := x.line.toNat) (.inl rfl) (by have := h.good.n1; show _ < 10000000; omega) (by decide)
    have h5 : ((x.line.toNat : Int) == 0) = false := by rw [beq_eq_false_iff_ne]; have := h.good.n0; omega
    have h6 : (x.line.toNat : Int) = x.line := by have := h.good.n0; omega
    unfold fileK fileF fileL
    unfold toldL at *
    rw [hr, hs.1, hs.2, h1, h2, h3, he, h.wl, h4.1, h4.2, h5]
    exact ⟨rfl, rfl, by rw [if_pos rfl]; exact h6⟩
theorem pl3_back (f : ByteArray) (l a : Int) (o : Bool) : pl3 f l a ((if o then [[42]] else []).map bs) = some (f, l, a, o) := by
  cases o
  · rfl
  · show pl3 f l a [bs [42]] = _
    rw [pl3, if_pos (by rfl), if_pos rfl]
theorem pl2_back {x : Frame} (h : x.rt) (f : ByteArray) (l : Int) : pl2 f l (((if x.addr = -1 then [] else [wB x]) ++ (if x.own then [[42]] else [])).map bs) = some (f, l, x.addr, x.own) := by
  by_cases ha : x.addr = -1
  · rw [if_pos ha, List.nil_append]
    have h3 := pl3_back f l (-1) x.own
    rw [ha]
    cases ho : x.own
    · rw [ho] at h3
      show pl3 f l (-1) [] = _
      exact h3
    · rw [ho] at h3
      show pl2 f l [bs [42]] = _
      rw [pl2, if_neg (by rw [preB_bs]; decide)]
      exact h3
  · rw [if_neg ha]
    have h4 := num_digs (b := 16) (m := 12) (u := x.addr.toNat) (.inr rfl) (by have := h.good.a1; show _ < 281474976710656; omega) (by decide)
    have h6 : (x.addr.toNat : Int) = x.addr := by have := h.good.a0; omega
    have hr : restB (bs (wB x)) = bs (digs 16 x.addr.toNat) := restB_bs _ _
    show pl2 f l (bs (wB x) :: (if x.own then [[42]] else []).map bs) = _
    rw [pl2, if_pos (by rw [preB_bs]; unfold wB; rfl), hr, if_pos h4.1, h4.2, h6]
    exact pl3_back f l x.addr x.own
theorem plR_back {x : Frame} (h : x.rt) : plR ((wordsL x).map bs) = some (x.file, x.line, x.addr, x.own) := by
  rw [words_eq, List.append_assoc]
  by_cases he : emptyB x.file = true
  · have hfb : x.file = ⟨#[]⟩ := by
      refine bs_eq (l := []) ?_
      rw [emptyB_list] at he
      exact List.isEmpty_iff.1 he
    rw [if_pos he, List.nil_append]
    have h2 := pl2_back h ⟨#[]⟩ 0
    rw [h.ln he, hfb]
    generalize hw : ((if x.addr = -1 then [] else [wB x]) ++ (if x.own then [[42]] else [])) = ws at h2
    cases ws with
    | nil => exact h2
    | cons v r =>
      show plR (bs v :: r.map bs) = _
      rw [plR, if_neg]
      · exact h2
      · rw [preB_bs]
        have hv : v = wB x ∨ v = [42] := by
          have : v ∈ (if x.addr = -1 then [] else [wB x]) ++ (if x.own then [[42]] else []) := by rw [hw]; exact List.mem_cons_self
          rw [List.mem_append] at this
          rcases this with h | h
          · split at h
            · cases h
            · exact .inl (List.mem_singleton.1 h)
          · split at h
            · exact .inr (List.mem_singleton.1 h)
            · cases h
        rcases hv with rfl | rfl
        · unfold wB; simp [Lib.hasPrefix]
        · decide
  · simp only [Bool.not_eq_true] at he
    have h1 := file_back h he
    rw [he]
    show plR (bs (wA x) :: (((if x.addr = -1 then [] else [wB x]) ++ (if x.own then [[42]] else [])).map bs)) = _
    rw [plR, if_pos h1.1, if_pos h1.2.1, h1.2.2.1, h1.2.2.2]
    exact pl2_back h x.file x.line
/-- A frame as it is read. -/
def Frame.frm (x : Frame) : Frm := (x.mod, x.fn, x.file, x.line, x.addr, x.own)
theorem frR_back {x : Frame} (h : x.rt) : frR (callB x :: (wordsL x).map bs) = some x.frm := by
  have h1 := call_back h
  rw [frR, if_pos h1.1, h1.2.1, h1.2.2, plR_back h]
  rfl
/- A line and its words. -/
theorem words_flat : ∀ (ws : List (List UInt8)) (a : List UInt8), (32 : UInt8) ∉ a → (∀ u ∈ ws, (32 : UInt8) ∉ u) → wordsOf (bs (a ++ ws.flatMap (fun s => 32 :: s))) = bs a :: ws.map bs
  | [], a, ha, _ => by
    rw [List.flatMap_nil, List.append_nil, wordsOf_cut, cutL_none ha, cutK_none ha]
    rfl
  | u :: ws, a, ha, h => by
    have ih := words_flat ws u (h u List.mem_cons_self) (fun v hv => h v (List.mem_cons_of_mem _ hv))
    rw [List.flatMap_cons, List.cons_append, wordsOf_cut, cutL_mid _ ha, cutK_mid _ ha, cutR_mid _ ha, if_pos rfl, ih]
    rfl
theorem word32 {l : List UInt8} (h : ∀ c ∈ l, 33 ≤ c.toNat ∧ c.toNat ≤ 126) : (32 : UInt8) ∉ l := fun e => by have := (h _ e).1; revert this; decide
theorem line_back {x : Frame} (h : x.rt) : frR (wordsOf (bs (lineL x))) = some x.frm := by
  unfold lineL
  rw [← words_rest, words_flat _ _ (word32 fun c hc => ⟨(call_mem h hc).1, (call_mem h hc).2.1⟩) (fun u hu => word32 fun c hc => words_mem h hu hc), bs_of]
  exact frR_back h
theorem rest_flat (x : Frame) : restL x = match wordsL x with
    | [] => []
    | u :: ws => u ++ ws.flatMap (fun s => 32 :: s) := by
  unfold restL
  rw [← words_rest]
  cases wordsL x with
  | nil => rfl
  | cons u ws => rfl
theorem frO_back {x : Frame} (h : x.rt) : frO (callB x) (bs (restL x)) = some x.frm := by
  unfold frO
  have hb := frR_back h
  have hr := rest_flat x
  have hm := fun (u : List UInt8) (hu : u ∈ wordsL x) => word32 (l := u) fun c hc => words_mem h hu hc
  cases hw : wordsL x with
  | nil =>
    rw [hw] at hr hb
    simp only at hr
    rw [hr, emptyB_bs]
    exact hb
  | cons u ws =>
    have hne : u ≠ [] := by
      have hu : u ∈ wordsL x := by rw [hw]; exact List.mem_cons_self
      rw [words_eq, List.mem_append, List.mem_append] at hu
      rcases hu with (hu | hu) | hu
      · split at hu
        · cases hu
        · rw [List.mem_singleton.1 hu]; exact List.cons_ne_nil _ _
      · split at hu
        · cases hu
        · rw [List.mem_singleton.1 hu]; exact List.cons_ne_nil _ _
      · split at hu
        · rw [List.mem_singleton.1 hu]; exact List.cons_ne_nil _ _
        · cases hu
    rw [hw] at hr hb hm
    simp only at hr
    rw [hr, emptyB_bs, if_neg (by cases u with
      | nil => exact absurd rfl hne
      | cons c u => simp), words_flat ws u (hm u List.mem_cons_self) (fun v hv => hm v (List.mem_cons_of_mem _ hv))]
    exact hb
/- The line of a fault. -/
structure FaultT.rt (x : FaultT) : Prop where
  kb : kindB x.kind = true
  ke : emptyB x.kind = false
  tb : textB x.text = true
  fr : ∀ y ∈ x.frs, y.rt
/-- The line of a fault, without its end. -/
def headLn (x : FaultT) : List UInt8 := x.kind.data.toList ++ (if emptyB x.text then [58] else [58, 32] ++ x.text.data.toList)
theorem headLn_eq (x : FaultT) : headL x = headLn x ++ [10] := rfl
theorem kind_mem {s : ByteArray} (h : kindB s = true) {c : UInt8} (hc : c ∈ s.data.toList) : 33 ≤ c.toNat ∧ c.toNat ≤ 126 ∧ c ≠ 58 := by
  have := bytesIn_mem h hc
  have h3 := this.2.2
  simp at h3
  exact ⟨this.1, this.2.1, h3⟩
theorem head_back {x : FaultT} (h : x.rt) : headK (bs (headLn x)) = true ∧ cutL (bs (headLn x)) 58 = x.kind ∧ headS (bs (headLn x)) = x.text := by
  have hk : (58 : UInt8) ∉ x.kind.data.toList := fun e => (kind_mem h.kb e).2.2 rfl
  by_cases ht : emptyB x.text = true
  · have htb : x.text = ⟨#[]⟩ := by
      refine bs_eq (l := []) ?_
      rw [emptyB_list] at ht
      exact List.isEmpty_iff.1 ht
    have e : headLn x = x.kind.data.toList ++ 58 :: [] := by unfold headLn; rw [if_pos ht]
    have h1 := cutL_mid [] hk
    have h2 := cutK_mid [] hk
    have h3 := cutR_mid [] hk
    rw [bs_of] at h1
    rw [e]
    unfold headK headS
    rw [h1, h2, h3, h.ke, h.kb, emptyB_bs]
    exact ⟨rfl, rfl, by rw [if_pos (by rfl)]; exact htb.symm⟩
  · simp only [Bool.not_eq_true] at ht
    have e : headLn x = x.kind.data.toList ++ 58 :: (32 :: x.text.data.toList) := by unfold headLn; rw [if_neg (by rw [ht]; decide)]; rfl
    have h1 := cutL_mid (32 :: x.text.data.toList) hk
    have h2 := cutK_mid (32 :: x.text.data.toList) hk
    have h3 := cutR_mid (32 :: x.text.data.toList) hk
    rw [bs_of] at h1
    have hp : Lib.hasPrefix (32 :: x.text.data.toList) [32] = true := by unfold Lib.hasPrefix; simp
    have hT : headT (bs (headLn x)) = x.text := by
      unfold headT
      rw [e, h3, bs_list, Lib.trimPrefix, if_pos hp]
      show bs x.text.data.toList = _
      exact bs_of _
    have hP : headP (bs (headLn x)) = true := by unfold headP; rw [e, h3, bs_list]; exact hp
    have he2 : emptyB (cutR (bs (headLn x)) 58) = false := by rw [e, h3, emptyB_bs]; rfl
    rw [← e] at h1 h2
    unfold headK headS
    rw [he2, hT, hP, h1, h2, h.ke, h.kb, ht]
    exact ⟨rfl, rfl, by rw [if_neg (by decide)]⟩
theorem text_mem {s : ByteArray} (h : textB s = true) {c : UInt8} (hc : c ∈ s.data.toList) : 32 ≤ c.toNat := by
  have := List.all_eq_true.1 h c hc
  simp only [Bool.and_eq_true, decide_eq_true_eq] at this
  exact this.1
/- No line has a line feed. -/
theorem n10 {l : List UInt8} (h : ∀ c ∈ l, 11 ≤ c.toNat) : (10 : UInt8) ∉ l := fun e => by have := h _ e; revert this; decide
theorem headLn_10 {x : FaultT} (h : x.rt) : ∀ c ∈ headLn x, 11 ≤ c.toNat := by
  intro c hc
  unfold headLn at hc
  rw [List.mem_append] at hc
  rcases hc with hc | hc
  · have := kind_mem h.kb hc; omega
  · split at hc
    · obtain rfl : c = 58 := by simpa using hc
      decide
    · rw [List.mem_append] at hc
      rcases hc with hc | hc
      · rcases List.mem_cons.1 hc with rfl | hc
        · decide
        · obtain rfl : c = 32 := by simpa using hc
          decide
      · have := text_mem h.tb hc; omega
theorem place_10 {x : Frame} (h : x.rt) : ∀ c ∈ placeL x, 11 ≤ c.toNat := by
  intro c hc
  rw [← words_rest, List.mem_flatMap] at hc
  obtain ⟨u, hu, hc⟩ := hc
  rcases List.mem_cons.1 hc with rfl | hc
  · decide
  · have := words_mem h hu hc; omega
theorem line_10 {x : Frame} (h : x.rt) : ∀ c ∈ lineL x, 11 ≤ c.toNat := by
  intro c hc
  unfold lineL at hc
  rw [List.mem_append] at hc
  rcases hc with hc | hc
  · have := call_mem h hc; omega
  · exact place_10 h c hc
theorem rest_10 {x : Frame} (h : x.rt) : ∀ c ∈ restL x, 11 ≤ c.toNat := fun c hc => place_10 h c (List.mem_of_mem_drop hc)
theorem told_10 (n : Int) : ∀ c ∈ toldL n, 11 ≤ c.toNat := fun c hc => by have := digs_low (.inl rfl) hc; omega
end Go.Proofs.YtncpeokniffafaaGreatDoor

/- Plain law: what is written in a form is read back. -/
namespace Go.Proofs.YtncpeokniffafaaGreatDoor
open Go.RowKit
set_option linter.unusedVariables false
set_option linter.unusedSimpArgs false
theorem linesOf_cut (s : ByteArray) : linesOf s = cutL s 10 :: (if cutK s 10 then linesOf (cutR s 10) else []) := by
  rcases Lib.indexB_cases s ⟨#[10]⟩ with h | ⟨i, h, hr⟩
  · have hk : Lib.index s.data.toList [10] = -1 := h
    have h1 : linesOf s = [s] := by unfold linesOf; rw [Lib.countB_miss _ _ h, Lib.splitB_zero]
    have h2 : cutL s 10 = s := by unfold cutL Lib.cut; rw [hk]; simp
    have h3 : cutK s 10 = false := by unfold cutK Lib.cut; rw [hk]; simp
    rw [h1, h2, h3]; simp
  · have hk : Lib.index s.data.toList [10] = (i : Int) := h
    have hc := Lib.countB_hit s ⟨#[10]⟩ i (by decide) h
    have h2 : cutL s 10 = s.extract 0 (i + 0) := by
      unfold cutL Lib.cut; rw [hk]
      apply ByteArray.ext
      apply Array.toList_inj.1
      simp
    have h3 : cutK s 10 = true := by unfold cutK Lib.cut; rw [hk]; simp
    have h4 : cutR s 10 = s.extract (i + (⟨#[10]⟩ : ByteArray).size) s.size := by
      unfold cutR Lib.cut; rw [hk]
      apply ByteArray.ext
      apply Array.toList_inj.1
      have : (⟨#[10]⟩ : ByteArray).size = 1 := rfl
      rw [this]
      rw [Lib.extract_to_end]
      simp
    rw [h2, h3, h4, if_pos rfl]
    show Lib.splitB _ 0 (Lib.countB s _) s = _
    rw [hc, Nat.add_comm 1, Lib.splitB_hit _ _ _ _ _ h]
    rfl
def feeds (Ls : List (List UInt8)) : List UInt8 := Ls.flatMap (fun l => l ++ [10])
theorem feeds_app (a b : List (List UInt8)) : feeds (a ++ b) = feeds a ++ feeds b := by unfold feeds; rw [List.flatMap_append]
theorem feeds_cons (a : List UInt8) (b : List (List UInt8)) : feeds (a :: b) = a ++ [10] ++ feeds b := by unfold feeds; rw [List.flatMap_cons]
theorem feeds_map {α : Type} (f : α → List UInt8) (l : List α) : feeds (l.map f) = l.flatMap (fun x => f x ++ [10]) := by
  unfold feeds; rw [List.flatMap_map]
theorem lines_flat : ∀ (Ls : List (List UInt8)), (∀ l ∈ Ls, (10 : UInt8) ∉ l) → linesOf (bs (feeds Ls)) = Ls.map bs ++ [bs []]
  | [], _ => by
    have h : (10 : UInt8) ∉ ([] : List UInt8) := by simp
    show linesOf (bs []) = _
    rw [linesOf_cut, cutL_none h, cutK_none h]; rfl
  | l :: Ls, h => by
    have hl := h l List.mem_cons_self
    rw [feeds_cons, List.append_assoc]
    show linesOf (bs (l ++ 10 :: feeds Ls)) = _
    rw [linesOf_cut, cutL_mid _ hl, cutK_mid _ hl, cutR_mid _ hl, if_pos rfl, lines_flat Ls (fun x hx => h x (List.mem_cons_of_mem _ hx))]
    rfl
theorem lin_flat {Ls : List (List UInt8)} (h : ∀ l ∈ Ls, (10 : UInt8) ∉ l) : linL (bs (feeds Ls)) = Ls.map bs ∧ linT (bs (feeds Ls)) = ⟨#[]⟩ := by
  unfold linL linT
  rw [lines_flat Ls h]
  refine ⟨by rw [List.dropLast_concat], by rw [List.getLast?_concat]; rfl⟩
/- Lines by what is left of them. -/
section
variable {L R : List ByteArray} {k : Nat} {x : ByteArray} {pre : ByteArray} {p l : List UInt8}
theorem at_drop (h : L.drop k = x :: R) : L[k]? = some x ∧ L.drop (k + 1) = R ∧ k < L.length := by
  have h1 : L[k]? = some x := by
    have := congrArg (fun z => z[0]?) h
    simpa using this
  refine ⟨h1, ?_, (List.getElem?_eq_some_iff.1 h1).1⟩
  rw [← List.drop_drop, h]; rfl
def bgR (R : List ByteArray) (p : List UInt8) : Bool := match R with
  | [] => false
  | x :: _ => Lib.hasPrefix x.data.toList p
theorem beg_drop (h : L.drop k = R) : begK L k pre = bgR R pre.data.toList := by
  unfold begK bgR
  cases R with
  | nil => rw [List.getElem?_eq_none (by simpa using h)]
  | cons x R => rw [(at_drop h).1]
theorem has_app (p l : List UInt8) : Lib.hasPrefix (p ++ l) p = true := by unfold Lib.hasPrefix; rw [List.isPrefixOf_iff_prefix]; exact List.prefix_append _ _
theorem beg_app (h : L.drop k = bs (pre.data.toList ++ l) :: R) : begK L k pre = true := by
  rw [beg_drop h]
  show Lib.hasPrefix _ _ = true
  rw [bs_list]; exact has_app _ _
theorem lin_app (h : L.drop k = bs (pre.data.toList ++ l) :: R) : lineR L k pre = bs l := by
  unfold lineR
  rw [(at_drop h).1]
  apply bs_eq
  simp only
  rw [Lib.extract_to_end, bs_list, ← len_size', List.drop_left]
theorem flt_app {f : FaultT} (hf : f.rt) (h : L.drop k = bs (pre.data.toList ++ headLn f) :: R) : fltS L k pre = some (f.kind, f.text) := by
  have h1 := head_back hf
  unfold fltS
  rw [beg_app h, lin_app h, h1.1, h1.2.1, h1.2.2]; rfl
theorem frm_app {y : Frame} (hy : y.rt) (h : L.drop k = bs (pre.data.toList ++ lineL y) :: R) : frmS L k pre = some y.frm := by
  unfold frmS
  rw [beg_app h, lin_app h, if_pos rfl, line_back hy]
end
theorem frs_back {L : List ByteArray} {pre : ByteArray} (R : List ByteArray) (hR : bgR R pre.data.toList = false) : ∀ (fs : List Frame) (k : Nat) (acc : List Frame), (∀ y ∈ fs, y.rt) → L.drop k = fs.map (fun y => bs (pre.data.toList ++ lineL y)) ++ R →
    frsFrom L pre (L.length - k) k acc = (true, k + fs.length, acc ++ fs) ∧ L.drop (k + fs.length) = R
  | [], k, acc, _, h => by
    rw [frs_stop (by rw [beg_drop h]; exact hR), List.append_nil]
    exact ⟨rfl, h⟩
  | y :: fs, k, acc, hy, h => by
    have h1 := frm_app (hy y List.mem_cons_self) h
    have h2 := at_drop h
    have ih := frs_back R hR fs (k + 1) (acc ++ [y]) (fun z hz => hy z (List.mem_cons_of_mem _ hz)) h2.2.1
    rw [frs_step (beg_app h) h1]
    have e : frmF y.frm = y := rfl
    rw [e, List.length_cons, show k + (fs.length + 1) = k + 1 + fs.length by omega]
    refine ⟨by rw [ih.1, List.append_assoc]; rfl, ih.2⟩
/- Shared frames. -/
theorem shared_inv (a b : List Frame) : ∀ (f k : Nat), k ≤ sharedFrom a b f k ∧ ∀ j, k ≤ j → j < sharedFrom a b f k → j < a.length ∧ j < b.length ∧ a[a.length - 1 - j]? = b[b.length - 1 - j]?
  | 0, k => ⟨Nat.le_refl _, fun j h1 h2 => by rw [sharedFrom] at h2; omega⟩
  | f + 1, k => by
    rw [sharedFrom]
    split
    · rename_i h
      have ih := shared_inv a b f (k + 1)
      refine ⟨by omega, fun j h1 h2 => ?_⟩
      by_cases e : j = k
      · subst e; exact h
      · exact ih.2 j (by omega) h2
    · exact ⟨Nat.le_refl _, fun j h1 h2 => by omega⟩
theorem shared_tail {a b : List Frame} : sharedN a b ≤ a.length ∧ sharedN a b ≤ b.length ∧ a.drop (a.length - sharedN a b) = b.drop (b.length - sharedN a b) := by
  have h := shared_inv a b a.length 0
  have hs : sharedFrom a b a.length 0 = sharedN a b := rfl
  rw [hs] at h
  have hb := sharedN_le a b
  have ha : sharedN a b ≤ a.length := by
    rcases Nat.eq_zero_or_pos (sharedN a b) with h0 | h0
    · omega
    · have := (h.2 (sharedN a b - 1) (Nat.zero_le _) (by omega)).1
      omega
  refine ⟨ha, hb, ?_⟩
  apply List.ext_getElem?
  intro i
  rw [List.getElem?_drop, List.getElem?_drop]
  by_cases hi : i < sharedN a b
  · have h1 := (h.2 (sharedN a b - 1 - i) (Nat.zero_le _) (by omega)).2.2
    rw [show a.length - sharedN a b + i = a.length - 1 - (sharedN a b - 1 - i) by omega, show b.length - sharedN a b + i = b.length - 1 - (sharedN a b - 1 - i) by omega]
    exact h1
  · rw [List.getElem?_eq_none (by omega), List.getElem?_eq_none (by omega)]
/- The form Inner. -/
def goneP (p : Option (List Frame)) (f : FaultT) : Nat := match p with
  | none => 0
  | some a => if sharedN a f.frs < 2 then 0 else sharedN a f.frs
def atL : List UInt8 := [32, 32, 32, 32, 97, 116, 32]
def dotsL (n : Nat) : List UInt8 := [32, 32, 32, 32, 46, 46, 46, 32] ++ (toldL n ++ [32, 109, 111, 114, 101])
def innLs : Option (List Frame) → List FaultT → List (List UInt8)
  | _, [] => []
  | p, f :: r => ((if p.isNone then [] else causedL) ++ headLn f) :: ((f.frs.take (f.frs.length - goneP p f)).map (fun y => atL ++ lineL y) ++ ((if goneP p f = 0 then [] else [dotsL (goneP p f)]) ++ innLs (some f.frs) r))
theorem gone_le (p : Option (List Frame)) (f : FaultT) : goneP p f ≤ f.frs.length := by
  unfold goneP
  split
  · omega
  · split
    · omega
    · exact sharedN_le _ _
theorem inn_beg (a : List Frame) (r : List FaultT) (p : List UInt8) (hp : p[0]? = some 32) : bgR ((innLs (some a) r).map bs) p = false := by
  cases r with
  | nil => rfl
  | cons f r =>
    show Lib.hasPrefix (bs (causedL ++ headLn f)).data.toList p = false
    rw [bs_list]
    cases p with
    | nil => cases hp
    | cons c p =>
      obtain rfl : c = 32 := by simpa using hp
      rfl
theorem lastF_snoc (o : List Flt) (x : Flt) : lastF (o ++ [x]) = some x.frs := by unfold lastF; rw [List.getLast?_concat]; rfl
theorem inn_one {L : List ByteArray} {k : Nat} {out : List Flt} {f : FaultT} {r : List FaultT} (hf : f.rt) (hlen : f.frs.length ≤ 200) (h : L.drop k = (innLs (lastF out) (f :: r)).map bs) :
    ∃ k2, innStep L ⟨#[]⟩ k out (if (lastF out).isNone then ⟨#[]⟩ else preCaused) = .inr (k2, out ++ [f.flt]) ∧ L.drop k2 = (innLs (some f.frs) r).map bs := by
  obtain ⟨p, hp⟩ : ∃ p, lastF out = p := ⟨_, rfl⟩
  rw [hp] at h ⊢
  obtain ⟨g, hg⟩ : ∃ g, goneP p f = g := ⟨_, rfl⟩
  have hgl := gone_le p f
  rw [innLs, hg, List.map_cons, List.map_append, List.map_append, List.map_map] at h
  rw [hg] at hgl
  have hpre : (if p.isNone then ⟨#[]⟩ else preCaused : ByteArray).data.toList = (if p.isNone then [] else causedL) := by split <;> rfl
  rw [← hpre] at h
  have h1 := flt_app hf h
  have h2 := (at_drop h).2.1
  obtain ⟨RR, hRR⟩ : ∃ RR, (if g = 0 then [] else [dotsL g]).map bs ++ (innLs (some f.frs) r).map bs = RR := ⟨_, rfl⟩
  rw [hRR] at h2
  have hb : bgR RR preAt.data.toList = false := by
    rw [← hRR]
    by_cases h0 : g = 0
    · rw [if_pos h0]; exact inn_beg _ _ _ rfl
    · rw [if_neg h0]
      show Lib.hasPrefix (bs (dotsL g)).data.toList preAt.data.toList = false
      rw [bs_list]
      rfl
  have h3 := frs_back RR hb (f.frs.take (f.frs.length - g)) (k + 1) [] (fun y hy => hf.fr y (List.mem_of_mem_take hy)) h2
  rw [List.length_take, Nat.min_eq_left (by omega), List.nil_append] at h3
  obtain ⟨k1, hk1⟩ : ∃ k1, k + 1 + (f.frs.length - g) = k1 := ⟨_, rfl⟩
  rw [hk1] at h3
  unfold innStep
  rw [h1]
  simp only
  rw [h3.1, if_pos rfl]
  simp only
  unfold innTail
  by_cases h0 : g = 0
  · rw [if_pos h0, List.map_nil, List.nil_append] at hRR
    subst hRR
    have hd : begK L k1 preDots = false := by rw [beg_drop h3.2]; exact inn_beg _ _ _ rfl
    have hz : (decide (k1 = L.length) && (hasP ⟨#[]⟩ preAt || hasP ⟨#[]⟩ preDots)) = false := by
      rw [show (hasP ⟨#[]⟩ preAt || hasP ⟨#[]⟩ preDots) = false by decide +kernel, Bool.and_false]
    refine ⟨k1, ?_, h3.2⟩
    rw [hd, if_neg (by decide), hz, if_neg (by decide)]
    have hfr : f.frs.take (f.frs.length - g) = f.frs := by rw [h0]; exact List.take_length
    rw [hfr]
    unfold innShr
    rw [hp]
    have hs : shrN p f.frs (k + 2) k1 (-1) = (0, f.frs) := by
      cases p with
      | none => rfl
      | some a =>
        unfold shrN
        rw [if_neg (by decide)]
        simp only
        have : sharedN a f.frs < 2 := by
          unfold goneP at hg
          simp only at hg
          split at hg
          · assumption
          · omega
        rw [if_neg (by omega)]
    rw [hs, if_neg (Nat.lt_irrefl 0)]
    rfl
  · rw [if_neg h0] at hRR
    obtain ⟨a, ha⟩ : ∃ a, p = some a := by
      cases p with
      | none => exact absurd hg.symm h0
      | some a => exact ⟨a, rfl⟩
    subst ha
    have hsh : sharedN a f.frs = g ∧ 2 ≤ g := by
      unfold goneP at hg
      simp only at hg
      split at hg
      · omega
      · exact ⟨hg, by omega⟩
    have ht := @shared_tail a f.frs
    rw [hsh.1] at ht
    subst hRR
    have h4 : L.drop k1 = bs (preDots.data.toList ++ (toldL g ++ sfxMore.data.toList)) :: (innLs (some f.frs) r).map bs := h3.2
    have hd := beg_app h4
    have hl := lin_app h4
    have hsf : Lib.hasSuffix (toldL (g : Int) ++ sfxMore.data.toList) sfxMore.data.toList = true := by unfold Lib.hasSuffix; rw [List.isSuffixOf_iff_suffix]; exact List.suffix_append _ _
    have hS : dotS L k1 = bs (digs 10 g) := by
      unfold dotS
      rw [hl, bs_list, Lib.trimSuffix, if_pos hsf]
      apply bs_eq
      simp [toldL]
    have hn := num_digs (b := 10) (m := 3) (u := g) (.inl rfl) (by omega) (by decide)
    have hK : dotK L k1 = true := by unfold dotK; rw [hl, bs_list, hsf, hS, hn.1]; rfl
    have hN : dotN L k1 = (g : Int) := by unfold dotN; rw [hS, hn.2]
    refine ⟨k1 + 1, ?_, (at_drop h4).2.1⟩
    rw [hd, if_pos rfl, hK, if_pos rfl, hN]
    unfold innShr
    rw [hp]
    have he : f.frs.take (f.frs.length - g) ++ a.drop (a.length - g) = f.frs := by rw [ht.2.2]; exact List.take_append_drop _ _
    have hs : shrN (some a) (f.frs.take (f.frs.length - g)) (k + 2) (k1 + 1) (g : Int) = (0, f.frs) := by
      unfold shrN
      rw [if_pos (by omega)]
      simp only
      rw [if_neg (by omega), if_neg (by omega), Int.toNat_natCast, he, hsh.1, if_pos rfl]
    rw [hs, if_neg (Nat.lt_irrefl 0)]
    rfl
theorem inn_back {L : List ByteArray} : ∀ (r : List FaultT) (out : List Flt) (k : Nat), r ≠ [] → (∀ f ∈ r, f.rt ∧ f.frs.length ≤ 200) → L.drop k = (innLs (lastF out) r).map bs →
    innR L ⟨#[]⟩ (L.length - k + 1) k out (if (lastF out).isNone then ⟨#[]⟩ else preCaused) = (some (out ++ r.map FaultT.flt), 0)
  | [], _, _, h, _, _ => absurd rfl h
  | f :: r, out, k, _, hf, h => by
    have hf0 := hf f List.mem_cons_self
    obtain ⟨k2, h1, h2⟩ := inn_one hf0.1 hf0.2 h
    cases r with
    | nil =>
      have hk := (innStep_lt h1).2
      have : L.length ≤ k2 := List.drop_eq_nil_iff.1 h2
      obtain rfl : k2 = L.length := by omega
      rw [inn_last h1]; rfl
    | cons f2 r =>
      have h3 := (at_drop h2).2.2
      have hl := lastF_snoc out f.flt
      have ih := inn_back (f2 :: r) (out ++ [f.flt]) k2 (by simp) (fun x hx => hf x (List.mem_cons_of_mem _ hx)) (by rw [hl]; exact h2)
      rw [hl] at ih
      rw [inn_step h1 (by omega)]
      exact ih.trans (by simp)
/- The form Outer. -/
def outLs : List FaultT → List (List UInt8)
  | [] => []
  | f :: r => preTb.data.toList :: (f.frs.reverse.map (fun y => preTwo.data.toList ++ lineL y) ++ headLn f :: (if r.isEmpty then [] else preLed.data.toList :: outLs r))
theorem lineIs_at {L R : List ByteArray} {k : Nat} {pre : ByteArray} (h : L.drop k = bs pre.data.toList :: R) : lineIs L k pre = true := by
  have h' : L.drop k = bs (pre.data.toList ++ []) :: R := by rw [List.append_nil]; exact h
  unfold lineIs
  rw [beg_app h', lin_app h', emptyB_bs]; rfl
theorem head_two {f : FaultT} (hf : f.rt) (R : List ByteArray) : bgR (bs (headLn f) :: R) preTwo.data.toList = false := by
  show Lib.hasPrefix (bs (headLn f)).data.toList _ = false
  rw [bs_list]
  unfold headLn
  have hne : f.kind.data.toList ≠ [] := by
    intro e
    have := hf.ke
    rw [emptyB_list, e] at this
    cases this
  cases hk : f.kind.data.toList with
  | nil => exact absurd hk hne
  | cons c r =>
    have h1 := (kind_mem hf.kb (c := c) (by rw [hk]; exact List.mem_cons_self)).1
    have h2 : ¬ (32 : UInt8) = c := fun e => by subst e; revert h1; decide
    show ([32, 32] : List UInt8).isPrefixOf (c :: (r ++ _)) = false
    rw [List.isPrefixOf]
    simp [h2]
theorem out_back {L : List ByteArray} : ∀ (r : List FaultT) (out : List Flt) (k : Nat), r ≠ [] → (∀ f ∈ r, f.rt) → L.drop k = (outLs r).map bs →
    outR L (L.length - k + 1) k out = (some (out ++ r.map FaultT.flt).reverse, 0)
  | [], _, _, h, _, _ => absurd rfl h
  | f :: r, out, k, _, hf, h => by
    have hf0 := hf f List.mem_cons_self
    rw [outLs, List.map_cons, List.map_append, List.map_map, List.map_cons] at h
    have h1 := lineIs_at h
    have h2 := (at_drop h).2.1
    have h3 := frs_back _ (head_two hf0 _) f.frs.reverse (k + 1) [] (fun y hy => hf0.fr y (List.mem_reverse.1 hy)) h2
    rw [List.nil_append] at h3
    obtain ⟨k1, hk1⟩ : ∃ k1, k + 1 + f.frs.reverse.length = k1 := ⟨_, rfl⟩
    rw [hk1] at h3
    have h4 : fltS L k1 ⟨#[]⟩ = some (f.kind, f.text) := flt_app (pre := ⟨#[]⟩) hf0 h3.2
    have h5 := (at_drop h3.2).2
    have hst : ∀ X, outTail L k1 f.frs.reverse out = X → outStep L k out = X := by
      intro X hX
      unfold outStep
      rw [h1, if_pos rfl, h3.1, if_pos rfl]
      exact hX
    have e : Flt.mk f.kind f.text f.frs.reverse.reverse = f.flt := by rw [List.reverse_reverse]; rfl
    cases r with
    | nil =>
      have : L.length ≤ k1 + 1 := List.drop_eq_nil_iff.1 h5.1
      rw [out_end (hst _ (by unfold outTail; rw [h4]; simp only; rw [if_pos (by omega)]))]
      rw [e]; rfl
    | cons f2 r =>
      have h6 : L.drop (k1 + 1) = bs preLed.data.toList :: (outLs (f2 :: r)).map bs := h5.1
      have h7 := at_drop h6
      have ih := out_back (f2 :: r) (out ++ [f.flt]) (k1 + 2) (by simp) (fun x hx => hf x (List.mem_cons_of_mem _ hx)) h7.2.1
      rw [out_step (hst _ (by unfold outTail; rw [h4]; simp only; rw [if_neg (by omega), if_pos (lineIs_at h6), e]))]
      exact ih.trans (by simp)
/- The form Pairs. -/
def parLs : List FaultT → List (List UInt8)
  | [] => []
  | f :: r => (preFlt.data.toList ++ headLn f) :: (f.frs.flatMap (fun y => [(callB y).data.toList, preTab.data.toList ++ restL y]) ++ parLs r)
theorem call_flt {y : Frame} (hy : y.rt) : Lib.hasPrefix (callB y).data.toList preFlt.data.toList = false := by
  rw [Bool.eq_false_iff]
  intro h
  unfold Lib.hasPrefix at h
  have h1 := List.isPrefixOf_iff_prefix.1 h
  have h2 : (32 : UInt8) ∈ (callB y).data.toList := h1.subset (by decide +kernel)
  have := (call_mem hy h2).1
  revert this
  decide
theorem pfs_back {L : List ByteArray} (R : List ByteArray) (hR : R = [] ∨ bgR R preFlt.data.toList = true) : ∀ (fs : List Frame) (k : Nat) (acc : List Frame), (∀ y ∈ fs, y.rt) → L.drop k = (fs.flatMap (fun y => [(callB y).data.toList, preTab.data.toList ++ restL y])).map bs ++ R →
    parFrs L (L.length - k) k acc = (0, k + 2 * fs.length, acc ++ fs) ∧ L.drop (k + 2 * fs.length) = R
  | [], k, acc, _, h => by
    rw [List.append_nil]
    refine ⟨?_, h⟩
    rcases hR with rfl | hR
    · exact par_end (List.getElem?_eq_none (by simpa using h))
    · cases R with
      | nil => cases hR
      | cons x R => exact par_flt (at_drop h).1 (by rw [beg_drop h]; exact hR)
  | y :: fs, k, acc, hy, h => by
    have hy0 := hy y List.mem_cons_self
    have h' : L.drop k = bs (callB y).data.toList :: bs (preTab.data.toList ++ restL y) :: ((fs.flatMap (fun y => [(callB y).data.toList, preTab.data.toList ++ restL y])).map bs ++ R) := h
    have h1 := at_drop h'
    have h2 := at_drop h1.2.1
    have ih := pfs_back R hR fs (k + 2) (acc ++ [y]) (fun z hz => hy z (List.mem_cons_of_mem _ hz)) h2.2.1
    have hx := h1.1
    rw [bs_of] at hx
    rw [par_step (y := y.frm) hx (by rw [beg_drop h']; show Lib.hasPrefix (bs _).data.toList _ = false; rw [bs_of]; exact call_flt hy0) (call_back hy0).1 (beg_app h1.2.1) (by rw [lin_app h1.2.1]; exact frO_back hy0)]
    have e : frmF y.frm = y := rfl
    rw [e, List.length_cons, show k + 2 * (fs.length + 1) = k + 2 + 2 * fs.length by omega]
    refine ⟨by rw [ih.1, List.append_assoc]; rfl, ih.2⟩
theorem par_back {L : List ByteArray} : ∀ (r : List FaultT) (out : List Flt) (k : Nat), r ≠ [] → (∀ f ∈ r, f.rt) → L.drop k = (parLs r).map bs →
    parR L (L.length - k + 1) k out = (some (out ++ r.map FaultT.flt), 0)
  | [], _, _, h, _, _ => absurd rfl h
  | f :: r, out, k, _, hf, h => by
    have hf0 := hf f List.mem_cons_self
    rw [parLs, List.map_cons, List.map_append] at h
    have h1 := flt_app hf0 h
    have h2 := (at_drop h).2.1
    have hR : (parLs r).map bs = [] ∨ bgR ((parLs r).map bs) preFlt.data.toList = true := by
      cases r with
      | nil => exact .inl rfl
      | cons f2 r =>
        right
        show Lib.hasPrefix (bs (preFlt.data.toList ++ headLn f2)).data.toList _ = true
        rw [bs_list]; exact has_app _ _
    have h3 := pfs_back _ hR f.frs (k + 1) [] hf0.fr h2
    rw [List.nil_append] at h3
    obtain ⟨k1, hk1⟩ : ∃ k1, k + 1 + 2 * f.frs.length = k1 := ⟨_, rfl⟩
    rw [hk1] at h3
    have e : Flt.mk f.kind f.text f.frs = f.flt := rfl
    cases r with
    | nil =>
      have h4 : L.length ≤ k1 := List.drop_eq_nil_iff.1 h3.2
      have h5 := (parFrs_le L (L.length - (k + 1)) (k + 1) [] (at_drop h).2.2).2
      rw [h3.1] at h5
      simp only at h5
      rw [par_last (r := (some (out ++ [f.flt]), 0)) (by unfold parStep; rw [h1]; simp only; rw [h3.1, if_pos rfl]; simp only; rw [if_pos (by omega)]; rfl)]
      rfl
    | cons f2 r =>
      have h4 := (at_drop (x := bs (preFlt.data.toList ++ headLn f2)) h3.2).2.2
      have ih := par_back (f2 :: r) (out ++ [f.flt]) k1 (by simp) (fun x hx => hf x (List.mem_cons_of_mem _ hx)) h3.2
      rw [par_next (k2 := k1) (out2 := out ++ [f.flt]) (by unfold parStep; rw [h1]; simp only; rw [h3.1, if_pos rfl]; simp only; rw [if_neg (by omega)]; rfl)]
      exact ih.trans (by simp)
end Go.Proofs.YtncpeokniffafaaGreatDoor

/- Plain law: what Write writes, Read reads. -/
namespace Go.Proofs.YtncpeokniffafaaGreatDoor
open Go.RowKit
set_option linter.unusedVariables false
set_option linter.unusedSimpArgs false
theorem frErr_rt {y : Frame} (h : frErr y = 0) (h1 : (33 : UInt8) ∉ y.fn.data.toList) (h2 : (33 : UInt8) ∉ y.mod.data.toList) : y.rt := by
  rw [frErr] at h
  split at h
  · cases h
  · rename_i hs
    split at h
    · rename_i hw
      simp only [Bool.and_eq_true] at hw
      rw [frTail] at h
      split at h; · cases h
      rename_i he
      split at h; · cases h
      rename_i ho
      split at h; · cases h
      rename_i hl
      simp only [outsideB, Bool.or_eq_true, decide_eq_true_eq, not_or] at ho
      refine ⟨⟨by omega, by omega, by omega, by omega, by omega, by omega, by omega⟩, hw.1.1, hw.1.2, hw.2, by simpa using he, fun hf => ?_, h1, h2⟩
      rw [hf] at hl
      simpa using hl
    · cases h
theorem fltErr_rt {x : FaultT} (h : fltErr x = 0) (hb : ∀ y ∈ x.frs, (33 : UInt8) ∉ y.fn.data.toList ∧ (33 : UInt8) ∉ y.mod.data.toList) : x.rt ∧ x.frs.length ≤ 200 := by
  rw [fltErr] at h
  split at h; · cases h
  split at h; · cases h
  rename_i hk
  split at h; · cases h
  rename_i he
  split at h; · cases h
  split at h; · cases h
  rename_i ht
  have hlen := frsErr_len h
  refine ⟨⟨by simpa using hk, by simpa using he, by simpa using ht, fun y hy => ?_⟩, hlen⟩
  obtain ⟨i, hi, rfl⟩ := List.mem_iff_getElem.1 hy
  rw [frsErr, if_neg (by omega)] at h
  have h2 := firstErr_all h i hi
  rw [frAt_some (List.getElem?_eq_getElem hi)] at h2
  exact frErr_rt h2 (hb _ hy).1 (hb _ hy).2
theorem flts_rt {l : List FaultT} (h : fltsErr l = 0) (hb : banged l = false) : l ≠ [] ∧ ∀ f ∈ l, f.rt ∧ f.frs.length ≤ 200 := by
  rw [fltsErr] at h
  split at h; · cases h
  rename_i h0
  split at h; · cases h
  refine ⟨fun e => h0 (by rw [e]; rfl), fun x hx => ?_⟩
  have hbx : ∀ y ∈ x.frs, (33 : UInt8) ∉ y.fn.data.toList ∧ (33 : UInt8) ∉ y.mod.data.toList := by
    intro y hy
    unfold banged at hb
    rw [List.any_eq_false] at hb
    have h1 := hb x hx
    simp only [Bool.not_eq_true, List.any_eq_false] at h1
    have h2 := h1 y hy
    simp only [List.contains_eq_mem, Bool.or_eq_false_iff, decide_eq_false_iff_not] at h2
    exact h2
  obtain ⟨i, hi, rfl⟩ := List.mem_iff_getElem.1 hx
  have h2 := firstErr_all h i hi
  rw [fltAt_some (List.getElem?_eq_getElem hi)] at h2
  exact fltErr_rt h2 hbx
theorem range_drop {n k : Nat} (h : k < n) : (List.range n).drop k = k :: (List.range n).drop (k + 1) := by
  rw [List.drop_eq_getElem_cons (by simpa using h)]
  simp
theorem feeds_more (g : Nat) : moreL g = feeds (if g = 0 then [] else [dotsL g]) := by
  unfold moreL
  split
  · rfl
  · rw [feeds_cons]; unfold dotsL feeds; simp
theorem inner_lines {l : List FaultT} : ∀ (r done : List FaultT), l = done ++ r → ((List.range l.length).drop done.length).flatMap (innerAt l) = feeds (innLs (done.getLast?.map FaultT.frs) r)
  | [], done, h => by
    rw [List.append_nil] at h
    subst h
    rw [List.drop_of_length_le (by simp)]; rfl
  | f :: r, done, h => by
    have hk : done.length < l.length := by rw [h]; simp
    have hf : l[done.length]? = some f := by rw [h]; simp
    have ih := inner_lines (l := l) r (done ++ [f]) (by rw [h]; simp)
    rw [List.length_append, List.length_singleton, List.getLast?_concat] at ih
    rw [range_drop hk, List.flatMap_cons, ih]
    have hg : goneN l done.length = goneP (done.getLast?.map FaultT.frs) f := by
      unfold goneN goneP
      by_cases h0 : done.length = 0
      · have : done = [] := List.eq_nil_of_length_eq_zero h0
        subst this
        rfl
      · have hl : l[done.length - 1]? = done.getLast? := by
          rw [h, List.getElem?_append_left (by omega), List.getLast?_eq_getElem?]
        rw [if_neg h0, hl, hf]
        cases hd : done.getLast? with
        | none => rw [List.getLast?_eq_none_iff] at hd; subst hd; exact absurd rfl h0
        | some a => rfl
    have hn : (done.getLast?.map FaultT.frs).isNone = decide (done.length = 0) := by
      cases done with
      | nil => rfl
      | cons a d => simp
    unfold innerAt
    rw [hf]
    simp only
    rw [innLs, hg, hn, feeds_cons, feeds_app, feeds_map, feeds_app, ← feeds_more, headLn_eq]
    have e1 : (if decide (done.length = 0) = true then [] else causedL) = (if done.length = 0 then [] else causedL) := by by_cases h0 : done.length = 0 <;> simp [h0]
    rw [e1]
    have e2 : (fun x => atL ++ lineL x ++ [10]) = frInner := rfl
    rw [e2]
    simp only [List.append_assoc]
    rfl
theorem written_inner (l : List FaultT) : writtenL l 1 = feeds (innLs none l) := by
  have := inner_lines l [] rfl
  simpa [writtenL] using this
theorem outer_lines {l : List FaultT} : ∀ k, k ≤ l.length → (List.range k).reverse.flatMap (outerAt l) = feeds (outLs (l.take k).reverse)
  | 0, _ => rfl
  | k + 1, h => by
    have hf : l[k]? = some l[k] := List.getElem?_eq_getElem (by omega)
    have ih := outer_lines (l := l) k (by omega)
    rw [List.range_succ, List.reverse_append, List.reverse_singleton, List.singleton_append, List.flatMap_cons, ih]
    rw [List.take_add_one, hf]
    simp only [Option.toList_some]
    rw [List.reverse_append, List.reverse_singleton, List.singleton_append, outLs, feeds_cons, feeds_app, feeds_map, feeds_cons]
    unfold outerAt
    rw [hf]
    simp only
    have he : (l.take k).reverse.isEmpty = decide (k = 0) := by
      by_cases h0 : k = 0
      · subst h0; rfl
      · rw [decide_eq_false h0, List.isEmpty_eq_false_iff]
        intro e
        have := congrArg List.length e
        rw [List.length_reverse, List.length_take, List.length_nil] at this
        omega
    have e2 : (fun x => preTwo.data.toList ++ lineL x ++ [10]) = frOuter := rfl
    rw [e2, headLn_eq, he]
    have e3 : traceL = preTb.data.toList ++ [10] := rfl
    rw [e3]
    by_cases h0 : k = 0
    · subst h0
      simp [feeds, outLs]
    · rw [if_neg h0, if_neg (by simp [h0]), feeds_cons]
      have e4 : whichL = preLed.data.toList ++ [10] := rfl
      rw [e4]
      simp only [List.append_assoc]
theorem written_outer (l : List FaultT) : writtenL l 2 = feeds (outLs l.reverse) := by
  have := outer_lines (l := l) l.length (Nat.le_refl _)
  rw [List.take_length] at this
  unfold writtenL
  rw [if_neg (by decide), if_pos rfl]
  exact this
theorem parLs_app (a b : List FaultT) : parLs (a ++ b) = parLs a ++ parLs b := by
  induction a with
  | nil => rfl
  | cons f a ih => rw [List.cons_append, parLs, parLs, ih]; simp
theorem pair_lines {l : List FaultT} : ∀ k, k ≤ l.length → (List.range k).flatMap (pairAt l) = feeds (parLs (l.take k))
  | 0, _ => rfl
  | k + 1, h => by
    have hf : l[k]? = some l[k] := List.getElem?_eq_getElem (by omega)
    have ih := pair_lines (l := l) k (by omega)
    rw [List.range_succ, List.flatMap_append, ih, List.flatMap_singleton, List.take_add_one, hf]
    simp only [Option.toList_some]
    rw [parLs_app, feeds_app]
    congr 1
    unfold pairAt
    rw [hf]
    simp only
    rw [parLs, parLs, List.append_nil, feeds_cons, headLn_eq]
    have e2 : ∀ fs : List Frame, feeds (fs.flatMap (fun y => [(callB y).data.toList, preTab.data.toList ++ restL y])) = fs.flatMap frPair := by
      intro fs
      unfold feeds
      rw [List.flatMap_assoc]
      congr 1
      funext y
      unfold frPair
      show (callB y).data.toList ++ [10] ++ ((preTab.data.toList ++ restL y ++ [10]) ++ []) = _
      rw [show preTab.data.toList = [9] from rfl]
      simp
    rw [e2]
    have e3 : faultL = preFlt.data.toList := rfl
    rw [e3]
    simp only [List.append_assoc]
theorem written_pairs (l : List FaultT) : writtenL l 3 = feeds (parLs l) := by
  have := pair_lines (l := l) l.length (Nat.le_refl _)
  rw [List.take_length] at this
  unfold writtenL
  rw [if_neg (by decide), if_neg (by decide)]
  exact this
/- No line has a line feed. -/
theorem n10_app {a b : List UInt8} (ha : (10 : UInt8) ∉ a) (hb : (10 : UInt8) ∉ b) : (10 : UInt8) ∉ a ++ b := fun h => (List.mem_append.1 h).elim ha hb
theorem innLs_10 : ∀ (r : List FaultT) (p : Option (List Frame)), (∀ f ∈ r, f.rt) → ∀ u ∈ innLs p r, (10 : UInt8) ∉ u
  | [], _, _ => fun u hu => by cases hu
  | f :: r, p, h => by
    intro u hu
    have hf := h f List.mem_cons_self
    rw [innLs, List.mem_cons, List.mem_append, List.mem_append] at hu
    rcases hu with rfl | hu | hu | hu
    · exact n10_app (by split <;> decide +kernel) (n10 (headLn_10 hf))
    · obtain ⟨y, hy, rfl⟩ := List.mem_map.1 hu
      exact n10_app (by decide +kernel) (n10 (line_10 (hf.fr y (List.mem_of_mem_take hy))))
    · split at hu
      · cases hu
      · rw [List.mem_singleton.1 hu]
        exact n10_app (by decide +kernel) (n10_app (n10 (told_10 _)) (by decide +kernel))
    · exact innLs_10 r _ (fun x hx => h x (List.mem_cons_of_mem _ hx)) u hu
theorem outLs_10 : ∀ (r : List FaultT), (∀ f ∈ r, f.rt) → ∀ u ∈ outLs r, (10 : UInt8) ∉ u
  | [], _ => fun u hu => by cases hu
  | f :: r, h => by
    intro u hu
    have hf := h f List.mem_cons_self
    rw [outLs, List.mem_cons, List.mem_append, List.mem_cons] at hu
    rcases hu with rfl | hu | rfl | hu
    · decide +kernel
    · obtain ⟨y, hy, rfl⟩ := List.mem_map.1 hu
      exact n10_app (by decide +kernel) (n10 (line_10 (hf.fr y (List.mem_reverse.1 hy))))
    · exact n10 (headLn_10 hf)
    · split at hu
      · cases hu
      · rcases List.mem_cons.1 hu with rfl | hu
        · decide +kernel
        · exact outLs_10 r (fun x hx => h x (List.mem_cons_of_mem _ hx)) u hu
theorem parLs_10 : ∀ (r : List FaultT), (∀ f ∈ r, f.rt) → ∀ u ∈ parLs r, (10 : UInt8) ∉ u
  | [], _ => fun u hu => by cases hu
  | f :: r, h => by
    intro u hu
    have hf := h f List.mem_cons_self
    rw [parLs, List.mem_cons, List.mem_append] at hu
    rcases hu with rfl | hu | hu
    · exact n10_app (by decide +kernel) (n10 (headLn_10 hf))
    · obtain ⟨y, hy, hu⟩ := List.mem_flatMap.1 hu
      have hy' := hf.fr y hy
      simp only [List.mem_cons, List.not_mem_nil, or_false] at hu
      rcases hu with rfl | rfl
      · exact n10 fun c hc => by have := call_mem hy' hc; omega
      · exact n10_app (by decide +kernel) (n10 (rest_10 hy'))
    · exact parLs_10 r (fun x hx => h x (List.mem_cons_of_mem _ hx)) u hu
/-- What is written is read. -/
theorem rd_back {l : List FaultT} {form : Int} (he : fltsErr l = 0) (hb : banged l = false) (hf : form = 1 ∨ form = 2 ∨ form = 3) (hs : (writtenL l form).length ≤ 1000000) : rdX (bs (writtenL l form)) form = (l.map FaultT.flt, 0, 0) := by
  obtain ⟨hne, hrt⟩ := flts_rt he hb
  have hr : rdR (bs (writtenL l form)) form = (some (l.map FaultT.flt), 0) ∧ linT (bs (writtenL l form)) = ⟨#[]⟩ := by
    rcases hf with rfl | rfl | rfl
    · rw [written_inner]
      have h1 := lin_flat (innLs_10 l none (fun f hf => (hrt f hf).1))
      refine ⟨?_, h1.2⟩
      unfold rdR
      rw [if_pos rfl, h1.1, h1.2]
      exact inn_back l [] 0 hne hrt rfl
    · rw [written_outer]
      have h1 := lin_flat (outLs_10 l.reverse (fun f hf => (hrt f (List.mem_reverse.1 hf)).1))
      refine ⟨?_, h1.2⟩
      unfold rdR
      rw [if_neg (by decide), if_pos rfl, h1.1]
      refine (out_back l.reverse [] 0 (by simpa using hne) (fun f hf => (hrt f (List.mem_reverse.1 hf)).1) rfl).trans ?_
      rw [List.nil_append, ← List.map_reverse, List.reverse_reverse]
    · rw [written_pairs]
      have h1 := lin_flat (parLs_10 l (fun f hf => (hrt f hf).1))
      refine ⟨?_, h1.2⟩
      unfold rdR
      rw [if_neg (by decide), if_neg (by decide), h1.1]
      exact par_back l [] 0 hne (fun f hf => (hrt f hf).1) rfl
  have ha : rdA (bs (writtenL l form)) form = (some (l.map FaultT.flt), 0) := by
    unfold rdA
    rw [hr.2, if_neg (by rw [emptyB_nil]; simp), hr.1]
  unfold rdX
  rw [bs_size, if_neg (by omega), if_neg (by omega), ha]
  simp only
  rw [if_neg (by omega), Option.getD_some, ← errF_map, he, if_pos rfl]
theorem guR_eq (s : ByteArray) : guR s 3 = if (rdX s 1).2.2 = 0 then 1 else if (rdX s 2).2.2 = 0 then 2 else if (rdX s 3).2.2 = 0 then 3 else 0 := rfl
theorem gu_back {s : ByteArray} {form : Int} (hf : form = 1 ∨ form = 2 ∨ form = 3) (h : (rdX s form).2.2 = 0) : 1 ≤ guR s 3 ∧ guR s 3 ≤ form ∧ (rdX s (guR s 3)).2.2 = 0 := by
  by_cases h1 : (rdX s 1).2.2 = 0
  · have e : guR s 3 = 1 := by rw [guR_eq, if_pos h1]
    rw [e]
    exact ⟨by omega, by omega, h1⟩
  · by_cases h2 : (rdX s 2).2.2 = 0
    · have e : guR s 3 = 2 := by rw [guR_eq, if_neg h1, if_pos h2]
      rw [e]
      exact ⟨by omega, by rcases hf with rfl | rfl | rfl <;> first | exact absurd h h1 | omega, h2⟩
    · rcases hf with rfl | rfl | rfl
      · exact absurd h h1
      · exact absurd h h2
      · have e : guR s 3 = 3 := by rw [guR_eq, if_neg h1, if_neg h2, if_pos h]
        rw [e]
        exact ⟨by omega, by omega, h⟩
end Go.Proofs.YtncpeokniffafaaGreatDoor

/- The variable that a search reads is there; faults that read alike are equal. -/
namespace Go.Proofs.YtncpeokniffafaaGreatDoor
open Go.RowKit
set_option linter.unusedVariables false
set_option linter.unusedSimpArgs false
/-- The library's variable that a search reads is there, whatever the world that a call begins in. -/
theorem mx_of {W : World} (h : W.ShapedOpen Tryz.prog) : Mx W :=
  Go.Proofs.cell_of_shapedOpen_int (zero := #[.int .i64 0]) (t := 3) h (of_decide_eq_true (by kernel_rfl)) (by kernel_rfl) rfl (by kernel_rfl) (by kernel_rfl) Tryz.underlying3
theorem fltsEq_map : ∀ (a b : List FaultT), a.map FaultT.flt = b.map FaultT.flt → fltsEq a b = true := by
  intro a b h
  have hl : a.length = b.length := by have := congrArg List.length h; simpa using this
  unfold fltsEq
  rw [decide_eq_true hl, Bool.true_and, List.all_eq_true]
  rintro ⟨x, y⟩ hxy
  obtain ⟨k, hk⟩ := List.mem_iff_getElem?.1 hxy
  rw [List.getElem?_zip_eq_some] at hk
  have h2 : (a.map FaultT.flt)[k]? = (b.map FaultT.flt)[k]? := by rw [h]
  rw [List.getElem?_map, List.getElem?_map, hk.1, hk.2] at h2
  simp [FaultT.flt] at h2
  unfold fltEq
  simp [h2]
end Go.Proofs.YtncpeokniffafaaGreatDoor

/- The tables that are laid. -/
namespace Go.Proofs.YtncpeokniffafaaGreatDoor
open Go.RowKit
set_option linter.unusedVariables false
theorem tab_lt {w : World} {name : String} {k : IntKind} {zs : List Int} {g : Nat} (h : Lib.TabIs Tryz.prog w name k zs) (hg : Tryz.prog.globalNamed name = some g) : g < w.heap.size := by
  unfold Lib.TabIs World.var? at h
  rw [hg] at h
  simp only [Option.bind_some] at h
  split at h
  · rename_i cs e fr hb; exact lt_of_block hb
  · cases h
theorem tab_cell {w : World} {name : String} {k : IntKind} {zs : List Int} {g : Nat} (h : Lib.TabIs Tryz.prog w name k zs) (hg : Tryz.prog.globalNamed name = some g) (i : Nat) : w.cell? ⟨g, i, none⟩ = (zs.map fun z => Value.int k z)[i]? := by
  unfold Lib.TabIs World.var? at h
  rw [hg] at h
  simp only [Option.bind_some] at h
  split at h
  · rename_i cs e fr hb
    rw [block_cell hb, Option.some.inj h]
    simp
  · cases h
theorem tabs_of {W : World} (hL : laidMetH Tryz.prog Rows.stackCarriedRow.laid W) : TabsB W.heap.size W := by
  rw [MakeChecks.laidMetH_plain _ _ _ (by kernel_rfl)] at hL
  have h1 : Lib.TabIs Tryz.prog W "math/bits.deBruijn64tab" .u8 [0, 1, 56, 2, 57, 49, 28, 3, 61, 58, 42, 50, 38, 29, 17, 4, 62, 47, 59, 36, 45, 43, 51, 22, 53, 39, 33, 30, 24, 18, 12, 5, 63, 55, 48, 27, 60, 41, 37, 16, 46, 35, 44, 21, 52, 32, 23, 11, 54, 26, 40, 15, 34, 20, 31, 10, 25, 14, 19, 9, 13, 8, 7, 6] :=
    Lib.tabIs_of_head (g := 5) (n := 64) (t := 143) (e := 5) (by kernel_rfl) (by kernel_rfl) (by kernel_rfl) (by kernel_rfl) (by kernel_rfl) (by kernel_rfl) (laidMet.tail hL)
  obtain ⟨g, hg⟩ : ∃ g, Tryz.prog.globalNamed "internal/strconv.uint64pow10" = some g := Option.isSome_iff_exists.1 (by kernel_rfl)
  have h2 : Lib.TabIs Tryz.prog W "internal/strconv.uint64pow10" .u64 Lib.pow10Tab :=
    Lib.tabIs_of_head (n := 20) (t := 121) (e := 106) (g := 1) (by kernel_rfl) (by kernel_rfl) (by kernel_rfl) (by kernel_rfl) (by kernel_rfl) (by kernel_rfl) (laidMet.tail (laidMet.tail hL))
  have hg3 : Tryz.prog.globalNamed "math/bits.deBruijn64tab" = some 5 := by kernel_rfl
  have h3 := tab_lt h1 hg3
  refine ⟨⟨h2, (tab_cell h1 hg3 15).trans rfl, h3⟩, h3, fun g hg => tab_lt h2 hg⟩
theorem TabsB.more {B B' : Nat} {w : World} (h : TabsB B w) (hB : B ≤ B') : TabsB B' w := ⟨h.t, Nat.lt_of_lt_of_le h.lt hB, fun g hg => Nat.lt_of_lt_of_le (h.gl g hg) hB⟩
end Go.Proofs.YtncpeokniffafaaGreatDoor

/- A slice that came in, opened to a Lean list. No program of its own: over the seat's program. -/
namespace Go.Proofs.YtncpeokniffafaaGreatDoor
open Go.RowKit Go.ChangeShapes Go.WideShapes Go.Deep
theorem list_of {α : Type} {P : Nat → α → Prop} : ∀ m : Nat, (∀ i, i < m → ∃ a, P i a) → ∃ l : List α, l.length = m ∧ ∀ i a, l[i]? = some a → P i a := by
  intro m
  induction m with
  | zero => intro _; exact ⟨[], rfl, by simp⟩
  | succ m ih =>
    intro h
    obtain ⟨l, hl, hp⟩ := ih fun i hi => h i (by omega)
    obtain ⟨a, ha⟩ := h m (by omega)
    refine ⟨l ++ [a], by simp [hl], fun i b hb => ?_⟩
    by_cases hi : i < m
    · rw [List.getElem?_append_left (by omega)] at hb; exact hp i b hb
    · rw [List.getElem?_append_right (by omega)] at hb
      have : i - l.length = 0 := by
        rcases Nat.eq_zero_or_pos (i - l.length) with h0 | h0
        · exact h0
        · rw [List.getElem?_eq_none (by simp; omega)] at hb; cases hb
      rw [this] at hb
      simp at hb
      subst hb
      rwa [show i = m by omega]
section
variable {α : Type} {H : Type} {enc : TypeId × Value → H} {w : World} {base b0 : Nat} {v : Value} {d : DataW H} {p : List MemPlace} {r : Reach}
set_option maxRecDepth 100000 in
/-- What an element reads as is told by `hel`; G: what is known of each. -/
theorem open_sl {t e sz : Nat} (f : α → List Value) (G : α → Prop) (ht : Tryz.prog.underlying t = some (.slice e)) (hC : Tryz.prog.cellsOf e = sz) (hsz : 0 < sz) (hf : ∀ a, (f a).length = sz)
    (hel : ∀ (n : Nat) (cs : List Value) (x : DataW H × List MemPlace), DataW.trod enc Tryz.prog w 0 (fun _ => true) true n e cs = some x → ∃ a, cs = f a ∧ G a)
    (hv : Value.okWide Tryz.prog w r b0 t v) (h : DataW.Trod enc Tryz.prog w 0 (fun _ => true) true t v d p) :
    ∃ (A : Option Addr) (n cap : Nat) (l : List α), v = .slice A n cap ∧ Sl w w.heap.size f sz A n l ∧ n ≤ cap ∧ cap ≤ maxLen ∧ ∀ a ∈ l, G a := by
  obtain ⟨A, n, cap, rfl⟩ := okWide_slice ht hv
  obtain ⟨fuel, hfu⟩ := h
  rcases open_slice ht hfu with ⟨hcs, _⟩ | ⟨a, len, cap', m, k, D, Pl, hcs, _, hl, hm, hmm, _, hi⟩
  · simp [Value.cells] at hcs
    obtain ⟨rfl, rfl, rfl⟩ := hcs
    exact ⟨none, 0, 0, [], rfl, Sl.nil _ _ _ _ _, Nat.le_refl _, Nat.zero_le _, by simp⟩
  · simp [Value.cells] at hcs
    obtain ⟨rfl, rfl, rfl⟩ := hcs
    have hm' : m = cap := by simpa using hmm
    obtain ⟨l, hlen, hP⟩ := list_of (P := fun i (x : α) => G x ∧ ∀ j u, (f x)[j]? = some u → w.cell? ((a.add (i * sz)).add j) = some u) n (fun i hin => by
      obtain ⟨cs', hc', ht'⟩ := hi i (by omega)
      obtain ⟨x, rfl, hG⟩ := hel _ _ _ ht'
      obtain ⟨_, hcl, hat⟩ := World.cells?_some hc'
      rw [hC] at hcl hat hc'
      refine ⟨x, hG, fun j u hu => ?_⟩
      have hj : j < sz := by have := (List.getElem?_eq_some_iff.1 hu).1; rw [hf] at this; exact this
      rw [hat j hj, hu])
    refine ⟨some a, n, cap, l, rfl, ⟨hlen, fun hn => ?_⟩, hl, hm, fun x hx => ?_⟩
    · have h0 : l[0]? = some (l[0]'(by omega)) := List.getElem?_eq_getElem (by omega)
      have hu : (f (l[0]'(by omega)))[0]? = some ((f (l[0]'(by omega)))[0]'(by rw [hf]; omega)) := List.getElem?_eq_getElem (by rw [hf]; omega)
      have hc0 := (hP 0 _ h0).2 0 _ hu
      obtain ⟨b, o, spot⟩ := a
      have hspot : spot = none := by simpa [Addr.add] using World.cell?_spot hc0
      subst hspot
      refine ⟨b, o, rfl, ?_, fun i x hx j u hu => ?_⟩
      · have := World.block_lt_of_cell? w _ hc0
        simpa [Addr.add] using this
      · have := (hP i x hx).2 j u hu
        rw [add_plain, add_plain] at this
        exact this
    · obtain ⟨i, hi, rfl⟩ := List.mem_iff_getElem.1 hx
      exact (hP i _ (List.getElem?_eq_getElem hi)).1
end
end Go.Proofs.YtncpeokniffafaaGreatDoor

/- Runs of frames: what Unfold says of them, and what it makes. No program. -/
namespace Go.Proofs.YtncpeokniffafaaGreatDoor
open Go.RowKit
structure RunT where
  frm : Int
  long : Int
  times : Int
def RunT.cs (x : RunT) : List Value := [.int .i64 x.frm, .int .i64 x.long, .int .i64 x.times]
def runOk (x : RunT) : Bool := !outsideB x.long 1 200 && !outsideB x.times 1 200
def sumLong (l : List RunT) : Int := l.foldl (fun s x => s + x.long) 0
def total (l : List RunT) : Int := l.foldl (fun s x => s + x.long * x.times) 0
theorem sumLong_snoc (l : List RunT) (x : RunT) : sumLong (l ++ [x]) = sumLong l + x.long := by simp [sumLong]
theorem total_snoc (l : List RunT) (x : RunT) : total (l ++ [x]) = total l + x.long * x.times := by simp [total]
theorem runOk_iff (x : RunT) : runOk x = true ↔ (1 ≤ x.long ∧ x.long ≤ 200) ∧ 1 ≤ x.times ∧ x.times ≤ 200 := by simp [runOk, outsideB]
theorem mul_bd {a b : Int} (ha : 1 ≤ a ∧ a ≤ 200) (hb : 1 ≤ b ∧ b ≤ 200) : a ≤ a * b ∧ b ≤ a * b ∧ a * b ≤ 40000 := by
  have h1 : a * 1 ≤ a * b := Int.mul_le_mul_of_nonneg_left hb.1 (by omega)
  have h2 : 1 * b ≤ a * b := Int.mul_le_mul_of_nonneg_right ha.1 (by omega)
  have h3 : a * b ≤ a * 200 := Int.mul_le_mul_of_nonneg_left hb.2 (by omega)
  omega
theorem run_ind {P : List RunT → Prop} (h0 : P []) (h1 : ∀ l x, P l → P (l ++ [x])) (l : List RunT) : P l := by
  rw [← List.reverse_reverse l]
  generalize l.reverse = m
  induction m with
  | nil => exact h0
  | cons x m ih => rw [List.reverse_cons]; exact h1 _ _ ih
theorem sums_bd (l : List RunT) : (∀ x ∈ l, runOk x = true) → l.length ≤ sumLong l ∧ sumLong l ≤ 200 * l.length ∧ sumLong l ≤ total l ∧ total l ≤ 40000 * l.length := by
  refine run_ind (P := fun l => (∀ x ∈ l, runOk x = true) → l.length ≤ sumLong l ∧ sumLong l ≤ 200 * l.length ∧ sumLong l ≤ total l ∧ total l ≤ 40000 * l.length) (fun _ => by simp [sumLong, total]) (fun l x ih h => ?_) l
  obtain ⟨a, b, c, d⟩ := ih fun y hy => h y (List.mem_append_left _ hy)
  obtain ⟨e, f⟩ := (runOk_iff x).1 (h x (by simp))
  obtain ⟨g, _, i⟩ := mul_bd e f
  rw [sumLong_snoc, total_snoc, List.length_append, List.length_singleton]
  omega
/-- Whether the run at place k begins where those before it end. -/
def chainAt (l : List RunT) (k : Nat) : Int := match l[k]? with | none => 0 | some x => if x.frm = total (l.take k) then 0 else 2
/-- The error of runs over n frames. -/
def unfErr (n : Nat) (l : List RunT) : Int :=
  if l.all runOk then (if sumLong l = n then (if firstErr (chainAt l) l.length = 0 then (if 200 < total l then 4 else 0) else 2) else 1) else 2
theorem unfErr_bad {n : Nat} {l : List RunT} {x : RunT} (hx : x ∈ l) (h : runOk x = false) : unfErr n l = 2 := by
  have : l.all runOk = false := by rw [List.all_eq_false]; exact ⟨x, hx, by simp [h]⟩
  rw [unfErr, this]; rfl
theorem unfErr_sum {n : Nat} {l : List RunT} (h : ∀ x ∈ l, runOk x = true) (hs : ¬ sumLong l = n) : unfErr n l = 1 := by
  rw [unfErr, if_pos (by rw [List.all_eq_true]; exact h), if_neg hs]
theorem unfErr_chain {n k : Nat} {l : List RunT} {x : RunT} (h : ∀ x ∈ l, runOk x = true) (hs : sumLong l = n) (h0 : ∀ j, j < k → chainAt l j = 0) (hk : l[k]? = some x) (hne : ¬ x.frm = total (l.take k)) : unfErr n l = 2 := by
  have hc : chainAt l k = 2 := by rw [chainAt, hk]; simp [hne]
  have hl : k < l.length := (List.getElem?_eq_some_iff.1 hk).1
  rw [unfErr, if_pos (by rw [List.all_eq_true]; exact h), if_pos hs, if_neg (by rw [firstErr_hit h0 hl (by rw [hc]; decide), hc]; decide)]
theorem unfErr_end {n : Nat} {l : List RunT} (h : ∀ x ∈ l, runOk x = true) (hs : sumLong l = n) (h0 : ∀ j, j < l.length → chainAt l j = 0) : unfErr n l = if 200 < total l then 4 else 0 := by
  rw [unfErr, if_pos (by rw [List.all_eq_true]; exact h), if_pos hs, if_pos (firstErr_zero h0)]
/-- What is made of frames by runs. -/
def unfL (l : List Frame) : List RunT → List Frame
  | [] => []
  | r :: rs => (List.replicate r.times.toNat (l.take r.long.toNat)).flatten ++ unfL (l.drop r.long.toNat) rs
def longs (rs : List RunT) : Nat := rs.foldl (fun s x => s + x.long.toNat) 0
theorem longs_cons (r : RunT) (rs : List RunT) : longs (r :: rs) = r.long.toNat + longs rs := by
  have h : ∀ (rs : List RunT) (a : Nat), rs.foldl (fun s x => s + x.long.toNat) a = a + rs.foldl (fun s x => s + x.long.toNat) 0 := by
    intro rs
    induction rs with
    | nil => intro a; rfl
    | cons r rs ih => intro a; rw [List.foldl_cons, ih, List.foldl_cons, ih (0 + _)]; omega
  unfold longs
  rw [List.foldl_cons, h]; omega
theorem unfL_snoc (rs : List RunT) (r : RunT) : ∀ l : List Frame, unfL l (rs ++ [r]) = unfL l rs ++ (List.replicate r.times.toNat ((l.drop (longs rs)).take r.long.toNat)).flatten := by
  induction rs with
  | nil => intro l; simp [unfL, longs]
  | cons x rs ih => intro l; rw [List.cons_append, unfL, ih, unfL, longs_cons, List.append_assoc, List.drop_drop]
theorem replicate_more (a : Nat) (l : List Frame) : (List.replicate (a + 1) l).flatten = (List.replicate a l).flatten ++ l := by
  rw [List.replicate_succ']; simp
end Go.Proofs.YtncpeokniffafaaGreatDoor

/- The arguments of type []Frame and []Run, opened. -/
namespace Go.Proofs.YtncpeokniffafaaGreatDoor
open Go.RowKit Go.ChangeShapes Go.WideShapes Go.Joins Go.Deep
theorem k_string : Tryz.prog.cellsOf 9 = 1 := by kernel_rfl
theorem k_int : Tryz.prog.cellsOf 3 = 1 := by kernel_rfl
theorem k_bool : Tryz.prog.cellsOf 4 = 1 := by kernel_rfl
set_option maxRecDepth 100000 in
theorem el_frame {H : Type} {enc : TypeId × Value → H} {w : World} {base : Nat} {spare : Nat → Bool} {held : Bool} (n : Nat) (cs : List Value) (x : DataW H × List MemPlace)
    (h : DataW.trod enc Tryz.prog w base spare held n 38 cs = some x) : ∃ a : Frame, cs = a.cs ∧ a.fit := by
  obtain ⟨ys, m, _, rfl, hl, hlen, hf⟩ := DataW.trod_struct Tryz.underlying38 h
  obtain ⟨c0, c1, c2, c3, c4, c5, rfl⟩ : ∃ c0 c1 c2 c3 c4 c5, cs = [c0, c1, c2, c3, c4, c5] := by
    have : cs.length = 6 := hl.trans (by kernel_rfl)
    match cs, this with
    | [c0, c1, c2, c3, c4, c5], _ => exact ⟨c0, c1, c2, c3, c4, c5, rfl⟩
  match ys, hlen with
  | [y0, y1, y2, y3, y4, y5], _ =>
    have h0 := hf 0 _ rfl
    have h1 := hf 1 _ rfl
    have h2 := hf 2 _ rfl
    have h3 := hf 3 _ rfl
    have h4 := hf 4 _ rfl
    have h5 := hf 5 _ rfl
    simp [k_int, k_string, k_bool] at h0 h1 h2 h3 h4 h5
    obtain ⟨a, e0, _, s0⟩ := DataW.trod_string Tryz.underlying9 h0
    obtain ⟨b, e1, _, s1⟩ := DataW.trod_string Tryz.underlying9 h1
    obtain ⟨c, e2, _, s2⟩ := DataW.trod_string Tryz.underlying9 h2
    obtain ⟨d, e3, _, _⟩ := DataW.trod_int Tryz.underlying3 h3
    obtain ⟨f, e4, _, _⟩ := DataW.trod_int Tryz.underlying3 h4
    obtain ⟨g, e5, _⟩ := DataW.trod_bool Tryz.underlying4 h5
    simp at e0 e1 e2 e3 e4 e5
    exact ⟨⟨a, b, c, d, f, g⟩, by simp [e0, e1, e2, e3, e4, e5, Frame.cs], s0, s1, s2⟩
set_option maxRecDepth 100000 in
theorem open_frames {H : Type} {enc : TypeId × Value → H} {w : World} {b0 : Nat} {v : Value} {d : DataW H} {p : List MemPlace} {r : Reach}
    (hv : Value.okWide Tryz.prog w r b0 32 v) (h : DataW.Trod enc Tryz.prog w 0 (fun _ => true) true 32 v d p) :
    ∃ (A : Option Addr) (n cap : Nat) (l : List Frame), v = .slice A n cap ∧ Sl w w.heap.size Frame.cs 6 A n l ∧ n ≤ cap ∧ cap ≤ maxLen ∧ ∀ a ∈ l, a.fit :=
  open_sl Frame.cs (fun a => a.fit) Tryz.underlying32 (by kernel_rfl) (by decide) (fun _ => rfl) (fun n cs x hx => el_frame n cs x hx) hv h
end Go.Proofs.YtncpeokniffafaaGreatDoor

/- Faults as arguments, opened: by value and in a slice; a frame by value. -/
namespace Go.Proofs.YtncpeokniffafaaGreatDoor
open Go.RowKit Go.ChangeShapes Go.WideShapes Go.Joins Go.Deep
section
variable {α : Type} {H : Type} {enc : TypeId × Value → H} {w : World}
set_option maxRecDepth 100000 in
/-- A slice in cells, opened. -/
theorem open_slr {t e sz fuel : Nat} {cs : List Value} {x : DataW H × List MemPlace} (f : α → List Value) (G : α → Prop) (ht : Tryz.prog.underlying t = some (.slice e)) (hC : Tryz.prog.cellsOf e = sz) (hsz : 0 < sz) (hf : ∀ a, (f a).length = sz)
    (hel : ∀ (n : Nat) (cs : List Value) (x : DataW H × List MemPlace), DataW.trod enc Tryz.prog w 0 (fun _ => true) true n e cs = some x → ∃ a, cs = f a ∧ G a)
    (h : DataW.trod enc Tryz.prog w 0 (fun _ => true) true fuel t cs = some x) :
    ∃ (A : Option Addr) (n cap : Nat) (l : List α), cs = [.slice A n cap] ∧ Sl w w.heap.size f sz A n l ∧ n ≤ cap ∧ cap ≤ maxLen ∧ ∀ a ∈ l, G a := by
  rcases open_slice ht h with ⟨hcs, _⟩ | ⟨a, len, cap', m, k, D, Pl, hcs, _, hl, hm, hmm, _, hi⟩
  · exact ⟨none, 0, 0, [], hcs, Sl.nil _ _ _ _ _, Nat.le_refl _, Nat.zero_le _, by simp⟩
  · have hm' : m = cap' := by simpa using hmm
    obtain ⟨l, hlen, hP⟩ := list_of (P := fun i (x : α) => G x ∧ ∀ j u, (f x)[j]? = some u → w.cell? ((a.add (i * sz)).add j) = some u) len (fun i hin => by
      obtain ⟨cs', hc', ht'⟩ := hi i (by omega)
      obtain ⟨x, rfl, hG⟩ := hel _ _ _ ht'
      obtain ⟨_, hcl, hat⟩ := World.cells?_some hc'
      rw [hC] at hcl hat hc'
      refine ⟨x, hG, fun j u hu => ?_⟩
      have hj : j < sz := by have := (List.getElem?_eq_some_iff.1 hu).1; rw [hf] at this; exact this
      rw [hat j hj, hu])
    refine ⟨some a, len, cap', l, hcs, ⟨hlen, fun hn => ?_⟩, hl, hm, fun x hx => ?_⟩
    · have h0 : l[0]? = some (l[0]'(by omega)) := List.getElem?_eq_getElem (by omega)
      have hu : (f (l[0]'(by omega)))[0]? = some ((f (l[0]'(by omega)))[0]'(by rw [hf]; omega)) := List.getElem?_eq_getElem (by rw [hf]; omega)
      have hc0 := (hP 0 _ h0).2 0 _ hu
      obtain ⟨b, o, spot⟩ := a
      have hspot : spot = none := by simpa [Addr.add] using World.cell?_spot hc0
      subst hspot
      refine ⟨b, o, rfl, ?_, fun i x hx j u hu => ?_⟩
      · have := World.block_lt_of_cell? w _ hc0
        simpa [Addr.add] using this
      · have := (hP i x hx).2 j u hu
        rw [add_plain, add_plain] at this
        exact this
    · obtain ⟨i, hi, rfl⟩ := List.mem_iff_getElem.1 hx
      exact (hP i _ (List.getElem?_eq_getElem hi)).1
end
theorem k_frames : Tryz.prog.cellsOf 32 = 1 := by kernel_rfl
section
variable {H : Type} {enc : TypeId × Value → H} {w : World} {b0 : Nat} {v : Value} {d : DataW H} {p : List MemPlace} {r : Reach}
set_option maxRecDepth 100000 in
theorem el_fault (n : Nat) (cs : List Value) (x : DataW H × List MemPlace)
    (h : DataW.trod enc Tryz.prog w 0 (fun _ => true) true n 34 cs = some x) : ∃ a : FaultT, cs = a.cs ∧ a.ok w := by
  obtain ⟨y0, y1, y2, m, rfl, hl, h0, h1, h2⟩ := trod_struct3 Tryz.underlying34 h
  obtain ⟨c0, c1, c2, rfl⟩ : ∃ c0 c1 c2, cs = [c0, c1, c2] := by
    have : cs.length = 3 := hl.trans (by kernel_rfl)
    match cs, this with
    | [c0, c1, c2], _ => exact ⟨c0, c1, c2, rfl⟩
  simp [k_string, k_frames] at h0 h1 h2
  obtain ⟨a, e0, _, s0⟩ := DataW.trod_string Tryz.underlying9 h0
  obtain ⟨b, e1, _, s1⟩ := DataW.trod_string Tryz.underlying9 h1
  obtain ⟨A, k, cap, l, e2, hsl, hnc, hcm, hf⟩ := open_slr (e := 38) (sz := 6) Frame.cs (fun a => a.fit) Tryz.underlying32 (by kernel_rfl) (by decide) (fun _ => rfl) (fun n cs x hx => el_frame n cs x hx) h2
  simp at e0 e1 e2
  exact ⟨⟨a, b, A, k, cap, l⟩, by simp [e0, e1, e2, FaultT.cs], s0, s1, Nat.le_trans hnc hcm, hnc, hsl, hf⟩
set_option maxRecDepth 100000 in
theorem open_frame (hv : Value.okWide Tryz.prog w r b0 38 v) (h : DataW.Trod enc Tryz.prog w 0 (fun _ => true) true 38 v d p) :
    ∃ x : Frame, v = .agg #[.string x.mod, .string x.fn, .string x.file, .int .i64 x.line, .int .i64 x.addr, .bool x.own] ∧ x.fit := by
  obtain ⟨cs, rfl, _⟩ := okWide_struct Tryz.underlying38 hv
  obtain ⟨fuel, hf⟩ := h
  obtain ⟨x, e, hx⟩ := el_frame _ _ _ hf
  refine ⟨x, ?_, hx⟩
  simp only [Value.cells] at e
  rw [← Array.toArray_toList (xs := cs)] 
  rw [e]; rfl
set_option maxRecDepth 100000 in
theorem open_fault (hv : Value.okWide Tryz.prog w r b0 34 v) (h : DataW.Trod enc Tryz.prog w 0 (fun _ => true) true 34 v d p) :
    ∃ x : FaultT, v = .agg #[.string x.kind, .string x.text, .slice x.A x.n x.cap] ∧ x.ok w := by
  obtain ⟨cs, rfl, _⟩ := okWide_struct Tryz.underlying34 hv
  obtain ⟨fuel, hf⟩ := h
  obtain ⟨x, e, hx⟩ := el_fault _ _ _ hf
  refine ⟨x, ?_, hx⟩
  simp only [Value.cells] at e
  rw [← Array.toArray_toList (xs := cs)]
  rw [e]; rfl
set_option maxRecDepth 100000 in
theorem open_faults (hv : Value.okWide Tryz.prog w r b0 22 v) (h : DataW.Trod enc Tryz.prog w 0 (fun _ => true) true 22 v d p) :
    ∃ (A : Option Addr) (n cap : Nat) (l : List FaultT), v = .slice A n cap ∧ Sl w w.heap.size FaultT.cs 3 A n l ∧ n ≤ cap ∧ cap ≤ maxLen ∧ FaultsOk w l :=
  open_sl FaultT.cs (fun a => a.ok w) Tryz.underlying22 (by kernel_rfl) (by decide) (fun _ => rfl) (fun n cs x hx => el_fault n cs x hx) hv h
end
end Go.Proofs.YtncpeokniffafaaGreatDoor

/- The law StackCarried. -/
namespace Go.Proofs.YtncpeokniffafaaGreatDoor
open Go.RowKit
set_option linter.unusedVariables false
set_option linter.unusedSimpArgs false
set_option linter.unusedSectionVars false
def kF : FaultT := ⟨⟨#[75]⟩, ⟨#[]⟩, none, 0, 0, []⟩
theorem kF_ok (w : World) : kF.ok w := ⟨by decide, by decide, by decide, by decide, Sl.nil _ _ _ _ _, fun x hx => by cases hx⟩
theorem Write_K (p : Nat) (w : World) (hp : p < w.heap.size) (c0 : w.cell? ⟨p, 0, none⟩ = some (.string ⟨#[75]⟩)) (c1 : w.cell? ⟨p, 1, none⟩ = some (.string ⟨#[]⟩)) (c2 : w.cell? ⟨p, 2, none⟩ = some (.slice none 0 0)) (ht : TabsB w.heap.size w) :
    Calls Tryz.prog 5 #[.slice (some ⟨p, 0, none⟩) 1 1, .int .i64 1] w fun e w' => e = .returned (.tuple #[.string ⟨#[75, 58, 10]⟩, .int .i64 0]) ∧ Below w.heap.size w w' := by
  have hsl : Sl w w.heap.size FaultT.cs 3 (some ⟨p, 0, none⟩) 1 [kF] := by
    refine ⟨rfl, fun _ => ⟨p, 0, rfl, hp, fun i x hx j v hv => ?_⟩⟩
    have hi : i = 0 ∧ kF = x := by
      cases i with
      | zero => simpa using hx
      | succ i => simp at hx
    obtain ⟨rfl, rfl⟩ := hi
    have hj : j = 0 ∧ v = .string ⟨#[75]⟩ ∨ j = 1 ∧ v = .string ⟨#[]⟩ ∨ j = 2 ∧ v = .slice none 0 0 := by
      match j, hv with
      | 0, hv => exact .inl ⟨rfl, by simpa [FaultT.cs, kF] using hv.symm⟩
      | 1, hv => exact .inr (.inl ⟨rfl, by simpa [FaultT.cs, kF] using hv.symm⟩)
      | 2, hv => exact .inr (.inr ⟨rfl, by simpa [FaultT.cs, kF] using hv.symm⟩)
      | j + 3, hv => simp [FaultT.cs] at hv
    rcases hj with ⟨rfl, rfl⟩ | ⟨rfl, rfl⟩ | ⟨rfl, rfl⟩
    · simpa using c0
    · simpa using c1
    · simpa using c2
  have h := Write_good (some ⟨p, 0, none⟩) 1 1 [kF] 1 w (Nat.le_refl _) hsl (fun x hx => by rw [List.mem_singleton.1 hx]; exact kF_ok w) (by kernel_rfl) (.inl rfl) ht
  have e : writeR [kF] 1 = ([75, 58, 10], 0) := by
    unfold writeR
    have hw : writtenL [kF] 1 = [75, 58, 10] := by rw [show writtenL [kF] 1 = innerAt [kF] 0 ++ [] from rfl]; kernel_rfl
    rw [if_neg (by decide +kernel), hw]; rfl
  rw [e] at h
  exact h
set_option maxRecDepth 100000 in
set_option maxHeartbeats 1000000 in
theorem awakeStack_any (w : World) (ht : TabsB w.heap.size w) : Calls Tryz.prog 4 #[] w fun e w' => e = .returned (.bool true) ∧ Below w.heap.size w w' := by
  have HT := hide (fun (W : World) (hb : Below w.heap.size w W) (hs : w.heap.size ≤ W.heap.size) => (ht.below hb).more hs)
  have HW := hide (fun W h c0 c1 c2 ht => Write_K w.heap.size W h c0 c1 c2 ht)
  clear ht
  go_enter Tryz.func4, Tryz.ntmps4
  go_wp2_with (go_at_call 5; refine (HW.out _ (by simp) (by simp) (by simp) (by simp) (HT.out _ ((Below.refl _ _).alloc (Nat.le_refl _) _) (by simp))).mono ?_; rintro r w1 ⟨rfl, hw1⟩; have hB1 : Below w.heap.size w w1 := ((Below.refl _ _).alloc (Nat.le_refl _) _).trans (hw1.mono (by simp)))
  go_ret
  exact ⟨rfl, hB1⟩
section
variable (A : Option Addr) (n c : Nat) (l : List FaultT) (form : Int) (w : World) (hnc : n ≤ c) (hn : n ≤ maxLen) (hl : Sl w w.heap.size FaultT.cs 3 A n l) (hf : FaultsOk w l) (ht : TabsB w.heap.size w)
include hnc hn hl hf ht
set_option maxHeartbeats 1000000 in
theorem StackCarried_not (E : Int) (h0 : E ≠ 0) (hw : ∀ W, Below w.heap.size w W → Calls Tryz.prog 5 #[.slice A n c, .int .i64 form] W fun e w' => e = .returned (.tuple #[.string ⟨#[]⟩, .int .i64 E]) ∧ Below W.heap.size W w') :
    Calls Tryz.prog 3 #[.slice A n c, .int .i64 form] w fun e w' => e = .returned (.bool true) ∧ Below w.heap.size w w' := by
  have HA := hide (awakeStack_any w ht)
  have HW := hide hw
  have h0' : (E == 0) = false := by simpa using h0
  clear hw hl hf ht hn h0
  go_enter Tryz.func3, Tryz.ntmps3
  go_wp2_with (first | (go_at_call 4; refine HA.out.mono ?_; rintro r w1 ⟨rfl, hB1⟩) | (go_at_call 5; refine (HW.out _ hB1).mono ?_; rintro r w2 ⟨rfl, hw2⟩; have hB2 := hB1.trans (hw2.mono hB1.size)))
  go_ret
  exact ⟨rfl, hB2⟩
set_option maxRecDepth 100000 in
set_option maxHeartbeats 4000000 in
theorem StackCarried_good (hm : Mx w) (hE : fltsErr l = 0) (hform : form = 1 ∨ form = 2 ∨ form = 3) (hb : banged l = false) (hs : (writtenL l form).length ≤ 1000000) :
    Calls Tryz.prog 3 #[.slice A n c, .int .i64 form] w fun e w' => e = .returned (.bool true) ∧ Below w.heap.size w w' := by
  have HA := hide (awakeStack_any w ht)
  have hwr : writeR l form = (writtenL l form, 0) := by rw [writeR, if_neg (by rw [hb]; decide), if_neg (by omega)]
  have hrd := rd_back hE hb hform hs
  have hgu := gu_back hform (show (rdX (bs (writtenL l form)) form).2.2 = 0 by rw [hrd])
  obtain ⟨s, hss⟩ : ∃ s, bs (writtenL l form) = s := ⟨_, rfl⟩
  have hw : ∀ W, Below w.heap.size w W → Calls Tryz.prog 5 #[.slice A n c, .int .i64 form] W fun e w' => e = .returned (.tuple #[.string s, .int .i64 0]) ∧ Below W.heap.size W w' := fun W hB => by
    have h := Write_good A n c l form W hnc (hl.up hB) (hf.up hB) hE hform ((ht.below hB).more hB.size)
    rw [hwr] at h
    rw [← hss]
    exact h
  rw [hss] at hrd hgu
  have HW := hide hw
  have HM := hide hm
  have hr1 := fun W (h : Mx W) => Read_any s form W h
  simp only [hrd] at hr1
  have HR := hide hr1
  obtain ⟨g, hg⟩ : ∃ g, guR s 3 = g := ⟨_, rfl⟩
  rw [hg] at hgu
  have HG := hide (fun W (h : Mx W) => Guess_any s W h)
  simp only [hg] at HG
  have hr2 := fun W (h : Mx W) => Read_any s g W h
  obtain ⟨X, hX⟩ : ∃ X, rdX s g = X := ⟨_, rfl⟩
  simp only [hX] at hr2
  rw [hX] at hgu
  obtain ⟨X1, X2, X3⟩ := X
  obtain ⟨g1, g2, rfl⟩ := hgu
  have HR2 := hide hr2
  have HSM := hide (fun (W : World) (hB : Below w.heap.size w W) (A3 : Option Addr) (c3 : Nat) (l3 : List FaultT) (h1 : l3.length ≤ maxLen) (h2 : Sl W W.heap.size FaultT.cs 3 A3 l3.length l3) (h3 : FaultsOk W l3) (h4 : l3.map FaultT.flt = l.map FaultT.flt) (cc : Nat) =>
    show Calls Tryz.prog 7 #[.slice A n c, .slice A3 l3.length cc] W fun e w' => e = .returned (.bool true) ∧ Below W.heap.size W w' by
      have h := Same_any A n c A3 l3.length cc l l3 W hn h1 (hl.up hB) h2 (hf.up hB) h3
      rw [fltsEq_map l l3 h4.symm] at h
      exact h)
  clear hw hl hf ht hn hm hrd hr1 hr2 hX hg hss hwr hb hs hE
  go_enter Tryz.func3, Tryz.ntmps3
  go_wp2_with (first | (go_at_call 4; refine HA.out.mono ?_; rintro r w1 ⟨rfl, hB1⟩) | (go_at_call 5; refine (HW.out _ hB1).mono ?_; rintro r w2 ⟨rfl, hw2⟩; have hB2 := hide (hB1.trans (hw2.mono hB1.size)); clear hw2) | (go_at_call 6; refine (HR.out _ (HM.out.up hB2.out (Nat.le_refl _))).mono ?_; rintro e w3 ⟨⟨v3, l3, rfl, hF3, hl3⟩, hb3⟩; clear HR; obtain ⟨A3, c3, rfl⟩ := own_sl hF3.out; have HB3 := hide (hB2.out.trans (hb3.mono hB2.out.size)); have HF3 := hide hF3; have hsm := HSM.out w3 HB3.out A3 c3 l3 HF3.out.sl.2.2 HF3.out.sl.2.1 HF3.out.ok hl3; have HS3 := hide hsm; clear hF3 hl3 hb3 hsm) | (go_at_call 7; refine (HS3.out _).mono ?_; rintro e w4 ⟨rfl, hb4⟩; have HB4 := hide (HB3.out.trans (hb4.mono HB3.out.size)); clear hb4) | (go_at_call 8; refine (HG.out _ (HM.out.up HB4.out (Nat.le_refl _))).mono ?_; rintro e w5 ⟨rfl, hb5⟩; have HB5 := hide (HB4.out.trans (hb5.mono HB4.out.size)); clear hb5) | (go_at_call 6; refine (HR2.out _ (HM.out.up HB5.out (Nat.le_refl _))).mono ?_; rintro e w6 ⟨⟨v6, l6, rfl, hF6, hl6⟩, hb6⟩; clear HR2; obtain ⟨A6, c6, rfl⟩ := own_sl hF6.out; have HB6 := hide (HB5.out.trans (hb6.mono HB5.out.size)); clear hF6 hl6 hb6))
  go_ret
  exact ⟨rfl, HB6.out⟩
end
namespace stackCarried
set_option maxRecDepth 100000 in
theorem walk {H : Type} {enc : TypeId × Value → H} {d0 : DataW H} {p0 : List MemPlace} {base : Nat} {W : World}
    (v0 : Value) (k0 : DataW.Trod enc Tryz.prog W 0 (fun _ => true) true 22 v0 d0 p0) (ok0 : Value.okWide Tryz.prog W .any base 22 v0)
    (z0 : ∀ el sp, d0 = .slice el sp → (el.length + sp.length) * Tryz.prog.bytesOf 34 ≤ reachBytes)
    (a1 : Int) (w1 : (Lit.int .i64 a1).wf = true) (hL : laidMetH Tryz.prog Rows.stackCarriedRow.laid W) (hSO : W.ShapedOpen Tryz.prog) :
    Calls Tryz.prog 3 #[v0, .int .i64 a1] W fun e w' => e = .returned (.bool true) ∧ Below W.heap.size W w' := by
  obtain ⟨A, n, c, l, rfl, h, hnc, hcm, ho⟩ := open_faults ok0 k0
  have ht := tabs_of hL
  have hm := mx_of hSO
  have hn : n ≤ maxLen := Nat.le_trans hnc hcm
  by_cases hE : fltsErr l = 0
  · cases hob : outsideB a1 1 3
    · have hform : a1 = 1 ∨ a1 = 2 ∨ a1 = 3 := by
        simp only [outsideB, Bool.or_eq_false_iff, decide_eq_false_iff_not] at hob
        omega
      cases hb : banged l
      · by_cases hs : (writtenL l a1).length ≤ 1000000
        · exact StackCarried_good A n c l a1 W hnc hn h ho ht hm hE hform hb hs
        · refine StackCarried_not A n c l a1 W hnc hn h ho ht 4 (by decide) fun W' hB => ?_
          have h9 := Write_good A n c l a1 W' hnc (h.up hB) (ho.up hB) hE hform ((ht.below hB).more hB.size)
          rw [show writeR l a1 = ([], 4) by rw [writeR, if_neg (by rw [hb]; decide), if_pos (by omega)]] at h9
          exact h9
      · refine StackCarried_not A n c l a1 W hnc hn h ho ht 9 (by decide) fun W' hB => ?_
        have h9 := Write_good A n c l a1 W' hnc (h.up hB) (ho.up hB) hE hform ((ht.below hB).more hB.size)
        rw [show writeR l a1 = ([], 9) by rw [writeR, if_pos hb]] at h9
        exact h9
    · exact StackCarried_not A n c l a1 W hnc hn h ho ht 10 (by decide) fun W' hB => Write_kind A n c l a1 W' hE hob hn (h.up hB) (ho.up hB)
  · exact StackCarried_not A n c l a1 W hnc hn h ho ht _ hE fun W' hB => Write_err A n c l a1 W' _ rfl hE hn (h.up hB) (ho.up hB)
end stackCarried
end Go.Proofs.YtncpeokniffafaaGreatDoor
