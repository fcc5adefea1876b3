/- The iterator over the quotas that fit a key. -/
import Derived.RangeFuncNested
import Derived.RangeFuncBound
import Derived.RangeFuncCalls
import Derived.RangeFuncLeaves
import Derived.RangeFuncWrites
import Derived.Shelf.Abstract
import Derived.WalkKit
import Derived.OwnWalkIn
import Derived.TacticsInMore
import Derived.LoopNIn
import Derived.LoopIn
import Derived.Maps.AppendAt
import Derived.Test.YtkkhjlomicokgaaGreatDoorTpD
import Derived.Test.YtkkhjlomicokgaaGreatDoorTpB
namespace Go.Proofs.YtkkhjlomicokgaaGreatDoor
open Go.RowKit Go.Shelf
set_option linter.unusedVariables false
set_option linter.unusedSimpArgs false
attribute [local go_sem] Oper.semAt_some
/-- The blocks of U stay. -/
def Stay (U : Nat → Prop) (W W' : World) : Prop := ∀ k o, W.heap[k]? = some o → U k → W'.heap[k]? = some o
theorem Stay.refl (U : Nat → Prop) (W : World) : Stay U W W := fun _ _ h _ => h
theorem Stay.trans {U : Nat → Prop} {A B C : World} (h : Stay U A B) (k : Stay U B C) : Stay U A C := fun i o e u => k i o (h i o e u) u
theorem Stay.alloc {U : Nat → Prop} {A B : World} (h : Stay U A B) (o : Obj) : Stay U A (B.alloc o) := fun i u e hu => block_below (h i u e hu) ((Below.refl _ _).alloc (Nat.le_refl _) o)
theorem Stay.put {U : Nat → Prop} {n₀ : Nat} {w : World} (hU : ∀ k, U k → k < n₀) (hn : n₀ ≤ w.heap.size) (W : World) (l : Nat) (o o' : Obj) (hl : w.heap.size ≤ l) (h : W.heap[l]? = some o) (_ : o.isCells = false) (_ : o.isWalk = false) : Stay U W (W.putObj l o') :=
  fun k u e hu => ((World.grownBy.block (grownBy_putObj' W l o') k (lt_of_block e) (fun e2 => by have := hU k hu; simp at e2; omega))).trans e
theorem cell_blk {w : World} {b i : Nat} {v : Value} (h : w.cell? ⟨b, i, none⟩ = some v) : ∃ o, w.heap[b]? = some o := by
  cases ho : w.heap[b]? with
  | some o => exact ⟨o, rfl⟩
  | none => simp [World.cell?, ho] at h
theorem Stay.cell {U : Nat → Prop} {W W' : World} (h : Stay U W W') {b i : Nat} {v : Value} (hu : U b) (hc : W.cell? ⟨b, i, none⟩ = some v) : W'.cell? ⟨b, i, none⟩ = some v := by
  obtain ⟨o, ho⟩ := cell_blk hc
  exact (World.cell?_of_block ((h b o ho hu).trans ho.symm)).trans hc
theorem Sl.stay {α : Type} {U : Nat → Prop} {W W' : World} {B sz n : Nat} {f : α → List Value} {A : Option Addr} {l : List α} (h : Sl W B f sz A n l) (hs : Stay U W W') (hu : 0 < n → ∀ b o, A = some ⟨b, o, none⟩ → U b) : Sl W' B f sz A n l := by
  refine ⟨h.len, fun h0 => ?_⟩
  obtain ⟨b, o, e, hlt, hc⟩ := h.cells h0
  exact ⟨b, o, e, hlt, fun i a ha j v hv => hs.cell (hu h0 b o e) (hc i a ha j v hv)⟩
def fitsB (key : ByteArray) (q : Qt) : Bool := beqT q.key ByteArray.empty || beqT q.key key
/-- The places of the quotas that fit, of the first k. -/
def fitIx (Q : List Qt) (key : ByteArray) (k : Nat) : List (Fin Q.length) := ((List.finRange Q.length).take k).filter fun i => fitsB key Q[i]
theorem fitIx_succ {Q : List Qt} {key : ByteArray} {k : Nat} (h : k < Q.length) : fitIx Q key (k + 1) = fitIx Q key k ++ (if fitsB key Q[k] then [⟨k, h⟩] else []) := by
  unfold fitIx
  rw [take_succ_get (a := (⟨k, h⟩ : Fin Q.length)) (by simp [h]), List.filter_append]
  congr 1
  simp only [List.filter_cons, List.filter_nil]
  rfl
theorem fitIx_len (Q : List Qt) (key : ByteArray) (k : Nat) : (fitIx Q key k).length ≤ k := by
  unfold fitIx
  exact Nat.le_trans (List.length_filter_le _ _) (by rw [List.length_take]; omega)
theorem fitIx_pre (Q : List Qt) (key : ByteArray) (k : Nat) : fitIx Q key k <+: fitIx Q key Q.length := by
  have e : (List.finRange Q.length).take Q.length = List.finRange Q.length := List.take_of_length_le (by simp)
  unfold fitIx
  rw [e]
  exact List.IsPrefix.filter _ (List.take_prefix _ _)
theorem fitting_in (n : Nat) (p : Nat) (key : ByteArray) (w : World) :
    CallsIn Fence.wide n Tryz.prog 51 #[.pointer (some ⟨p, 0, none⟩), .string key] w fun e w' => e = .returned (.func (.func 69) #[] #[.pointer (some ⟨w.heap.size, 0, none⟩), .pointer (some ⟨w.heap.size + 1, 0, none⟩)]) ∧
      w' = (w.alloc (.cells #[.pointer (some ⟨p, 0, none⟩)] 26)).alloc (.cells #[.string key] 9) := by
  refine callsIn_of_wp Tryz.func51 rfl trivial ?_ rfl
  simp only [Tryz.ntmps51, List.size_toArray, List.length_cons, List.length_nil, Nat.reduceAdd, Nat.reduceSub, Array.replicate_succ, Array.replicate_zero, List.push_toArray, List.append_toArray, List.nil_append, List.cons_append]
  gi_wp2
  go_ret
  exact ⟨by simp, rfl⟩
set_option maxRecDepth 100000 in
set_option maxHeartbeats 8000000 in
theorem fit1_in (n : Nat) (hn : 1 ≤ n) (l Bg Bk p qc : Nat) (qA : Option Addr) (x1 x2 x3 x4 : Value) (Q : List Qt) (key : ByteArray) (hq5 : Q.length ≤ 50) (U : Nat → Prop) (hp : U p) (hg : U Bg) (hk : U Bk) (hqu : 0 < Q.length → ∀ b o, qA = some ⟨b, o, none⟩ → U b) (J Jx : List (Fin Q.length) → World → Prop)
    (hJ : ∀ pre W o, J pre W → J pre (W.alloc o))
    (hY : ∀ pre (x : Fin Q.length) W, J pre W → pre.length < Q.length → YieldAt Fence.wide (n - 1) Tryz.prog l #[.int .i64 (x.val : Int)] W fun e W' =>
      (e = .returned (.bool true) ∧ J (pre ++ [x]) W' ∧ Stay U W W') ∨ (e = .returned (.bool false) ∧ Jx (pre ++ [x]) W'))
    (W : World) (hB : Nat) (hbg : W.heap[Bg]? = some (.cells #[.pointer (some ⟨p, 0, none⟩)] 26 (0, 0))) (hbk : W.heap[Bk]? = some (.cells #[.string key] 9 (0, 0)))
    (hbx : W.heap[p]? = some (.cells #[.slice qA Q.length qc, x1, x2, x3, x4] 72 (0, 0))) (hq : Sl W hB Qt.cs 5 qA Q.length Q) (h0 : J [] W) :
    CallsIn Fence.wide n Tryz.prog 69 #[.func (.yield l) #[] #[], .pointer (some ⟨Bg, 0, none⟩), .pointer (some ⟨Bk, 0, none⟩)] W fun e W' => (∃ v, e = .returned v) ∧
      ((∃ ys, ys = fitIx Q key Q.length ∧ J ys W') ∨ (∃ pre, (∃ k, pre = fitIx Q key k) ∧ Jx pre W')) := by
  have g0 : W.cell? ⟨Bg, 0, none⟩ = some (.pointer (some ⟨p, 0, none⟩)) := (block_cell hbg 0).trans rfl
  have p0 : W.cell? ⟨p, 0, none⟩ = some (.slice qA Q.length qc) := (block_cell hbx 0).trans rfl
  have HBK := hide hbk
  have HQ := hide hq
  have HJ := hide hJ
  have HY := hide hY
  clear hbk hbx hbg hq hJ hY
  refine callsIn_of_wp Tryz.func69 rfl trivial ?_ rfl
  simp only [Tryz.ntmps69, List.size_toArray, List.length_cons, List.length_nil, Nat.reduceAdd, Nat.reduceSub, Array.replicate_succ, Array.replicate_zero, List.push_toArray, List.append_toArray, List.nil_append, List.cons_append]
  gi_wp2
  gi_loopw [11] (fun i wr => ∃ k : Nat, k ≤ Q.length ∧ i = .int .i64 k ∧ J (fitIx Q key k) wr ∧ Stay U W wr)
    (fun i _ => Q.length - (intOf i).toNat)
  case atStart => exact ⟨0, Nat.zero_le _, rfl, by simpa [fitIx] using h0, Stay.refl _ _⟩
  case round =>
    obtain ⟨k, hk', rfl, hJs, hst⟩ := hrel
    have HJS := hide hJs
    have HST := hide hst
    clear hJs hst
    by_cases hlt : k < Q.length
    · obtain ⟨qb, qo, q, rfl, hqb, hqx, hqc⟩ := (HQ.out.stay HST.out hqu).at_ hlt
      have q0 : wr.cell? ⟨qb, qo + k * 5, none⟩ = some (.string q.name) := by simpa using hqc 0 _ rfl
      have q1 : wr.cell? ⟨qb, qo + k * 5 + 1, none⟩ = some (.string q.key) := by simpa using hqc 1 _ rfl
      have q2 : wr.cell? ⟨qb, qo + k * 5 + 2, none⟩ = some (.int .i64 q.s) := by simpa using hqc 2 _ rfl
      have q3 : wr.cell? ⟨qb, qo + k * 5 + 3, none⟩ = some (.int .i64 q.a) := by simpa using hqc 3 _ rfl
      have q4 : wr.cell? ⟨qb, qo + k * 5 + 4, none⟩ = some (.int .i64 q.e) := by simpa using hqc 4 _ rfl
      have k0 : wr.cell? ⟨Bk, 0, none⟩ = some (.string key) := HST.out.cell hk ((block_cell HBK.out 0).trans rfl)
      have hqk : Q[k] = q := by rw [List.getElem?_eq_getElem hlt] at hqx; exact Option.some.inj hqx
      have hbkl := lt_of_block (HST.out Bk _ HBK.out hk)
      clear hqc
      have HS2 := hide (fitIx_succ (key := key) hlt)
      rw [hqk] at HS2
      obtain ⟨fn, tmps, assign, body, hy, hR⟩ := HY.out (fitIx Q key k) ⟨k, hlt⟩ (wr.alloc (.cells #[.string q.name, .string q.key, .int .i64 q.s, .int .i64 q.a, .int .i64 q.e] 67)) (HJ.out _ _ _ HJS.out) (by have := fitIx_len Q key k; omega)
      dsimp only at hy
      have fin : ∀ (W3 : World), J (fitIx Q key k ++ [⟨k, hlt⟩]) W3 → fitsB key q = true → J (fitIx Q key (k + 1)) W3 := fun W3 h hf => by
        rw [HS2.out, if_pos hf]; exact h
      have FIN := hide fin
      have HU := hide (HST.out.alloc (.cells #[.string q.name, .string q.key, .int .i64 q.s, .int .i64 q.a, .int .i64 q.e] 67))
      have HJA := hide (HJ.out _ _ (.cells #[.string q.name, .string q.key, .int .i64 q.s, .int .i64 q.a, .int .i64 q.e] 67) HJS.out)
      clear fin hqk hqx
      by_cases e1 : q.key = ByteArray.empty
      · have HF := hide (show fitsB key q = true by rw [fitsB, e1]; simp [beqT])
        have m0 : q.key.toList = [] := by rw [e1, ByteArray.toList_eq]; rfl
        clear e1
        gi_wp2
        refine hR.mono ?_
        rintro e W3 (⟨rfl, hJ3, hk3⟩ | ⟨rfl, hJx3⟩)
        · gi_wp2
          go_roundw
          case rel => exact ⟨k + 1, by omega, by simp, FIN.out _ hJ3 HF.out, HU.out.trans hk3⟩
          case measure => simp [intOf]; omega
        · gi_wp2
          refine bodyPost_ret (results_none rfl _ _ _) rfl ?_
          exact ⟨⟨_, rfl⟩, .inr ⟨_, ⟨k + 1, by rw [HS2.out, if_pos HF.out]⟩, hJx3⟩⟩
      · have m1 : q.key.toList.isEmpty = false := by
          obtain ⟨m1, m2⟩ := str_ne e1
          cases h : q.key.toList with
          | nil => exact absurd (by rw [h, ByteArray.toList_eq]; rfl) m2
          | cons a l => rfl
        have m2 : ¬ q.key.toList = [] := by
          intro h; rw [h] at m1; cases m1
        by_cases e2 : q.key = key
        · have HF := hide (show fitsB key q = true by rw [fitsB, e2]; simp [beqT])
          have m3 : (q.key.toList == key.toList) = true := by rw [e2]; simp
          clear e1 e2
          gi_wp2
          refine hR.mono ?_
          rintro e W3 (⟨rfl, hJ3, hk3⟩ | ⟨rfl, hJx3⟩)
          · gi_wp2
            go_roundw
            case rel => exact ⟨k + 1, by omega, by simp, FIN.out _ hJ3 HF.out, HU.out.trans hk3⟩
            case measure => simp [intOf]; omega
          · gi_wp2
            refine bodyPost_ret (results_none rfl _ _ _) rfl ?_
            exact ⟨⟨_, rfl⟩, .inr ⟨_, ⟨k + 1, by rw [HS2.out, if_pos HF.out]⟩, hJx3⟩⟩
        · have HF := hide (show fitsB key q = false by
            rw [fitsB, ← beqT_toList, ← beqT_toList, (str_ne e1).1, (str_ne e2).1]; rfl)
          obtain ⟨m3, m4⟩ := str_ne e2
          clear e1 e2
          gi_wp2
          refine ⟨fun _ h => (by cases h), ?_⟩
          gi_wp2
          go_roundw
          case rel => exact ⟨k + 1, by omega, by simp, by rw [HS2.out, if_neg (by rw [HF.out]; decide), List.append_nil]; exact HJA.out, HU.out⟩
          case measure => simp [intOf]; omega
    · obtain rfl : k = Q.length := by omega
      gi_wp2
      go_end0
      exact ⟨⟨_, rfl⟩, .inl ⟨_, rfl, HJS.out⟩⟩
theorem fit1_stops (n : Nat) (hn : 1 ≤ n) (Bg Bk p qc hB : Nat) (qA : Option Addr) (x1 x2 x3 x4 : Value) (Q : List Qt) (key : ByteArray) (hq5 : Q.length ≤ 50) (U : Nat → Prop) (hp : U p) (hg : U Bg) (hk : U Bk) (hqu : 0 < Q.length → ∀ b o, qA = some ⟨b, o, none⟩ → U b)
    (w : World) (hbg : w.heap[Bg]? = some (.cells #[.pointer (some ⟨p, 0, none⟩)] 26 (0, 0))) (hbk : w.heap[Bk]? = some (.cells #[.string key] 9 (0, 0)))
    (hbx : w.heap[p]? = some (.cells #[.slice qA Q.length qc, x1, x2, x3, x4] 72 (0, 0))) (hq : Sl w hB Qt.cs 5 qA Q.length Q) (hBz : hB ≤ w.heap.size) :
    SeqStopsK Fence.wide n Tryz.prog 69 #[.pointer (some ⟨Bg, 0, none⟩), .pointer (some ⟨Bk, 0, none⟩)] (fun x : Fin Q.length => #[Value.int .i64 (x.val : Int)]) (Stay U) (fun ys => ys = fitIx Q key Q.length) (fun pre => ∃ k, pre = fitIx Q key k) Q.length w := fun l J Jx W hW hJ _ hY h0 =>
  fit1_in n hn l Bg Bk p qc qA x1 x2 x3 x4 Q key hq5 U hp hg hk hqu J Jx (fun pre W' o h => hJ pre W' _ none h (World.grownBy_alloc W' o none) (fun r e => by cases e)) hY W hB (block_below hbg hW) (block_below hbk hW) (block_below hbx hW) (hq.below (hW.mono hBz)) h0
end Go.Proofs.YtkkhjlomicokgaaGreatDoor
