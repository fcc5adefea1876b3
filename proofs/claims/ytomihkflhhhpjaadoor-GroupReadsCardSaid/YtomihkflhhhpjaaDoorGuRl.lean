/- Rules as their cells have them; what CheckRules says of them. -/
import Derived.Test.YtomihkflhhhpjaaDoorBytes
import Derived.Test.YtomihkflhhhpjaaDoorMem
import Derived.Test.YtomihkflhhhpjaaDoorSlDrop
import Derived.Test.YtomihkflhhhpjaaDoorOwnMore
import Derived.Test.YtomihkflhhhpjaaDoorFirsts
namespace Go.Proofs.YtomihkflhhhpjaaDoor
open Go.RowKit
set_option linter.unusedVariables false
set_option linter.unusedSimpArgs false
structure Mt where
  on : Int
  no : Bool
  glob : ByteArray
  deriving DecidableEq
structure Ac where
  dd : Int
  n : Int
  text : ByteArray
  deriving DecidableEq
def Mt.cs (m : Mt) : List Value := [.int .i64 m.on, .bool m.no, .string m.glob]
def Ac.cs (a : Ac) : List Value := [.int .i64 a.dd, .int .i64 a.n, .string a.text]
/-- A rule, and what stands behind its two slices. -/
structure Rul where
  A : Option Addr
  n : Nat
  c : Nat
  ms : List Mt
  A2 : Option Addr
  n2 : Nat
  c2 : Nat
  ac : List Ac
def Rul.cs (x : Rul) : List Value := [.slice x.A x.n x.c, .slice x.A2 x.n2 x.c2]
structure Rul.ok (w : World) (x : Rul) : Prop where
  nl : x.n ≤ maxLen
  sl : Sl w w.heap.size Mt.cs 3 x.A x.n x.ms
  fm : ∀ m ∈ x.ms, m.glob.size ≤ maxLen
  nl2 : x.n2 ≤ maxLen
  sl2 : Sl w w.heap.size Ac.cs 3 x.A2 x.n2 x.ac
  fa : ∀ a ∈ x.ac, a.text.size ≤ maxLen
theorem Rul.ok.up {w w' : World} {x : Rul} (h : x.ok w) (hb : Below w.heap.size w w') : x.ok w' := ⟨h.nl, h.sl.up hb, h.fm, h.nl2, h.sl2.up hb, h.fa⟩
def RulesOk (w : World) (l : List Rul) : Prop := ∀ x ∈ l, x.ok w
theorem RulesOk.up {w w' : World} {l : List Rul} (h : RulesOk w l) (hb : Below w.heap.size w w') : RulesOk w' l := fun x hx => (h x hx).up hb
def outG (n lo hi : Int) : Bool := decide (n < lo) || decide (hi < n)
def textG (s : ByteArray) : Bool := s.data.toList.all fun c => decide (32 ≤ c.toNat) && decide (c.toNat ≤ 126)
def empG (s : ByteArray) : Bool := s.toList.isEmpty
def mtE (m : Mt) : Int := if outG m.on 1 6 = true then 10 else if m.on = 6 ∧ empG m.glob = false then 1 else if (100 : Int) < (m.glob.size : Int) then 4 else if textG m.glob = false then 9 else 0
def acE (a : Ac) : Int := if outG a.dd 1 6 = true then 10 else if (a.n ≠ 0 ∧ a.dd ≠ 5) ∨ (empG a.text = false ∧ a.dd ≠ 6) then 1 else if a.dd = 5 ∧ outG a.n 1 200 = true then 2 else if a.dd = 6 ∧ empG a.text = true then 1 else if (100 : Int) < (a.text.size : Int) then 4 else if textG a.text = false then 9 else 0
def mtAt (l : List Mt) (k : Nat) : Int := match l[k]? with | none => 0 | some x => mtE x
def acAt (l : List Ac) (k : Nat) : Int := match l[k]? with | none => 0 | some x => acE x
theorem mtAt_some {l : List Mt} {k : Nat} {x : Mt} (h : l[k]? = some x) : mtAt l k = mtE x := by rw [mtAt, h]
theorem acAt_some {l : List Ac} {k : Nat} {x : Ac} (h : l[k]? = some x) : acAt l k = acE x := by rw [acAt, h]
def rlE (ms : List Mt) (ac : List Ac) : Int := if 8 < ms.length ∨ 8 < ac.length then 4 else if ac.length = 0 then 7 else if firstErr (mtAt ms) ms.length ≠ 0 then firstErr (mtAt ms) ms.length else firstErr (acAt ac) ac.length
def rlAt (l : List Rul) (k : Nat) : Int := match l[k]? with | none => 0 | some x => rlE x.ms x.ac
theorem rlAt_some {l : List Rul} {k : Nat} {x : Rul} (h : l[k]? = some x) : rlAt l k = rlE x.ms x.ac := by rw [rlAt, h]
def rlsE (l : List Rul) : Int := if 100 < l.length then 4 else firstErr (rlAt l) l.length
theorem outG_any (n lo hi : Int) (w : World) : Calls Tryd.prog 76 #[.int .i64 n, .int .i64 lo, .int .i64 hi] w fun e w' => e = .returned (.bool (outG n lo hi)) ∧ w = w' := by
  go_enter Tryd.func76, Tryd.ntmps76
  go_wp2
  all_goals go_ret
  all_goals (exact ⟨ret_bool (by simp [outG, *]), rfl⟩)
theorem textG_snoc (s : ByteArray) (k : Nat) (h : k < s.size) : (s.data.toList.take (k + 1)).all (fun c => decide (32 ≤ c.toNat) && decide (c.toNat ≤ 126)) = ((s.data.toList.take k).all (fun c => decide (32 ≤ c.toNat) && decide (c.toNat ≤ 126)) && (decide (32 ≤ s[k].toNat) && decide (s[k].toNat ≤ 126))) := all_take_snoc s (fun c => decide (32 ≤ c.toNat) && decide (c.toNat ≤ 126)) k h
set_option maxHeartbeats 800000 in
theorem isText_any (s : ByteArray) (w : World) (hs : s.size ≤ maxLen) :
    Calls Tryd.prog 77 #[.string s] w fun e w' => e = .returned (.bool (textG s)) ∧ w = w' := by
  unfold maxLen at hs
  go_enter Tryd.func77, Tryd.ntmps77
  go_wp2
  go_loop [6] (fun i => ∃ k : Nat, k ≤ s.size ∧ i = .int .i64 k ∧ (s.data.toList.take k).all (fun c => decide (32 ≤ c.toNat) && decide (c.toNat ≤ 126)) = true) (fun i => s.size - (intOf i).toNat)
  case atStart => exact ⟨0, Nat.zero_le _, rfl, rfl⟩
  case round =>
    obtain ⟨k, hk, rfl, hall⟩ := hrel
    have HALL := hide hall
    clear hall
    by_cases hlt : k < s.size
    · obtain ⟨c, hc⟩ : ∃ c, s[k] = c := ⟨_, rfl⟩
      by_cases h1 : c.toNat < 32
      · have E := hide (show textG s = false from all_take_false s _ k hlt (by rw [hc]; simp; omega))
        have h1' : ((s[k].toNat : Int)) < 32 := by rw [hc]; omega
        clear hc
        go_wp2_with (fail)
        go_ret
        exact ⟨by rw [E.out]; rfl, rfl⟩
      · by_cases h2 : 126 < c.toNat
        · have E := hide (show textG s = false from all_take_false s _ k hlt (by rw [hc]; simp; omega))
          have h1' : (32 : Int) ≤ (s[k].toNat : Int) := by rw [hc]; omega
          have h2' : (126 : Int) < (s[k].toNat : Int) := by rw [hc]; omega
          clear hc
          go_wp2_with (fail)
          go_ret
          exact ⟨by rw [E.out]; rfl, rfl⟩
        · have h1' : (32 : Int) ≤ (s[k].toNat : Int) := by rw [hc]; omega
          have h2' : (s[k].toNat : Int) ≤ 126 := by rw [hc]; omega
          have E := hide (show (decide (32 ≤ s[k].toNat) && decide (s[k].toNat ≤ 126)) = true by rw [hc]; simp; omega)
          clear hc
          go_wp2_with (fail)
          go_round
          case rel => exact ⟨k + 1, by omega, by go_num, by rw [textG_snoc s k hlt, HALL.out, E.out]; rfl⟩
          case measure => simp [intOf]; omega
    · have hks : k = s.size := by omega
      subst hks
      have E := hide (show textG s = true by
        have h9 := HALL.out
        rw [List.take_of_length_le (Nat.le_of_eq (show s.data.toList.length = s.size from Array.length_toList))] at h9
        exact h9)
      go_wp2_with (fail)
      go_ret
      exact ⟨by rw [E.out]; rfl, rfl⟩
set_option maxHeartbeats 1000000 in
theorem checkMatch_any (m : Mt) (w : World) (hm : m.glob.size ≤ maxLen) :
    Calls Tryd.prog 56 #[.agg #[.int .i64 m.on, .bool m.no, .string m.glob]] w fun e w' => e = .returned (.int .i64 (mtE m)) ∧ Below w.heap.size w w' := by
  obtain ⟨on, no, g⟩ := m
  have CT := hide (fun W => isText_any g W hm)
  unfold maxLen at hm
  simp only at hm
  go_enter Tryd.func56, Tryd.ntmps56
  go_wp2_with (first | (go_at_call 76; refine (outG_any _ _ _ _).mono ?_; rintro e w1 ⟨rfl, rfl⟩) | (go_at_call 77; refine (CT.out _).mono ?_; rintro e w1 ⟨rfl, rfl⟩))
  all_goals go_ret
  all_goals (refine ⟨?_, (Below.refl _ _).alloc (Nat.le_refl _) _⟩)
  all_goals (refine congrArg (fun v => Ending.returned (Value.int IntKind.i64 v)) (show _ = mtE ⟨on, no, g⟩ from ?_))
  all_goals (unfold mtE empG; (repeat' split) <;> (first | rfl | (simp_all [outG]; done) | (simp_all [outG]; omega)))
theorem empG_iff (s : ByteArray) : empG s = true ↔ s.toList = [] := by unfold empG; simp
set_option maxHeartbeats 2000000 in
theorem checkAct_any (a : Ac) (w : World) (hm : a.text.size ≤ maxLen) :
    Calls Tryd.prog 57 #[.agg #[.int .i64 a.dd, .int .i64 a.n, .string a.text]] w fun e w' => e = .returned (.int .i64 (acE a)) ∧ Below w.heap.size w w' := by
  obtain ⟨dd, n, g⟩ := a
  have CT := hide (fun W => isText_any g W hm)
  unfold maxLen at hm
  simp only at hm
  have HB := hide ((Below.refl w.heap.size w).alloc (Nat.le_refl _) (.cells #[.int .i64 dd, .int .i64 n, .string g] 56))
  have HE := hide (show ∀ v, v = acE ⟨dd, n, g⟩ → acE ⟨dd, n, g⟩ = v from fun v h => h.symm)
  go_enter Tryd.func57, Tryd.ntmps57
  go_wp2_with (first | (go_at_call 76; refine (outG_any _ _ _ _).mono ?_; rintro e w1 ⟨rfl, rfl⟩) | (go_at_call 77; refine (CT.out _).mono ?_; rintro e w1 ⟨rfl, rfl⟩))
  all_goals go_ret
  all_goals (refine ⟨?_, (Below.refl _ _).alloc (Nat.le_refl _) _⟩)
  all_goals (refine congrArg (fun v => Ending.returned (Value.int IntKind.i64 v)) (show _ = acE ⟨dd, n, g⟩ from ?_))
  all_goals (unfold acE empG; (repeat' split) <;> (first | rfl | (simp_all [outG]; done) | (simp_all [outG]; omega)))
theorem _root_.Go.RowKit.Below.up9 {w wa w1 : World} (h : Below w.heap.size w wa) (hz : w.heap.size ≤ wa.heap.size) (h1 : Below wa.heap.size wa w1) : Below w.heap.size w w1 := h.trans (h1.mono hz)
set_option maxRecDepth 100000 in
set_option maxHeartbeats 2000000 in
theorem checkRule_any (x : Rul) (w : World) (h : x.ok w) :
    Calls Tryd.prog 36 #[.agg #[.slice x.A x.n x.c, .slice x.A2 x.n2 x.c2]] w fun e w' => e = .returned (.int .i64 (rlE x.ms x.ac)) ∧ Below w.heap.size w w' := by
  obtain ⟨A, n, c, ms, A2, n2, c2, ac⟩ := x
  obtain ⟨hn, hs, hfm, hn2, hs2, hfa⟩ := h
  simp only at hn hs hfm hn2 hs2 hfa
  have hl1 := hs.len
  have hl2 := hs2.len
  have HB := hide ((Below.refl w.heap.size w).alloc (Nat.le_refl _) (.cells #[.slice A n c, .slice A2 n2 c2] 44))
  have HS1 := hide hs
  have HS2 := hide hs2
  have HF1 := hide hfm
  have HF2 := hide hfa
  clear hs hs2 hfm hfa
  unfold maxLen at hn hn2
  show Calls _ _ _ _ fun e w' => e = .returned (.int .i64 (rlE ms ac)) ∧ Below w.heap.size w w'
  by_cases h8 : 8 < n ∨ 8 < n2
  · have E := hide (show rlE ms ac = 4 by rw [rlE, if_pos (by omega)])
    rcases Nat.lt_or_ge 8 n with h9 | h9
    · have h9' : (8 : Int) < (n : Int) := by omega
      clear hl1 hl2
      go_enter Tryd.func36, Tryd.ntmps36
      go_wp2_with (fail)
      go_ret
      exact ⟨by rw [E.out]; rfl, HB.out⟩
    · have h9' : ¬ (8 : Int) < (n : Int) := by omega
      have h9'' : (8 : Int) < (n2 : Int) := by omega
      clear hl1 hl2
      go_enter Tryd.func36, Tryd.ntmps36
      go_wp2_with (fail)
      go_ret
      exact ⟨by rw [E.out]; rfl, HB.out⟩
  · have h9' : ¬ (8 : Int) < (n : Int) := by omega
    have h9'' : ¬ (8 : Int) < (n2 : Int) := by omega
    by_cases h0 : n2 = 0
    · have E := hide (show rlE ms ac = 7 by rw [rlE, if_neg (by omega), if_pos (by omega)])
      clear hl1 hl2
      subst h0
      go_enter Tryd.func36, Tryd.ntmps36
      go_wp2_with (fail)
      go_ret
      exact ⟨by rw [E.out]; rfl, HB.out⟩
    · have h0' : ((n2 : Int) == 0) = false := beq_eq_false_iff_ne.2 (by omega)
      obtain ⟨wa, hwa⟩ : ∃ wa, w.alloc (.cells #[.slice A n c, .slice A2 n2 c2] 44) = wa := ⟨_, rfl⟩
      have HWA := hide hwa
      have HBW := hide (show Below w.heap.size w wa from hwa ▸ HB.out)
      have HBX := hide (show wa.heap[w.heap.size]? = some (.cells #[.slice A n c, .slice A2 n2 c2] 44 (0, 0)) from hwa ▸ heap_alloc_new w _)
      have hzw := HBW.out.size
      have HS1 := hide (HS1.out.up HBW.out)
      have HS2 := hide (HS2.out.up HBW.out)
      have x0 : wa.cell? ⟨w.heap.size, 0, none⟩ = some (.slice A n c) := (block_cell HBX.out 0).trans rfl
      clear hwa
      have ER := hide (show rlE ms ac = if firstErr (mtAt ms) n ≠ 0 then firstErr (mtAt ms) n else firstErr (acAt ac) n2 by rw [rlE, if_neg (by omega), if_neg (by omega), hl1, hl2])
      clear hl1 hl2 h8 h0
      go_enter Tryd.func36, Tryd.ntmps36
      go_wp2_with (fail)
      (try rw [HWA.out])
      go_loopw [26] (fun i wr => ∃ k : Nat, k ≤ n ∧ i = .int .i64 k ∧ (∀ j, j < k → mtAt ms j = 0) ∧ Below wa.heap.size wa wr) (fun i _ => n - (intOf i).toNat)
      case atStart => exact ⟨0, Nat.zero_le _, rfl, fun j hj => absurd hj (by omega), Below.refl _ _⟩
      case round =>
        obtain ⟨k, hk, rfl, hno, hB⟩ := hrel
        have HNO := hide hno
        clear hno
        have hz := hB.size
        have HB0 := hide hB
        by_cases hlt : k < n
        · obtain ⟨bb, oo, x, hA, hbb, hx, hc⟩ := (HS1.out.below hB).at_ hlt
          have c0 := hc 0 _ rfl
          have c1 := hc 1 _ rfl
          have c2 := hc 2 _ rfl
          simp only [Nat.add_zero] at c0
          have HX := hide hx
          have hfx := HF1.out x (List.mem_of_getElem? hx)
          have CW := hide (fun W => checkMatch_any x W hfx)
          have hlt' : (k : Int) < (n : Int) := by omega
          clear hc hx hB
          subst hA
          obtain ⟨e, he⟩ : ∃ e, mtE x = e := ⟨_, rfl⟩
          rw [he] at CW
          have HE := hide he
          clear he
          by_cases h0 : e = 0
          · subst h0
            have HK := hide ((mtAt_some HX.out).trans HE.out)
            go_wp2_with (go_at_call 56; refine (CW.out _).mono ?_; rintro r w1 ⟨rfl, hw1⟩; have HB1 := hide (show Below wa.heap.size wa w1 from HB0.out.trans (((Below.refl _ _).alloc (Nat.le_refl _) _).trans (hw1.mono (by simp)) |>.mono hz)); clear hw1)
            go_roundw
            case rel => exact ⟨k + 1, by omega, by go_num, fun j hj => by (by_cases e : j < k); exact HNO.out j e; (obtain rfl : j = k := by omega); exact HK.out, HB1.out⟩
            case measure => simp [intOf]; omega
          · have h0' : (e == 0) = false := by simpa using h0
            have HF := hide (show firstErr (mtAt ms) n = e from (firstErr_hit HNO.out hlt (by rw [mtAt_some HX.out, HE.out]; exact h0)).trans ((mtAt_some HX.out).trans HE.out))
            have HN0 := hide h0
            go_wp2_with (go_at_call 56; refine (CW.out _).mono ?_; rintro r w1 ⟨rfl, hw1⟩; have HB1 := hide (show Below wa.heap.size wa w1 from HB0.out.trans (((Below.refl _ _).alloc (Nat.le_refl _) _).trans (hw1.mono (by simp)) |>.mono hz)); clear hw1)
            go_ret
            exact ⟨by rw [ER.out, if_pos (by rw [HF.out]; exact HN0.out), HF.out]; rfl, Below.up9 HBW.out hzw <| HB1.out⟩
        · obtain rfl : n = k := by omega
          have HZ := hide (firstErr_zero HNO.out)
          have hlt' : ¬ (n : Int) < (n : Int) := by omega
          clear hB
          have HZ1 := hide HZ.out
          have HBM := hide HB0.out
          clear HB0 HZ HNO
          rename World => wo
          have y1 : wo.cell? ⟨w.heap.size, 1, none⟩ = some (.slice A2 n2 c2) := (block_cell (block_below HBX.out HBM.out) 1).trans rfl
          go_wp2_with (fail)
          go_loopw [39] (fun i wr => ∃ k : Nat, k ≤ n2 ∧ i = .int .i64 k ∧ (∀ j, j < k → acAt ac j = 0) ∧ Below wa.heap.size wa wr) (fun i _ => n2 - (intOf i).toNat)
          case atStart => exact ⟨0, Nat.zero_le _, rfl, fun j hj => absurd hj (by omega), HBM.out⟩
          case round =>
            obtain ⟨k, hk, rfl, hno, hB⟩ := hrel
            have HNO := hide hno
            clear hno
            have hz := hB.size
            have HB0 := hide hB
            by_cases hlt : k < n2
            · obtain ⟨bb, oo, x, hA, hbb, hx, hc⟩ := (HS2.out.below hB).at_ hlt
              have c0 := hc 0 _ rfl
              have c1 := hc 1 _ rfl
              have c2 := hc 2 _ rfl
              simp only [Nat.add_zero] at c0
              have HX := hide hx
              have hfx := HF2.out x (List.mem_of_getElem? hx)
              have CW := hide (fun W => checkAct_any x W hfx)
              have hlt' : (k : Int) < (n2 : Int) := by omega
              clear hc hx hB
              subst hA
              obtain ⟨e, he⟩ : ∃ e, acE x = e := ⟨_, rfl⟩
              rw [he] at CW
              have HE := hide he
              clear he
              by_cases h0 : e = 0
              · subst h0
                have HK := hide ((acAt_some HX.out).trans HE.out)
                go_wp2_with (go_at_call 57; refine (CW.out _).mono ?_; rintro r w1 ⟨rfl, hw1⟩; have HB1 := hide (show Below wa.heap.size wa w1 from HB0.out.trans (((Below.refl _ _).alloc (Nat.le_refl _) _).trans (hw1.mono (by simp)) |>.mono hz)); clear hw1)
                go_roundw
                case rel => exact ⟨k + 1, by omega, by go_num, fun j hj => by (by_cases e : j < k); exact HNO.out j e; (obtain rfl : j = k := by omega); exact HK.out, HB1.out⟩
                case measure => simp [intOf]; omega
              · have h0' : (e == 0) = false := by simpa using h0
                have HF := hide (show firstErr (acAt ac) n2 = e from (firstErr_hit HNO.out hlt (by rw [acAt_some HX.out, HE.out]; exact h0)).trans ((acAt_some HX.out).trans HE.out))
                have HN0 := hide h0
                go_wp2_with (go_at_call 57; refine (CW.out _).mono ?_; rintro r w1 ⟨rfl, hw1⟩; have HB1 := hide (show Below wa.heap.size wa w1 from HB0.out.trans (((Below.refl _ _).alloc (Nat.le_refl _) _).trans (hw1.mono (by simp)) |>.mono hz)); clear hw1)
                go_ret
                exact ⟨by rw [ER.out, if_neg (by rw [HZ1.out]; decide), HF.out]; rfl, Below.up9 HBW.out hzw <| HB1.out⟩
            · obtain rfl : n2 = k := by omega
              have HZ := hide (firstErr_zero HNO.out)
              have hlt' : ¬ (n2 : Int) < (n2 : Int) := by omega
              clear hB
              go_wp2_with (fail)
              go_ret
              exact ⟨by rw [ER.out, if_neg (by rw [HZ1.out]; decide), HZ.out]; rfl, Below.up9 HBW.out hzw <| HB0.out⟩
set_option maxRecDepth 100000 in
set_option maxHeartbeats 2000000 in
theorem CheckRules_any (A : Option Addr) (n c : Nat) (l : List Rul) (w : World) (hn : n ≤ maxLen) (hs : Sl w w.heap.size Rul.cs 2 A n l) (hok : RulesOk w l) :
    Calls Tryd.prog 14 #[.slice A n c] w fun e w' => e = .returned (.int .i64 (rlsE l)) ∧ Below w.heap.size w w' := by
  have hl1 := hs.len
  have HS := hide hs
  have HOK := hide hok
  clear hs hok
  unfold maxLen at hn
  by_cases h1 : 100 < n
  · have E := hide (show rlsE l = 4 by rw [rlsE, if_pos (by omega)])
    have h1' : (100 : Int) < (n : Int) := by omega
    clear hl1
    go_enter Tryd.func14, Tryd.ntmps14
    go_wp2_with (fail)
    go_ret
    exact ⟨by rw [E.out]; rfl, Below.refl _ _⟩
  · have ER := hide (show rlsE l = firstErr (rlAt l) n by rw [rlsE, if_neg (by omega), hl1])
    have h1' : ¬ (100 : Int) < (n : Int) := by omega
    clear hl1 h1
    go_enter Tryd.func14, Tryd.ntmps14
    go_wp2_with (fail)
    go_loopw [11] (fun i wr => ∃ k : Nat, k ≤ n ∧ i = .int .i64 k ∧ (∀ j, j < k → rlAt l j = 0) ∧ Below w.heap.size w wr) (fun i _ => n - (intOf i).toNat)
    case atStart => exact ⟨0, Nat.zero_le _, rfl, fun j hj => absurd hj (by omega), Below.refl _ _⟩
    case round =>
      obtain ⟨k, hk, rfl, hno, hB⟩ := hrel
      have HNO := hide hno
      clear hno
      have hz := hB.size
      have HB0 := hide hB
      by_cases hlt : k < n
      · obtain ⟨bb, oo, x, hA, hbb, hx, hc⟩ := (HS.out.below hB).at_ hlt
        have c0 := hc 0 _ rfl
        have c1 := hc 1 _ rfl
        simp only [Nat.add_zero] at c0
        have HX := hide hx
        have hfx := (HOK.out x (List.mem_of_getElem? hx)).up HB0.out
        have CW := hide (fun W (hb : Below wr.heap.size wr W) => checkRule_any x W (hfx.up hb))
        have hlt' : (k : Int) < (n : Int) := by omega
        clear hc hx hB
        subst hA
        obtain ⟨e, he⟩ : ∃ e, rlE x.ms x.ac = e := ⟨_, rfl⟩
        rw [he] at CW
        have HE := hide he
        clear he
        by_cases h0 : e = 0
        · subst h0
          have HK := hide ((rlAt_some HX.out).trans HE.out)
          go_wp2_with (go_at_call 36; refine (CW.out _ ((Below.refl _ _).alloc (Nat.le_refl _) _)).mono ?_; rintro r w1 ⟨rfl, hw1⟩; have HB1 := hide (show Below w.heap.size w w1 from HB0.out.trans (((Below.refl _ _).alloc (Nat.le_refl _) _).trans (hw1.mono (by simp)) |>.mono hz)); clear hw1)
          go_roundw
          case rel => exact ⟨k + 1, by omega, by go_num, fun j hj => by (by_cases e : j < k); exact HNO.out j e; (obtain rfl : j = k := by omega); exact HK.out, HB1.out⟩
          case measure => simp [intOf]; omega
        · have h0' : (e == 0) = false := by simpa using h0
          have HF := hide (show firstErr (rlAt l) n = e from (firstErr_hit HNO.out hlt (by rw [rlAt_some HX.out, HE.out]; exact h0)).trans ((rlAt_some HX.out).trans HE.out))
          have HN0 := hide h0
          go_wp2_with (go_at_call 36; refine (CW.out _ ((Below.refl _ _).alloc (Nat.le_refl _) _)).mono ?_; rintro r w1 ⟨rfl, hw1⟩; have HB1 := hide (show Below w.heap.size w w1 from HB0.out.trans (((Below.refl _ _).alloc (Nat.le_refl _) _).trans (hw1.mono (by simp)) |>.mono hz)); clear hw1)
          go_ret
          exact ⟨by rw [ER.out, HF.out]; rfl,  HB1.out⟩
      · obtain rfl : n = k := by omega
        have HZ := hide (firstErr_zero HNO.out)
        have hlt' : ¬ (n : Int) < (n : Int) := by omega
        clear hB
        go_wp2_with (fail)
        go_ret
        exact ⟨by rw [ER.out, HZ.out]; rfl, HB0.out⟩
end Go.Proofs.YtomihkflhhhpjaaDoor
