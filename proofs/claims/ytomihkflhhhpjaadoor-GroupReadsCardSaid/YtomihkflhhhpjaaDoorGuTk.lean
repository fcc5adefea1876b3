/- What the program reads of rules: take, readQuoted. -/
import Derived.Test.YtomihkflhhhpjaaDoorGuRl
import Derived.Test.YtomihkflhhhpjaaDoorBldByte
import Derived.Test.YtomihkflhhhpjaaDoorGrPlain
import Derived.Test.YtomihkflhhhpjaaDoorKeepP
namespace Go.Proofs.YtomihkflhhhpjaaDoor
open Go.RowKit
set_option linter.unusedVariables false
set_option linter.unusedSimpArgs false
/-- The box of a string. -/
def QB (q : Nat) (t : ByteArray) (w : World) : Prop := w.heap[q]? = some (.cells #[.string t] 9 (0, 0))
theorem QB.below {q : Nat} {t : ByteArray} {w w' : World} (h : QB q t w) {B : Nat} (hb : Below B w w') (hq : q < B) : QB q t w' := (hb.block q hq).trans h
theorem QB.set {q : Nat} {t : ByteArray} {w : World} (h : QB q t w) (s : ByteArray) : QB q s (w.setCell ⟨q, 0, none⟩ (.string s)) := block_set h _
theorem QB.cell {q : Nat} {t : ByteArray} {w : World} (h : QB q t w) : w.cell? ⟨q, 0, none⟩ = some (.string t) ∧ w.frozen? ⟨q, 0, none⟩ = false ∧ q < w.heap.size := ⟨(block_cell h 0).trans rfl, block_free h 0, lt_of_block h⟩
theorem ButAt.up {q : Nat} {w w1 w2 : World} (h : ButAt q w w1) (hb : Below w.heap.size w1 w2) (hq : q ≤ w.heap.size) : ButAt q w w2 :=
  ⟨h.be.trans (hb.mono hq), fun k o e ne => (hb.block k (lt_of_block e)).trans (h.keep k o e ne)⟩
theorem ButAt.setq {q : Nat} {w w1 : World} (h : ButAt q w w1) (u : Value) : ButAt q w (w1.setCell ⟨q, 0, none⟩ u) := h.trans (ButAt.set w1 0 u)
theorem own_stayR {w w' : World} {base sz n : Nat} {e : TypeId} {v : Value} {xs : List Value} (ho : w.ownsRow base e sz v n xs) (h : ∀ k o, v.ownBlock = some k → w.heap[k]? = some o → w'.heap[k]? = some o) : w'.ownsRow base e sz v n xs := by
  refine ⟨ho.1, ?_⟩
  rcases ho.2 with h1 | ⟨g, cap, cur, q1, q2, q3, q4⟩
  · exact .inl h1
  · exact .inr ⟨g, cap, cur, q1, q2, h g _ (by rw [q1]; rfl) q3, q4⟩
theorem bld_set {B b q : Nat} {l : List Value} {w : World} (h : Bld B b l w) (hq : q < B) (u : Value) : Bld B b l (w.setCell ⟨q, 0, none⟩ u) := by
  rcases h with ⟨h1, v, h2, h3, h4⟩ | ⟨h1, v, h2, h3, h4⟩
  · exact .inl ⟨h1, v, block_set_other h2 _ _ (show b ≠ q by omega), own_stayR h3 (fun k o e eo => block_set_other eo _ _ (show k ≠ q from fun e2 => by have := (h3.lt k e).1; omega)), h4⟩
  · exact .inr ⟨h1, v, block_set_other h2 _ _ (show b ≠ q by omega), own_stayR h3 (fun k o e eo => block_set_other eo _ _ (show k ≠ q from fun e2 => by have := (h3.lt k e).1; omega)), h4⟩
/-- What is behind a word. -/
def cutP (p l : List UInt8) : Option (List UInt8) := if Lib.hasPrefix l p = true then some (l.drop p.length) else none
def bs (l : List UInt8) : ByteArray := ⟨l.toArray⟩
theorem bs_list (l : List UInt8) : (bs l).data.toList = l := by unfold bs; simp
theorem ba_ext {a b : ByteArray} (h : a.data.toList = b.data.toList) : a = b := by
  obtain ⟨⟨l⟩⟩ := a
  obtain ⟨⟨m⟩⟩ := b
  simp at h
  rw [h]
theorem bs_of (t : ByteArray) : bs t.data.toList = t := ba_ext (bs_list _)
set_option maxHeartbeats 1000000 in
theorem takeT {q : Nat} {t : ByteArray} {w : World} (h : QB q t w) (p : ByteArray) {r : List UInt8} (hp : cutP p.data.toList t.data.toList = some r) :
    Calls Tryd.prog 33 #[.pointer (some ⟨q, 0, none⟩), .string p] w fun e w' => e = .returned (.bool true) ∧ w' = w.setCell ⟨q, 0, none⟩ (.string (bs r)) := by
  obtain ⟨c0, f0, _⟩ := h.cell
  have hp1 : Lib.hasPrefix t.data.toList p.data.toList = true := by
    unfold cutP at hp
    split at hp
    · assumption
    · cases hp
  have hp2 : Lib.trimPrefix t.data.toList p.data.toList = r := by
    rw [cutP, if_pos hp1] at hp
    rw [Lib.trimPrefix, if_pos hp1]
    exact Option.some.inj hp
  have CC := hide (Tryd.strings_CutPrefix t p w)
  rw [hp1, hp2] at CC
  clear hp hp1 hp2 h
  go_enter Tryd.func33, Tryd.ntmps33
  go_wp2_with (go_at_call 38; refine CC.out.mono ?_; rintro e w1 ⟨rfl, hh⟩; obtain rfl := hh.symm)
  go_ret
  exact ⟨rfl, rfl⟩
set_option maxHeartbeats 1000000 in
theorem takeF {q : Nat} {t : ByteArray} {w : World} (h : QB q t w) (p : ByteArray) (hp : cutP p.data.toList t.data.toList = none) :
    Calls Tryd.prog 33 #[.pointer (some ⟨q, 0, none⟩), .string p] w fun e w' => e = .returned (.bool false) ∧ w' = w := by
  obtain ⟨c0, f0, _⟩ := h.cell
  have hp1 : Lib.hasPrefix t.data.toList p.data.toList = false := by
    unfold cutP at hp
    split at hp
    · cases hp
    · rename_i h; simpa using h
  have CC := hide (Tryd.strings_CutPrefix t p w)
  rw [hp1] at CC
  clear hp hp1 h
  go_enter Tryd.func33, Tryd.ntmps33
  go_wp2_with (go_at_call 38; refine CC.out.mono ?_; rintro e w1 ⟨rfl, hh⟩; obtain rfl := hh.symm)
  go_ret
  exact ⟨rfl, rfl⟩
/-- What stands up to the closing mark, and what is behind it. -/
def qB : List UInt8 → Option (List UInt8 × List UInt8)
  | [] => none
  | c :: r => if c = 34 then some ([], r) else if c = 92 then (match r with
    | [] => none
    | d :: r' => if d = 34 ∨ d = 92 then (qB r').map fun x => (d :: x.1, x.2) else none)
    else (qB r).map fun x => (c :: x.1, x.2)
def rdQ (l : List UInt8) : Option (List UInt8 × List UInt8) := (cutP [34] l).bind qB
def qF (out : List UInt8) (x : List UInt8 × List UInt8) : List UInt8 × List UInt8 := (out ++ x.1, x.2)
theorem qF_qF (a b : List UInt8) (x : List UInt8 × List UInt8) : qF a (qF b x) = qF (a ++ b) x := by simp [qF]
theorem q_nil : qB [] = none := rfl
theorem q_end (r : List UInt8) : qB (34 :: r) = some ([], r) := by rw [qB.eq_def]; simp
theorem q_esc0 : qB [92] = none := by rw [qB.eq_def]; simp
theorem q_escB {d : UInt8} (r : List UInt8) (h1 : d ≠ 34) (h2 : d ≠ 92) : qB (92 :: d :: r) = none := by rw [qB.eq_def]; simp [h1, h2]
theorem q_esc {d : UInt8} (r : List UInt8) (h : d = 34 ∨ d = 92) : qB (92 :: d :: r) = (qB r).map (qF [d]) := by rw [qB.eq_def]; simp [h]; rfl
theorem q_one {c : UInt8} (r : List UInt8) (h1 : c ≠ 34) (h2 : c ≠ 92) : qB (c :: r) = (qB r).map (qF [c]) := by rw [qB.eq_def]; simp [h1, h2]; rfl
theorem q_step {l0 l l' out o : List UInt8} (h : qB l0 = (qB l).map (qF out)) (hs : qB l = (qB l').map (qF o)) : qB l0 = (qB l').map (qF (out ++ o)) := by
  rw [h, hs, Option.map_map]
  congr 1
  funext x
  exact qF_qF out o x
theorem head_cons (t : ByteArray) (h : 0 < t.size) : t.data.toList = t[0] :: (t.extract 1 t.size).data.toList := by
  have h1 := head_at t h
  rw [extract_toList]
  cases hl : t.data.toList with
  | nil => rw [hl] at h1; cases h1
  | cons a r => rw [hl] at h1; rw [← Option.some.inj h1]; rfl
/-- What readQuoted answers, of the box's string. -/
def RQ (q : Nat) (l : List UInt8) (e : Ending) (w w' : World) : Prop := ButAt q w w' ∧ ∃ t' : ByteArray, QB q t' w' ∧ t'.size ≤ l.length ∧
  ((rdQ l = none ∧ e = .returned (.tuple #[.string ⟨#[]⟩, .bool false])) ∨ ∃ a r, rdQ l = some (a, r) ∧ e = .returned (.tuple #[.string ⟨a.toArray⟩, .bool true]) ∧ t'.data.toList = r ∧ a.length ≤ l.length)
def szB (q : Nat) (w : World) : Nat := match w.cell? ⟨q, 0, none⟩ with | some (.string s) => s.size | _ => 0
theorem QB.sz {q : Nat} {t : ByteArray} {w : World} (h : QB q t w) : szB q w = t.size := by unfold szB; rw [h.cell.1]
theorem q_fail {l0 l out : List UInt8} (h : qB l0 = (qB l).map (qF out)) (hn : qB l = none) : qB l0 = none := by rw [h, hn]; rfl
theorem lt_bld {B b : Nat} {l : List Value} {w : World} (h : Bld B b l w) : b < w.heap.size := bld_lt0 h
set_option maxRecDepth 100000 in
set_option maxHeartbeats 4000000 in
theorem readQuoted_any {q : Nat} {t : ByteArray} {w : World} (h : QB q t w) (ht : t.size ≤ 1000000) :
    Calls Tryd.prog 54 #[.pointer (some ⟨q, 0, none⟩)] w fun e w' => RQ q t.data.toList e w w' := by
  have hql := h.cell.2.2
  have htl : t.data.toList.length = t.size := by rw [Array.length_toList]; rfl
  have hbz : (World.alloc w (.cells #[.pointer none, .slice none 0 0] 61)).heap[w.heap.size]? = some (.cells #[.pointer none, .slice none 0 0] 61 (0, 0)) := heap_alloc_new w _
  obtain ⟨wa, hwa⟩ : ∃ wa, w.alloc (.cells #[.pointer none, .slice none 0 0] 61) = wa := ⟨_, rfl⟩
  rw [hwa] at hbz
  have hba : Below w.heap.size w wa := hwa ▸ (Below.refl _ _).alloc (Nat.le_refl _) _
  have HBA := hide hba
  have HQA := hide (h.below hba hql)
  obtain ⟨z, hz⟩ : ∃ z, w.heap.size = z := ⟨_, rfl⟩
  have HB0 := hide (show Bld z z (Lib.byteCells []) wa from .inl ⟨Nat.le_refl _, .slice none 0 0, hz ▸ hbz, World.ownsRow_nil _ _ _ _, by simp [Value.ownBlock]⟩)
  have HZ := hide hz
  have hqz : q < z := hz ▸ hql
  have HWA := hide hwa
  have HBU := hide (show ButAt q w wa from ButAt.of_below hba (Nat.le_of_lt hql))
  clear hbz hba
  cases hp : cutP [34] t.data.toList with
  | none =>
    have CT := hide (fun W (hq : QB q t W) => takeF hq ⟨#[34]⟩ hp)
    have E := hide (show rdQ t.data.toList = none by rw [rdQ, hp]; rfl)
    clear hp hz
    go_enter Tryd.func54, Tryd.ntmps54
    go_wp2_with (go_at_call 33; refine (CT.out wa HQA.out).mono ?_; rintro e w1 ⟨rfl, hh⟩; obtain rfl := hh.symm)
    refine bodyPost_ret (by simp [results, Tryd.results54, go_sem]; try rfl) rfl ?_
    exact ⟨HBU.out, t, HQA.out, Nat.le_of_eq htl.symm, .inl ⟨E.out, rfl⟩⟩
  | some l1 =>
    have CT := hide (fun W (hq : QB q t W) => takeT hq ⟨#[34]⟩ hp)
    have ER := hide (show rdQ t.data.toList = qB l1 by rw [rdQ, hp]; rfl)
    have hl1 : l1.length + 1 ≤ t.size := by
      unfold cutP at hp
      split at hp
      · rename_i h9
        have := (List.isPrefixOf_iff_prefix.1 h9).length_le
        rw [← Option.some.inj hp]
        simp at this ⊢
        omega
      · cases hp
    have HQ1 := hide (HQA.out.set (bs l1))
    have HBU1 := hide (HBU.out.setq (.string (bs l1)))
    have HBL1 := hide (bld_set HB0.out hqz (.string (bs l1)))
    clear hp hz
    go_enter Tryd.func54, Tryd.ntmps54
    go_wp2_with (go_at_call 33; refine (CT.out wa HQA.out).mono ?_; rintro e w1 ⟨rfl, hh⟩; obtain ⟨wb, hwb⟩ : ∃ wb, wa.setCell ⟨q, 0, none⟩ (.string (bs l1)) = wb := ⟨_, rfl⟩; rw [hwb] at HQ1 HBU1 HBL1; obtain rfl := (hh.trans hwb).symm; have HWB := hide hwb; clear hh hwb)
    (try rw [HZ.out])
    go_loopw [] (fun wr => ∃ (s : ByteArray) (out : List UInt8), QB q s wr ∧ Bld z z (Lib.byteCells out) wr ∧ ButAt q w wr ∧ qB l1 = (qB s.data.toList).map (qF out) ∧ out.length + s.size ≤ l1.length) (fun wr => szB q wr)
    case atStart => exact ⟨bs l1, [], HQ1.out, HBL1.out, HBU1.out, by rw [bs_list]; cases qB l1 <;> simp [qF], by simp [bs, ByteArray.size]⟩
    case round =>
      obtain ⟨s, out, hq, hb, hu, he, hl⟩ := hrel
      obtain ⟨c0, f0, hqw⟩ := hq.cell
      have HQ := hide hq
      have HBL := hide hb
      have HU := hide hu
      have HE := hide he
      have hzr : z ≤ wr.heap.size := Nat.le_trans (Nat.le_of_eq HZ.out.symm) hu.be.size
      have hm : s.size ≤ 1000000 := by omega
      clear hq hb hu he
      by_cases h0 : s.size = 0
      · have e1 : s.toList = [] := by rw [ByteArray.toList_eq]; exact List.eq_nil_of_length_eq_zero (by simpa using h0)
        have e2 : s.toList.isEmpty = true := by rw [e1]; rfl
        have E := hide (show rdQ t.data.toList = none by rw [ER.out]; exact q_fail HE.out (by rw [← ByteArray.toList_eq, e1]; rfl))
        go_wp2_with (fail)
        refine bodyPost_ret (by simp [results, Tryd.results54, go_sem]; try rfl) rfl ?_
        exact ⟨HU.out, s, HQ.out, by omega, .inl ⟨E.out, rfl⟩⟩
      · have hs0 : 0 < s.size := by omega
        have e1 : ¬ s.toList = [] := by rw [ByteArray.toList_eq]; exact ne_nil hs0
        have e2 : s.toList.isEmpty = false := by simpa using e1
        have HC := hide (head_cons s hs0)
        have hs1 : (s.extract 1 s.size).size = s.size - 1 := by simp
        obtain ⟨s1, hs1e⟩ : ∃ s1, s.extract 1 s.size = s1 := ⟨_, rfl⟩
        rw [hs1e] at HC hs1
        have HSZ1 := hide hs1
        clear hs1
        obtain ⟨w2, hw2⟩ : ∃ w2, wr.setCell ⟨q, 0, none⟩ (.string s1) = w2 := ⟨_, rfl⟩
        have HQ2 := hide (show QB q s1 w2 from hw2 ▸ HQ.out.set s1)
        have HU2 := hide (show ButAt q w w2 from hw2 ▸ HU.out.setq (.string s1))
        have HBL2 := hide (show Bld z z (Lib.byteCells out) w2 from hw2 ▸ bld_set HBL.out hqz (.string s1))
        obtain ⟨d0, g0, _⟩ := HQ2.out.cell
        have hz2 : z ≤ w2.heap.size := Nat.le_trans (Nat.le_of_eq HZ.out.symm) HU2.out.be.size
        by_cases h34 : s[0] = 34
        · have k1 : (s[0].toNat : Int) = 34 := by rw [h34]; rfl
          have HS := hide (Tryd.Builder_String_any z z out w2 HBL2.out hz2)
          have E := hide (show rdQ t.data.toList = some (out, s1.data.toList) by rw [ER.out, HE.out, HC.out, h34, q_end]; simp [qF])
          clear h34
          go_wp2_with (go_at_call 29; refine HS.out.mono ?_; rintro r w3 ⟨rfl, hw3⟩; have HB3 := hide hw3; clear hw3)
          refine bodyPost_ret (by simp [results, Tryd.results54, go_sem]; try rfl) rfl ?_
          exact ⟨HU2.out.up (by rw [HZ.out]; exact HB3.out) (by rw [HZ.out]; omega), s1, HQ2.out.below HB3.out hqz, by have := HSZ1.out; omega, .inr ⟨out, s1.data.toList, E.out, rfl, rfl, by omega⟩⟩
        · have k1 : ¬ (s[0].toNat : Int) = 34 := u8_ne (d := 34) h34
          by_cases h92 : s[0] = 92
          · have k2 : (s[0].toNat : Int) = 92 := by rw [h92]; rfl
            by_cases hz0 : s1.size = 0
            · have a1 : s1.toList = [] := by rw [ByteArray.toList_eq]; exact List.eq_nil_of_length_eq_zero (by simpa using hz0)
              have a2 : s1.toList.isEmpty = true := by rw [a1]; rfl
              have E := hide (show rdQ t.data.toList = none by rw [ER.out]; exact q_fail HE.out (by rw [HC.out, h92, ← ByteArray.toList_eq, a1]; exact q_esc0))
              clear h92
              go_wp2_with (fail)
              refine bodyPost_ret (by simp [results, Tryd.results54, go_sem]; try rfl) rfl ?_
              exact ⟨HU2.out, s1, HQ2.out, by have := HSZ1.out; omega, .inl ⟨E.out, rfl⟩⟩
            · have hp0 : 0 < s1.size := by omega
              have a1 : ¬ s1.toList = [] := by rw [ByteArray.toList_eq]; exact ne_nil hp0
              have a2 : s1.toList.isEmpty = false := by simpa using a1
              have HC2 := hide (head_cons s1 hp0)
              have hs2 : (s1.extract 1 s1.size).size = s1.size - 1 := by simp
              obtain ⟨s2, hs2e⟩ : ∃ s2, s1.extract 1 s1.size = s2 := ⟨_, rfl⟩
              rw [hs2e] at HC2 hs2
              have HSZ2 := hide hs2
              clear hs2
              obtain ⟨w3, hw3⟩ : ∃ w3, w2.setCell ⟨q, 0, none⟩ (.string s2) = w3 := ⟨_, rfl⟩
              have HQ3 := hide (show QB q s2 w3 from hw3 ▸ HQ2.out.set s2)
              have HU3 := hide (show ButAt q w w3 from hw3 ▸ HU2.out.setq (.string s2))
              have HBL3 := hide (show Bld z z (Lib.byteCells out) w3 from hw3 ▸ bld_set HBL2.out hqz (.string s2))
              have hz3 : z ≤ w3.heap.size := Nat.le_trans (Nat.le_of_eq HZ.out.symm) HU3.out.be.size
              by_cases hd : s1[0] = 34
              · have k3 : (s1[0].toNat : Int) = 34 := by rw [hd]; rfl
                have HS := hide (show Calls Tryd.prog 28 #[.pointer (some ⟨z, 0, none⟩), .int .u8 34] w3 _ from WriteByte_any z z (Lib.byteCells out) 34 w3 HBL3.out (by rw [byteCells_len]; omega) hz3)
                have HN := hide (q_step HE.out (by rw [HC.out, h92, HC2.out]; rw [hd]; exact q_esc _ (.inl rfl)))
                clear h92 hd
                go_wp2_with (go_at_call 28; refine HS.out.mono ?_; rintro r w4 ⟨rfl, hb4, hw4, _⟩; have HB4 := hide hw4; have HBL4 := hide hb4; clear hw4 hb4)
                go_roundw
                case rel => exact ⟨s2, out ++ [34], HQ3.out.below HB4.out hqz, by rw [← byteCells_app]; exact HBL4.out, HU3.out.up (by rw [HZ.out]; exact HB4.out) (by rw [HZ.out]; omega), HN.out, by have := HSZ1.out; have := HSZ2.out; simp; omega⟩
                case measure => rw [HQ.out.sz, (HQ3.out.below HB4.out hqz).sz]; have := HSZ1.out; have := HSZ2.out; omega
              · have k3 : ¬ (s1[0].toNat : Int) = 34 := u8_ne (d := 34) hd
                have k3b : ((s1[0].toNat : Int) == 34) = false := beq_eq_false_iff_ne.2 k3
                have hd34 := hide hd
                by_cases hd : s1[0] = 92
                · have k4 : (s1[0].toNat : Int) = 92 := by rw [hd]; rfl
                  have HS := hide (show Calls Tryd.prog 28 #[.pointer (some ⟨z, 0, none⟩), .int .u8 92] w3 _ from WriteByte_any z z (Lib.byteCells out) 92 w3 HBL3.out (by rw [byteCells_len]; omega) hz3)
                  have HN := hide (q_step HE.out (by rw [HC.out, h92, HC2.out]; rw [hd]; exact q_esc _ (.inr rfl)))
                  clear h92 hd
                  go_wp2_with (go_at_call 28; refine HS.out.mono ?_; rintro r w4 ⟨rfl, hb4, hw4, _⟩; have HB4 := hide hw4; have HBL4 := hide hb4; clear hw4 hb4)
                  go_roundw
                  case rel => exact ⟨s2, out ++ [92], HQ3.out.below HB4.out hqz, by rw [← byteCells_app]; exact HBL4.out, HU3.out.up (by rw [HZ.out]; exact HB4.out) (by rw [HZ.out]; omega), HN.out, by have := HSZ1.out; have := HSZ2.out; simp; omega⟩
                  case measure => rw [HQ.out.sz, (HQ3.out.below HB4.out hqz).sz]; have := HSZ1.out; have := HSZ2.out; omega
                · have k4 : ¬ (s1[0].toNat : Int) = 92 := u8_ne (d := 92) hd
                  have k4b : ((s1[0].toNat : Int) == 92) = false := beq_eq_false_iff_ne.2 k4
                  have k3c : ((s1[0].toNat : Int) != 34) = true := by simp [bne, k3b]
                  have k4c : ((s1[0].toNat : Int) != 92) = true := by simp [bne, k4b]
                  have E := hide (show rdQ t.data.toList = none by rw [ER.out]; exact q_fail HE.out (by rw [HC.out, h92, HC2.out]; exact q_escB _ hd34.out hd))
                  clear h92 hd
                  go_wp2_with (fail)
                  refine bodyPost_ret (by simp [results, Tryd.results54, go_sem]; try rfl) rfl ?_
                  exact ⟨HU2.out, s1, HQ2.out, by have := HSZ1.out; have := HSZ2.out; omega, .inl ⟨E.out, rfl⟩⟩
          · have k2 : ¬ (s[0].toNat : Int) = 92 := u8_ne (d := 92) h92
            have HS := hide (WriteByte_any z z (Lib.byteCells out) s[0] w2 HBL2.out (by rw [byteCells_len]; omega) hz2)
            have HN := hide (q_step HE.out (by rw [HC.out]; exact q_one _ h34 h92))
            clear h34 h92
            go_wp2_with (go_at_call 28; refine HS.out.mono ?_; rintro r w3 ⟨rfl, hb3, hw3, _⟩; have HB3 := hide hw3; have HBL3 := hide hb3; clear hw3 hb3)
            go_roundw
            case rel => exact ⟨s1, out ++ [s[0]], HQ2.out.below HB3.out hqz, by rw [← byteCells_app]; exact HBL3.out, HU2.out.up (by rw [HZ.out]; exact HB3.out) (by rw [HZ.out]; omega), HN.out, by have := HSZ1.out; simp; omega⟩
            case measure => rw [HQ.out.sz, (HQ2.out.below HB3.out hqz).sz]; have := HSZ1.out; omega
end Go.Proofs.YtomihkflhhhpjaaDoor
