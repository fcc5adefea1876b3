/- GtClT, GtIns, GtRts: texts of one's own, in one file. -/
import Derived.Test.YtkoijhecahebgaaDoorGtTls
import Derived.Test.YtkoijhecahebgaaDoorSlDrop
import Derived.Lib.SliceRun
import Derived.Test.YtkoijhecahebgaaDoorGtTal2
import Derived.Test.YtkoijhecahebgaaDoorRowSet
import Derived.Test.YtkoijhecahebgaaDoorRegChain
import Derived.Test.YtkoijhecahebgaaDoorKeepP
import Derived.Deep.Onto
/- slices.Clone of tallies. -/
namespace Go.Proofs.YtkoijhecahebgaaDoor
open Go.RowKit
set_option linter.unusedVariables false
set_option linter.unusedSimpArgs false
theorem tl_news {w : World} {B n : Nat} {ad : Addr} {l : List Tl} (h : Sl w B Tl.cs 4 (some ad) n l) : ∀ j u, (l.flatMap Tl.cs)[j]? = some u → w.cell? (ad.add j) = some u := by
  rcases Nat.eq_zero_or_pos n with h0 | h0
  · have : l = [] := List.eq_nil_of_length_eq_zero (by rw [h.len]; exact h0)
    subst this
    intro j u hu
    simp at hu
  · obtain ⟨b, o, e, _⟩ := h.cells h0
    obtain rfl := Option.some.inj e
    exact Sl.news (fun _ => rfl) h
theorem tl_one (l : List Tl) : ∀ u ∈ l.flatMap Tl.cs, u.oneCell' = true := by
  intro u hu
  obtain ⟨x, _, hx⟩ := List.mem_flatMap.1 hu
  simp [Tl.cs] at hx
  rcases hx with rfl | rfl | rfl | rfl <;> rfl
set_option maxRecDepth 100000 in
set_option maxHeartbeats 1000000 in
theorem CloneTl_any (A : Option Addr) (n c : Nat) (l : List Tl) (w : World) (hn : n ≤ 1000) (hl : Sl w w.heap.size Tl.cs 4 A n l) :
    Calls Tryd.prog 48 #[.slice A n c] w fun e w' => ∃ v, e = .returned v ∧ w'.ownsRow w.heap.size 50 4 v n (l.flatMap Tl.cs) ∧ Below w.heap.size w w' := by
  have HL := hide hl.len
  have q : ∀ (w : World) (a : Option Addr) (n c n' c' : Nat), (binOp .eql 39 (.slice a n c) (.slice none n' c')).run Tryd.prog w = .ok (.bool a.isNone) w := fun w a n c n' c' => Lib.run_eql_slice_nil w _ _ a n c n' c' Tryd.underlying39
  obtain ⟨i0, hi0, iz0, iz1, iz2⟩ := info_parts info_tally
  cases A with
  | none =>
    have h0 : n = 0 := by
      rcases Nat.eq_zero_or_pos n with h0 | h0
      · exact h0
      · obtain ⟨b, o, e, _⟩ := hl.cells h0; cases e
    subst h0
    obtain rfl : l = [] := List.eq_nil_of_length_eq_zero HL.out
    go_enter Tryd.func48, Tryd.ntmps48
    go_wp2_with (fail)
    go_ret
    exact ⟨_, rfl, World.ownsRow_nil _ _ _ _, Below.refl _ _⟩
  | some ad =>
    have hnew := hide (tl_news (Sl.up hl ((Below.refl _ _).alloc (Nat.le_refl _) (.cells #[] 50))))
    have hB : Below w.heap.size w (w.alloc (.cells #[] 50)) := (Below.refl _ _).alloc (Nat.le_refl _) _
    have HB := hide hB
    clear hB
    go_enter Tryd.func48, Tryd.ntmps48
    go_wp2_with (at_builtin; refine wpList_append_own _ rfl (.tmp 5) (.tmp 6) 39 rfl w.heap.size 50 i0 (.agg #[.string ByteArray.empty, .int .i64 0, .string ByteArray.empty, .int .i64 0]) 4 48 Tryd.underlying39 hi0 iz0 iz1 iz2 rfl (by decide) _ 0 _ (by rfl) (World.ownsRow_lit w #[] 0 (Nat.le_refl _) (Nat.zero_le _) rfl) ad n _ (l.flatMap Tl.cs) (by rfl) (by rw [flatMap_len (sz := 4) (fun _ => rfl), HL.out]) hnew.out (tl_one _) (by unfold maxLen; omega) (by omega) HB.out.size ?_; intro v' w5 hown5 hg5 _; have hB5 : Below w.heap.size w w5 := Below.grown HB.out hg5 HB.out.size (fun j hj => by simp [Value.ownBlock] at hj; omega); clear hg5)
    go_ret
    have hown6 : w5.ownsRow w.heap.size 50 4 v' n (l.flatMap Tl.cs) := by simpa using hown5
    exact ⟨v', rfl, hown6, hB5⟩
end Go.Proofs.YtkoijhecahebgaaDoor

/- Insertion, swap by swap, of tallies: plain law. -/
namespace Go.Proofs.YtkoijhecahebgaaDoor
set_option linter.unusedVariables false
set_option linter.unusedSimpArgs false
theorem cmpT_lt (a b : Tl) : cmpT a b < 0 ↔ Op.bytesLess a.key.toList b.key.toList = true ∨ (a.key.toList = b.key.toList ∧ (a.why < b.why ∨ (a.why = b.why ∧ Op.bytesLess a.name.toList b.name.toList = true))) := by
  have h1 := cmpS_lt a.key b.key
  have h2 := cmpS_lt a.name b.name
  have w1 := cmpI_lt a.why b.why
  have w2 := cmpI_gt a.why b.why
  unfold cmpT orI
  by_cases e : cmpS a.key b.key = 0
  · have e2 : a.key = b.key := cmpS_zero e
    rw [if_neg (by simp [e])]
    have hk : ¬ Op.bytesLess a.key.toList b.key.toList = true := fun h => by have := h1.2 h; omega
    by_cases f : Lib.compareInt a.why b.why = 0
    · rw [if_neg (by simp [f])]
      have f2 : a.why = b.why := by omega
      rw [h2]
      constructor
      · intro h; exact .inr ⟨by rw [e2], .inr ⟨f2, h⟩⟩
      · rintro (h | ⟨_, h | ⟨_, h⟩⟩)
        · exact absurd h hk
        · omega
        · exact h
    · rw [if_pos f]
      constructor
      · intro h; exact .inr ⟨by rw [e2], .inl (w1.1 h)⟩
      · rintro (h | ⟨_, h | ⟨h, _⟩⟩)
        · exact absurd h hk
        · exact w1.2 h
        · have : ¬ Lib.compareInt a.why b.why < 0 := fun h3 => by have := w1.1 h3; omega
          have : ¬ 0 < Lib.compareInt a.why b.why := fun h3 => by have := w2.1 h3; omega
          omega
  · rw [if_pos e, h1]
    constructor
    · exact .inl
    · rintro (h | ⟨h, _⟩)
      · exact h
      · exfalso
        apply e
        have e3 : a.key = b.key := by rw [ByteArray.toList_eq, ByteArray.toList_eq] at h; exact ByteArray.ext (Array.toList_inj.1 h)
        rw [e3]
        have := cmpS_lt b.key b.key
        have := cmpS_gt b.key b.key
        have h9 : ¬ Op.bytesLess b.key.toList b.key.toList = true := by rw [bl_irrefl]; decide
        by_cases h8 : cmpS b.key b.key < 0
        · exact absurd (this |> fun _ => (cmpS_lt b.key b.key).1 h8) h9
        · by_cases h7 : 0 < cmpS b.key b.key
          · exact absurd rfl ((cmpS_gt b.key b.key).1 h7).2
          · omega
/-- The list while x, which was at place i, is at place k. -/
def insM (S : List Tl) (x : Tl) (R : List Tl) (k : Nat) : List Tl := S.take k ++ x :: (S.drop k ++ R)
theorem insM_len (S : List Tl) (x : Tl) (R : List Tl) (k : Nat) : (insM S x R k).length = S.length + 1 + R.length := by
  simp only [insM, List.length_append, List.length_cons, List.length_take, List.length_drop]; omega
theorem insM_x {S : List Tl} {x : Tl} {R : List Tl} {k : Nat} (hk : k ≤ S.length) : (insM S x R k)[k]? = some x := by
  unfold insM
  rw [List.getElem?_append_right (by rw [List.length_take]; omega), List.length_take, Nat.min_eq_left hk, Nat.sub_self]; rfl
theorem insM_p {S : List Tl} {x a : Tl} {R : List Tl} {k : Nat} (h : S[k]? = some a) : (insM S x R (k + 1))[k]? = some a := by
  have hk := (List.getElem?_eq_some_iff.1 h).1
  unfold insM
  rw [List.getElem?_append_left (by rw [List.length_take]; omega), List.getElem?_take, if_pos (by omega)]
  exact h
theorem insM_swap {S : List Tl} {x a : Tl} {R : List Tl} {k : Nat} (h : S[k]? = some a) : ((insM S x R (k + 1)).set k x).set (k + 1) a = insM S x R k := by
  have hk := (List.getElem?_eq_some_iff.1 h).1
  have e : S.drop k = a :: S.drop (k + 1) := by
    rw [List.drop_eq_getElem_cons hk]
    rw [List.getElem?_eq_getElem hk] at h
    rw [Option.some.inj h]
  unfold insM
  rw [e, take_succ_get h, List.append_assoc]
  have hl : (S.take k).length = k := by rw [List.length_take]; omega
  rw [List.set_append_right _ _ (by rw [hl]; exact Nat.le_refl _), hl, Nat.sub_self, List.set_append_right _ _ (by rw [hl]; omega), hl]
  rw [show k + 1 - k = 1 by omega]
  rfl
def stM (l : List Tl) (i : Nat) : List Tl := srtT (l.take i) ++ l.drop i
theorem ins_all (l : List Tl) (i : Nat) (x : Tl) (h : l[i]? = some x) : stM l i = insM (srtT (l.take i)) x (l.drop (i + 1)) i := by
  have hi := (List.getElem?_eq_some_iff.1 h).1
  have hl : (srtT (l.take i)).length = i := by rw [(srtT_perm _).length_eq, List.length_take]; omega
  have e : l.drop i = x :: l.drop (i + 1) := by
    rw [List.drop_eq_getElem_cons hi]
    rw [List.getElem?_eq_getElem hi] at h
    rw [Option.some.inj h]
  unfold insM stM
  rw [e, List.take_of_length_le (Nat.le_of_eq hl), List.drop_of_length_le (Nat.le_of_eq hl)]; rfl
theorem ins_step {l : List Tl} {i k : Nat} {x a : Tl} (hnd : (l.map Tl.tag).Nodup) (hx : l[i]? = some x) (ha : (srtT (l.take i))[k]? = some a) (hn : ¬ cmpT a x < 0) (hge : ∀ y ∈ (srtT (l.take i)).drop (k + 1), cmpT x y < 0) :
    ∀ y ∈ (srtT (l.take i)).drop k, cmpT x y < 0 := by
  have hk := (List.getElem?_eq_some_iff.1 ha).1
  have e : (srtT (l.take i)).drop k = a :: (srtT (l.take i)).drop (k + 1) := by
    rw [List.drop_eq_getElem_cons hk]
    rw [List.getElem?_eq_getElem hk] at ha
    rw [Option.some.inj ha]
  rw [e]
  intro y hy
  rcases List.mem_cons.1 hy with rfl | hy
  · have hm : y ∈ l.take i := (srtT_perm _).mem_iff.1 (List.mem_of_getElem? ha)
    have hne : cmpT y x ≠ 0 := fun h0 => by
      have ht := cmpT_zero h0
      have h1 : y.tag ∈ (l.take i).map Tl.tag := List.mem_map.2 ⟨y, hm, rfl⟩
      have hi := (List.getElem?_eq_some_iff.1 hx).1
      have h2 : (l.map Tl.tag) = (l.take i).map Tl.tag ++ x.tag :: (l.drop (i + 1)).map Tl.tag := by
        have e2 : l = l.take i ++ x :: l.drop (i + 1) := by
          have e3 : l.drop i = x :: l.drop (i + 1) := by
            rw [List.drop_eq_getElem_cons hi]
            rw [List.getElem?_eq_getElem hi] at hx
            rw [Option.some.inj hx]
          rw [← e3, List.take_append_drop]
        conv => lhs; rw [e2]
        rw [List.map_append, List.map_cons]
      rw [h2, List.nodup_append] at hnd
      exact hnd.2.2 _ h1 _ List.mem_cons_self ht
    have h3 := cmpT_ord.anti x y
    omega
  · exact hge y hy
theorem ins_done {l : List Tl} {i k : Nat} {x : Tl} (hnd : (l.map Tl.tag).Nodup) (hx : l[i]? = some x) (hge : ∀ y ∈ (srtT (l.take i)).drop k, cmpT x y < 0) (hle : k = 0 ∨ ∃ a, (srtT (l.take i))[k - 1]? = some a ∧ cmpT a x < 0) :
    insM (srtT (l.take i)) x (l.drop (i + 1)) k = stM l (i + 1) := by
  obtain ⟨S, hS⟩ : ∃ S, srtT (l.take i) = S := ⟨_, rfl⟩
  have hsort := srtT_sorted (l.take i)
  have hperm := srtT_perm (l.take i)
  rw [hS] at hsort hperm hge hle ⊢
  have key : S.take k ++ x :: S.drop k = srtT (l.take (i + 1)) := by
    refine srtT_of ?_ ?_ ?_
    · rw [take_succ_get hx]
      have h1 : (S.take k ++ x :: S.drop k).Perm (x :: (S.take k ++ S.drop k)) := List.perm_middle
      rw [List.take_append_drop] at h1
      exact h1.trans ((List.Perm.cons x hperm).trans (List.perm_append_singleton x (l.take i)).symm)
    · exact hnd.sublist ((List.take_sublist _ _).map Tl.tag)
    · have hS2 := hsort
      rw [← List.take_append_drop k S, List.pairwise_append] at hS2
      refine List.pairwise_append.2 ⟨hS2.1, List.pairwise_cons.2 ⟨fun y hy => ?_, hS2.2.1⟩, fun a ha b hb => ?_⟩
      · have h3 := cmpT_ord.anti x y
        have h4 := hge y hy
        have h5 := cmpT_ord.anti y x
        omega
      · rcases List.mem_cons.1 hb with rfl | hb
        · rcases hle with rfl | ⟨c, hc, hlt⟩
          · simp at ha
          · have hac : cmpT a c ≤ 0 := by
              obtain ⟨j, hj⟩ := List.mem_iff_getElem?.1 ha
              rw [List.getElem?_take] at hj
              split at hj
              · rename_i hjk
                by_cases e : j = k - 1
                · subst e
                  rw [hc] at hj
                  obtain rfl := Option.some.inj hj
                  have := cmpT_ord.anti c c
                  omega
                · have hp := List.pairwise_iff_getElem.1 hsort j (k - 1) (List.getElem?_eq_some_iff.1 hj).1 (List.getElem?_eq_some_iff.1 hc).1 (by omega)
                  rw [(List.getElem?_eq_some_iff.1 hj).2, (List.getElem?_eq_some_iff.1 hc).2] at hp
                  have := cmpT_ord.anti c a
                  have := cmpT_ord.anti a c
                  omega
              · cases hj
            have h6 : cmpT a b < 0 := by
              have h7 := cmpT_ord.le a c b hac (by omega)
              rcases Int.lt_or_le (cmpT a b) 0 with h8 | h8
              · exact h8
              · exfalso
                have h9 : cmpT b a ≤ 0 := by
                  have := cmpT_ord.anti a b
                  have := cmpT_ord.anti b a
                  omega
                have := cmpT_ord.lt hlt h9
                have := cmpT_ord.anti c a
                omega
            have := cmpT_ord.anti a b
            have := cmpT_ord.anti b a
            omega
        · exact hS2.2.2 a ha b hb
  unfold insM stM
  rw [← key, List.append_assoc]; rfl
end Go.Proofs.YtkoijhecahebgaaDoor

/- The reference's Tallies: insertion. -/
namespace Go.Proofs.YtkoijhecahebgaaDoor
open Go.RowKit
set_option linter.unusedVariables false
set_option linter.unusedSimpArgs false
theorem fm_setT (M : List Tl) (k : Nat) (x y : Tl) (hx : M[k]? = some x) : (M.set k y).flatMap Tl.cs = (((((M.flatMap Tl.cs).set (k * 4) (.string y.key)).set (k * 4 + 1) (.int .i64 y.why)).set (k * 4 + 2) (.string y.name)).set (k * 4 + 3) (.int .i64 y.many)) := by
  have hlt := (List.getElem?_eq_some_iff.1 hx).1
  have hl : ∀ a : Tl, (Tl.cs a).length = 4 := fun _ => rfl
  have e1 := fm_set (f := Tl.cs) hl M k 0 x ⟨y.key, x.why, x.name, x.many⟩ (.string y.key) (by decide) hx rfl
  have e2 := fm_set (f := Tl.cs) hl (M.set k ⟨y.key, x.why, x.name, x.many⟩) k 1 ⟨y.key, x.why, x.name, x.many⟩ ⟨y.key, y.why, x.name, x.many⟩ (.int .i64 y.why) (by decide) (List.getElem?_set_self hlt) rfl
  have e3 := fm_set (f := Tl.cs) hl ((M.set k ⟨y.key, x.why, x.name, x.many⟩).set k ⟨y.key, y.why, x.name, x.many⟩) k 2 ⟨y.key, y.why, x.name, x.many⟩ ⟨y.key, y.why, y.name, x.many⟩ (.string y.name) (by decide) (List.getElem?_set_self (by rw [List.length_set]; exact hlt)) rfl
  have e4 := fm_set (f := Tl.cs) hl (((M.set k ⟨y.key, x.why, x.name, x.many⟩).set k ⟨y.key, y.why, x.name, x.many⟩).set k ⟨y.key, y.why, y.name, x.many⟩) k 3 ⟨y.key, y.why, y.name, x.many⟩ y (.int .i64 y.many) (by decide) (List.getElem?_set_self (by rw [List.length_set, List.length_set]; exact hlt)) rfl
  rw [e3, e2, e1, List.set_set, List.set_set, List.set_set, Nat.add_zero] at e4
  exact e4
theorem own_setT {w : World} {B g n cap : Nat} {M : List Tl} (h : w.ownsRow B 50 4 (.slice (some ⟨g, 0, none⟩) n cap) n (M.flatMap Tl.cs)) (k : Nat) (x y : Tl) (hx : M[k]? = some x) :
    ((((w.setCell ⟨g, k * 4, none⟩ (.string y.key)).setCell ⟨g, k * 4 + 1, none⟩ (.int .i64 y.why)).setCell ⟨g, k * 4 + 2, none⟩ (.string y.name)).setCell ⟨g, k * 4 + 3, none⟩ (.int .i64 y.many)).ownsRow B 50 4 (.slice (some ⟨g, 0, none⟩) n cap) n ((M.set k y).flatMap Tl.cs) := by
  rw [fm_setT M k x y hx]
  exact own_set (own_set (own_set (own_set h _ _) _ _) _ _) _ _
theorem tl_cells {w : World} {B g n cap : Nat} {M : List Tl} (h : w.ownsRow B 50 4 (.slice (some ⟨g, 0, none⟩) n cap) n (M.flatMap Tl.cs)) {k : Nat} {x : Tl} (hx : M[k]? = some x) :
    w.cell? ⟨g, k * 4, none⟩ = some (.string x.key) ∧ w.cell? ⟨g, k * 4 + 1, none⟩ = some (.int .i64 x.why) ∧ w.cell? ⟨g, k * 4 + 2, none⟩ = some (.string x.name) ∧ w.cell? ⟨g, k * 4 + 3, none⟩ = some (.int .i64 x.many) := by
  have hgc : ∀ r u, x.cs[r]? = some u → w.cell? ⟨g, k * 4 + r, none⟩ = some u := fun r u hu => own_cell h (k * 4 + r) u (by
    have hr4 : r < 4 := by have := (List.getElem?_eq_some_iff.1 hu).1; simpa [Tl.cs] using this
    rw [fm_get (f := Tl.cs) (sz := 4) (fun _ => rfl) M k r hr4, hx]; exact hu)
  exact ⟨by simpa using hgc 0 _ rfl, hgc 1 _ rfl, hgc 2 _ rfl, hgc 3 _ rfl⟩
set_option maxRecDepth 100000 in
set_option maxHeartbeats 16000000 in
theorem TalliesR_any (p : Nat) (A : Option Addr) (tc B : Nat) (l : List Tl) (w : World) (h4 : w.cell? ⟨p, 4, none⟩ = some (.slice A l.length tc)) (hown : w.ownsRow B 50 4 (.slice A l.length tc) l.length (l.flatMap Tl.cs)) (hnd : (l.map Tl.tag).Nodup) (hn : l.length ≤ 1000) :
    Calls Tryd.prog 19 #[.pointer (some ⟨p, 0, none⟩)] w fun e w' => ∃ v, e = .returned v ∧ w'.ownsRow w.heap.size 50 4 v l.length ((srtT l).flatMap Tl.cs) ∧ Below w.heap.size w w' := by
  have hsl : Sl w w.heap.size Tl.cs 4 A l.length l := by
    obtain ⟨A', c, e, hs, _⟩ := sl_of_own (f := Tl.cs) (fun _ => rfl) rfl hown
    cases e
    exact hs
  have HC := hide (CloneTl_any A l.length tc l w hn hsl)
  have HND := hide hnd
  clear hown hsl hnd
  go_enter Tryd.func19, Tryd.ntmps19
  go_wp2_with (first | (go_at_call 48; refine HC.out.mono ?_; rintro e w1 ⟨v, rfl, hown, hw1⟩; obtain ⟨oA, oc, rfl⟩ := own_sl hown; have HO := hide hown; have HW1 := hide hw1; clear hown hw1 HC))
  go_loopw [15] (fun i wr => ∃ i' : Nat, i = .int .i64 (i' : Int) ∧ i' ≤ l.length ∧ wr.ownsRow w.heap.size 50 4 (.slice oA l.length oc) l.length ((stM l i').flatMap Tl.cs) ∧ Below w.heap.size w wr) (fun i _ => l.length - (intOf i).toNat)
  case atStart => exact ⟨0, rfl, Nat.zero_le _, by have h : stM l 0 = l := (by simp [stM, srtT]); rw [h]; exact HO.out, HW1.out⟩
  case round =>
    obtain ⟨i, rfl, hi, hrow, hB⟩ := hrel
    by_cases hlt : i < l.length
    · have hki : (i : Int) < (l.length : Int) := by omega
      obtain ⟨x, hx⟩ : ∃ x, l[i]? = some x := ⟨_, List.getElem?_eq_getElem hlt⟩
      rw [ins_all l i x hx] at hrow
      have hSl : (srtT (l.take i)).length = i := by rw [(srtT_perm _).length_eq, List.length_take]; omega
      have HROW := hide hrow
      have HB := hide hB
      have HX := hide hx
      clear hrow hB hx
      go_wp2_with (fail)
      go_loopw [5] (fun tk wr => ∃ k : Nat, tk = .int .i64 (k : Int) ∧ k ≤ i ∧ wr.ownsRow w.heap.size 50 4 (.slice oA l.length oc) l.length ((insM (srtT (l.take i)) x (l.drop (i + 1)) k).flatMap Tl.cs) ∧ (∀ y ∈ (srtT (l.take i)).drop k, cmpT x y < 0) ∧ Below w.heap.size w wr) (fun tk _ => (intOf tk).toNat)
      case atStart => exact ⟨i, rfl, Nat.le_refl _, HROW.out, fun y hy => (by rw [List.drop_of_length_le (by omega)] at hy; cases hy), HB.out⟩
      case round =>
        obtain ⟨k, rfl, hk, hrow, hge, hB⟩ := hrel
        have HROW2 := hide hrow
        have HGE := hide hge
        have HB2 := hide hB
        have hzr := hB.size
        cases k with
        | zero =>
          have HD := hide (ins_done HND.out HX.out hge (.inl rfl))
          clear hrow hge hB
          go_wp2_with (fail)
          go_roundw
          case rel => exact ⟨i + 1, by go_num, by omega, by rw [← HD.out]; exact HROW2.out, HB2.out⟩
          case measure => simp [intOf]; omega
        | succ k =>
          have hwk : IntKind.i64.wrap (k : Int) = (k : Int) := by rw [IntKind.wrap_i64]; omega
          have hk0 : (0 : Int) ≤ (k : Int) + 1 := by omega
          have hkk : (0 : Int) < (k : Int) + 1 := by omega
          have hkl : (k : Int) + 1 < (l.length : Int) := by omega
          have hkl2 : (k : Int) < (l.length : Int) := by omega
          obtain ⟨a, ha⟩ : ∃ a, (srtT (l.take i))[k]? = some a := ⟨_, List.getElem?_eq_getElem (by omega)⟩
          obtain ⟨g, cp, cur, ev, hgB, _⟩ := own_blk hrow (by omega)
          simp at ev
          obtain ⟨rfl, rfl⟩ := ev
          have hgl := (hrow.lt g rfl).2
          have HMP := hide (insM_p (x := x) (R := l.drop (i + 1)) ha)
          have HMX := hide (insM_x (S := srtT (l.take i)) (x := x) (R := l.drop (i + 1)) (k := k + 1) (by omega))
          have HSW := hide (insM_swap (x := x) (R := l.drop (i + 1)) ha)
          have HST := hide (fun hn => ins_step HND.out HX.out ha hn hge)
          have HDN := hide (fun hlt => ins_done (k := k + 1) HND.out HX.out hge (.inr ⟨a, ha, hlt⟩))
          have HSS := hide (show ∀ W', Below wr.heap.size wr W' → (fun W' => (W'.cell? ⟨g, k * 4, none⟩ = some (.string a.key) ∧ W'.cell? ⟨g, k * 4 + 1, none⟩ = some (.int .i64 a.why) ∧ W'.cell? ⟨g, k * 4 + 2, none⟩ = some (.string a.name) ∧ W'.cell? ⟨g, k * 4 + 3, none⟩ = some (.int .i64 a.many)) ∧ (W'.cell? ⟨g, (k + 1) * 4, none⟩ = some (.string x.key) ∧ W'.cell? ⟨g, (k + 1) * 4 + 1, none⟩ = some (.int .i64 x.why) ∧ W'.cell? ⟨g, (k + 1) * 4 + 2, none⟩ = some (.string x.name) ∧ W'.cell? ⟨g, (k + 1) * 4 + 3, none⟩ = some (.int .i64 x.many))) W' from fun W' hb => ⟨tl_cells (own_below hrow hb) HMP.out, tl_cells (own_below hrow hb) HMX.out⟩)
          have HLT := hide (cmpT_lt a x)
          clear hrow hge hB ha
          go_wp2_with (fail)
          refine wp_region_chain (fun W' => (W'.cell? ⟨g, k * 4, none⟩ = some (.string a.key) ∧ W'.cell? ⟨g, k * 4 + 1, none⟩ = some (.int .i64 a.why) ∧ W'.cell? ⟨g, k * 4 + 2, none⟩ = some (.string a.name) ∧ W'.cell? ⟨g, k * 4 + 3, none⟩ = some (.int .i64 a.many)) ∧ (W'.cell? ⟨g, (k + 1) * 4, none⟩ = some (.string x.key) ∧ W'.cell? ⟨g, (k + 1) * 4 + 1, none⟩ = some (.int .i64 x.why) ∧ W'.cell? ⟨g, (k + 1) * 4 + 2, none⟩ = some (.string x.name) ∧ W'.cell? ⟨g, (k + 1) * 4 + 3, none⟩ = some (.int .i64 x.many))) 12 (by as_aux_lemma => kernel_rfl) (N := 13) (by as_aux_lemma => kernel_rfl) ?_; intro hsh
          have HS := HSS.out wr.drew (below_drewN (Below.refl _ _) 1)
          refine wpAnyC_take0 (i := 0) (k := 12) (v := ?_) (d := some 23) rfl (by rfl) (by as_aux_lemma => kernel_rfl) (by as_aux_lemma => kernel_rfl) (by as_aux_lemma => kernel_rfl) hsh (by decide) (by intro _ _ _ h; exact h) (by assumption) (Or.inl ⟨by rfl, ?hy⟩) ?_; (case hy => (intro W _; go_simp; (try with_reducible rfl))); clear hsh; intro hsh
          refine wpAnyC_take0 (i := 1) (k := 12) (v := ?_) (d := some 24) rfl (by rfl) (by as_aux_lemma => kernel_rfl) (by as_aux_lemma => kernel_rfl) (by as_aux_lemma => kernel_rfl) hsh (by decide) (by intro _ _ _ h; exact h) (by assumption) (Or.inl ⟨by rfl, ?hy⟩) ?_; (case hy => (intro W _; go_simp; (try with_reducible rfl))); clear hsh; intro hsh
          refine wpAnyC_take0 (i := 2) (k := 12) (v := ?_) (d := some 25) rfl (by rfl) (by as_aux_lemma => kernel_rfl) (by as_aux_lemma => kernel_rfl) (by as_aux_lemma => kernel_rfl) hsh (by decide) (by intro _ _ _ h; exact h) (by assumption) (Or.inl ⟨by rfl, ?hy⟩) ?_; (case hy => (intro W _; go_simp; (try with_reducible rfl))); clear hsh; intro hsh
          refine wpAnyC_take0 (i := 3) (k := 12) (v := ?_) (d := some 26) rfl (by rfl) (by as_aux_lemma => kernel_rfl) (by as_aux_lemma => kernel_rfl) (by as_aux_lemma => kernel_rfl) hsh (by decide) (by intro _ _ _ h; exact h) (by assumption) (Or.inl ⟨by rfl, ?hy⟩) ?_; (case hy => (intro W _; go_simp; (try with_reducible rfl))); clear hsh; intro hsh
          refine wpAnyC_take (i := 4) (k := 12) (f := 40) (v := ?_) (d := some 27) rfl (by rfl) (by as_aux_lemma => kernel_rfl) (by as_aux_lemma => kernel_rfl) (by as_aux_lemma => kernel_rfl) hsh (by decide) (by as_aux_lemma => kernel_rfl) (by intro _ _ _ h; exact h) (by assumption) (Or.inl ⟨by rfl, ?hy⟩) ?_; (case hy => (rintro W ⟨⟨a0, a1, a2, a3⟩, y0, y1, y2, y3⟩; go_simp; (try with_reducible rfl))); clear hsh; intro hsh
          refine wpAnyC_take0 (i := 5) (k := 12) (v := ?_) (d := some 28) rfl (by rfl) (by as_aux_lemma => kernel_rfl) (by as_aux_lemma => kernel_rfl) (by as_aux_lemma => kernel_rfl) hsh (by decide) (by intro _ _ _ h; exact h) (by assumption) (Or.inl ⟨by rfl, ?hy⟩) ?_; (case hy => (intro W _; go_simp; (try with_reducible rfl))); clear hsh; intro hsh
          refine wpAnyC_take0 (i := 6) (k := 12) (v := ?_) (d := some 29) rfl (by rfl) (by as_aux_lemma => kernel_rfl) (by as_aux_lemma => kernel_rfl) (by as_aux_lemma => kernel_rfl) hsh (by decide) (by intro _ _ _ h; exact h) (by assumption) (Or.inl ⟨by rfl, ?hy⟩) ?_; (case hy => (intro W _; go_simp; (try with_reducible rfl))); clear hsh; intro hsh
          refine wpAnyC_take0 (i := 7) (k := 12) (v := ?_) (d := some 30) rfl (by rfl) (by as_aux_lemma => kernel_rfl) (by as_aux_lemma => kernel_rfl) (by as_aux_lemma => kernel_rfl) hsh (by decide) (by intro _ _ _ h; exact h) (by assumption) (Or.inl ⟨by rfl, ?hy⟩) ?_; (case hy => (intro W _; go_simp; (try with_reducible rfl))); clear hsh; intro hsh
          refine wpAnyC_take (i := 8) (k := 12) (f := 40) (v := ?_) (d := some 31) rfl (by rfl) (by as_aux_lemma => kernel_rfl) (by as_aux_lemma => kernel_rfl) (by as_aux_lemma => kernel_rfl) hsh (by decide) (by as_aux_lemma => kernel_rfl) (by intro _ _ _ h; exact h) (by assumption) (Or.inl ⟨by rfl, ?hy⟩) ?_; (case hy => (rintro W ⟨⟨a0, a1, a2, a3⟩, y0, y1, y2, y3⟩; go_simp; (try with_reducible rfl))); clear hsh; intro hsh
          refine wpAnyC_ready (rs := [9, 10]) (by as_aux_lemma => kernel_rfl) (by simp) ?_
          refine AllC.cons (i := 9) rfl (by as_aux_lemma => kernel_rfl) hsh (fun K hK => ?_) (AllC.cons (i := 10) rfl (by as_aux_lemma => kernel_rfl) hsh (fun K hK => ?_) AllC.nil)
          · go_simp
            refine hK _ _ (fun _ => HSS.out _ ((below_drewN (Below.refl _ _) 1).alloc (Nat.le_refl _) _)) ?_
            clear hK K hsh HS
            intro hsh
            refine wpAnyC_ready (rs := [10]) (by as_aux_lemma => kernel_rfl) (by simp) ?_; refine AllC.cons (i := 10) rfl (by as_aux_lemma => kernel_rfl) hsh (fun K hK => ?_) AllC.nil
            go_simp
            refine hK _ _ (fun _ => HSS.out _ (((below_drewN (Below.refl _ _) 1).alloc (Nat.le_refl _) _).alloc (by simp) _)) ?_
            clear hK K hsh
            intro hsh
            refine wpAnyC_ready (rs := [11]) (by as_aux_lemma => kernel_rfl) (by simp) ?_; refine AllC.cons (i := 11) rfl (by as_aux_lemma => kernel_rfl) hsh (fun K hK => ?_) AllC.nil
            go_simp
            refine hK _ _ (fun _ => HSS.out _ (below_drewN (((Below.refl _ _).alloc (Nat.le_refl _) _).alloc (by simp) _) 1)) ?_
            clear hK K hsh
            intro hsh
            refine wpAnyC_ready (rs := [12]) (by as_aux_lemma => kernel_rfl) (by simp) ?_; refine AllC.cons (i := 12) rfl (by as_aux_lemma => kernel_rfl) hsh (fun K hK => ?_) AllC.nil
            go_simp
            refine hK _ _ (fun _ => HSS.out _ (below_drewN (((Below.refl _ _).alloc (Nat.le_refl _) _).alloc (by simp) _) 1)) ?_
            clear hK K hsh
            intro hsh
            refine wpAnyC_done (by as_aux_lemma => kernel_rfl) ?_; clear hsh
            obtain ⟨w9, hw9, hb9, n1, n2⟩ : ∃ w9, ((wr.alloc (.cells #[.string a.key, .int .i64 a.why, .string a.name, .int .i64 a.many] 50)).alloc (.cells #[.string x.key, .int .i64 x.why, .string x.name, .int .i64 x.many] 50)).drew = w9 ∧ Below wr.heap.size wr w9 ∧ w9.heap[wr.heap.size]? = some (.cells #[.string a.key, .int .i64 a.why, .string a.name, .int .i64 a.many] 50 (0, 0)) ∧ w9.heap[wr.heap.size + 1]? = some (.cells #[.string x.key, .int .i64 x.why, .string x.name, .int .i64 x.many] 50 (0, 0)) :=
              ⟨_, rfl, below_drewN (((Below.refl _ _).alloc (Nat.le_refl _) _).alloc (by simp) _) 1, block_below (heap_alloc_new wr (.cells #[.string a.key, .int .i64 a.why, .string a.name, .int .i64 a.many] 50)) (below_drewN ((Below.refl _ _).alloc (Nat.le_refl _) (.cells #[.string x.key, .int .i64 x.why, .string x.name, .int .i64 x.many] 50)) 1), by
                have h := heap_alloc_new (wr.alloc (.cells #[.string a.key, .int .i64 a.why, .string a.name, .int .i64 a.many] 50)) (.cells #[.string x.key, .int .i64 x.why, .string x.name, .int .i64 x.many] 50)
                rw [World.size_alloc] at h; exact h⟩
            rw [hw9]
            have x0 : w9.cell? ⟨wr.heap.size, 0, none⟩ = some (.string a.key) := (block_cell n1 0).trans rfl
            have x1 : w9.cell? ⟨wr.heap.size, 1, none⟩ = some (.int .i64 a.why) := (block_cell n1 1).trans rfl
            have x2 : w9.cell? ⟨wr.heap.size, 2, none⟩ = some (.string a.name) := (block_cell n1 2).trans rfl
            have x3 : w9.cell? ⟨wr.heap.size, 3, none⟩ = some (.int .i64 a.many) := (block_cell n1 3).trans rfl
            have y0 : w9.cell? ⟨wr.heap.size + 1, 0, none⟩ = some (.string x.key) := (block_cell n2 0).trans rfl
            have y1 : w9.cell? ⟨wr.heap.size + 1, 1, none⟩ = some (.int .i64 x.why) := (block_cell n2 1).trans rfl
            have y2 : w9.cell? ⟨wr.heap.size + 1, 2, none⟩ = some (.string x.name) := (block_cell n2 2).trans rfl
            have y3 : w9.cell? ⟨wr.heap.size + 1, 3, none⟩ = some (.int .i64 x.many) := (block_cell n2 3).trans rfl
            have HR9 := hide (own_below HROW2.out hb9)
            have HB9 := hide (HB2.out.trans (hb9.mono hzr))
            obtain ⟨g0, g1, g2, g3⟩ := tl_cells HR9.out HMP.out
            obtain ⟨i0, i1, i2, i3⟩ := tl_cells HR9.out HMX.out
            have fz := fun j => own_free HR9.out j
            have z0 := fz (k * 4)
            have z1 := fz (k * 4 + 1)
            have z2 := fz (k * 4 + 2)
            have z3 := fz (k * 4 + 3)
            have v0 := fz ((k + 1) * 4)
            have v1 := fz ((k + 1) * 4 + 1)
            have v2 := fz ((k + 1) * 4 + 2)
            have v3 := fz ((k + 1) * 4 + 3)
            have hne1 : wr.heap.size ≠ g := by omega
            have hne2 : wr.heap.size + 1 ≠ g := by omega
            obtain ⟨w8, hw8, ho8, hB8, n81, n82⟩ : ∃ w8, (((w9.setCell ⟨g, k * 4, none⟩ (.string x.key)).setCell ⟨g, k * 4 + 1, none⟩ (.int .i64 x.why)).setCell ⟨g, k * 4 + 2, none⟩ (.string x.name)).setCell ⟨g, k * 4 + 3, none⟩ (.int .i64 x.many) = w8 ∧ w8.ownsRow w.heap.size 50 4 (.slice (some ⟨g, 0, none⟩) l.length oc) l.length (((insM (srtT (l.take i)) x (l.drop (i + 1)) (k + 1)).set k x).flatMap Tl.cs) ∧ Below w.heap.size w w8 ∧ w8.heap[wr.heap.size]? = some (.cells #[.string a.key, .int .i64 a.why, .string a.name, .int .i64 a.many] 50 (0, 0)) ∧ w8.heap[wr.heap.size + 1]? = some (.cells #[.string x.key, .int .i64 x.why, .string x.name, .int .i64 x.many] 50 (0, 0)) :=
              ⟨_, rfl, own_setT HR9.out k a x HMP.out, below_set (below_set (below_set (below_set HB9.out hgB _) hgB _) hgB _) hgB _, block_set_other (block_set_other (block_set_other (block_set_other n1 _ _ hne1) _ _ hne1) _ _ hne1) _ _ hne1, block_set_other (block_set_other (block_set_other (block_set_other n2 _ _ hne2) _ _ hne2) _ _ hne2) _ _ hne2⟩
            have hxk : ((insM (srtT (l.take i)) x (l.drop (i + 1)) (k + 1)).set k x)[k + 1]? = some x := by rw [List.getElem?_set_ne (by omega)]; exact HMX.out
            obtain ⟨t0, t1, t2, t3⟩ := tl_cells ho8 hxk
            have fz8 := fun j => own_free ho8 j
            have r0 := fz8 ((k + 1) * 4)
            have r1 := fz8 ((k + 1) * 4 + 1)
            have r2 := fz8 ((k + 1) * 4 + 2)
            have r3 := fz8 ((k + 1) * 4 + 3)
            have o2 := own_setT ho8 (k + 1) x a hxk
            rw [HSW.out] at o2
            have HRS := hide o2
            have HBS := hide (below_set (i := (k + 1) * 4 + 3) (below_set (i := (k + 1) * 4 + 2) (below_set (i := (k + 1) * 4 + 1) (below_set (b := g) (i := (k + 1) * 4) hB8 hgB (.string a.key)) hgB (.int .i64 a.why)) hgB (.string a.name)) hgB (.int .i64 a.many))
            have HN1 := hide n81
            have HN2 := hide n82
            have HW8 := hide hw8
            clear hw9 hb9 n1 n2 fz fz8 o2 hxk n81 n82 ho8 hB8 hw8
            by_cases c1 : Op.bytesLess a.key.toList x.key.toList = true
            · have hlt9 : cmpT a x < 0 := HLT.out.2 (.inl c1)
              have HD := hide (HDN.out hlt9)
              clear hlt9
              go_wp2_with (fail)
              go_roundw
              case rel => exact ⟨i + 1, by go_num, by omega, by rw [← HD.out]; exact HR9.out, HB9.out⟩
              case measure => simp [intOf]; omega
            · have m1 : Op.bytesLess a.key.toList x.key.toList = false := by simpa using c1
              by_cases c2 : a.key.toList = x.key.toList
              · have m2 : (a.key.toList == x.key.toList) = true := by simpa using c2
                have c2' := hide c2
                by_cases c3 : a.why < x.why
                · clear c2
                  have hlt9 : cmpT a x < 0 := HLT.out.2 (.inr ⟨c2'.out, .inl c3⟩)
                  have HD := hide (HDN.out hlt9)
                  clear hlt9
                  go_wp2_with (fail)
                  go_roundw
                  case rel => exact ⟨i + 1, by go_num, by omega, by rw [← HD.out]; exact HR9.out, HB9.out⟩
                  case measure => simp [intOf]; omega
                · by_cases c4 : a.why = x.why
                  · have c4' := hide c4
                    by_cases c5 : Op.bytesLess a.name.toList x.name.toList = true
                    · clear c2
                      have hlt9 : cmpT a x < 0 := HLT.out.2 (.inr ⟨c2'.out, .inr ⟨c4'.out, c5⟩⟩)
                      have HD := hide (HDN.out hlt9)
                      clear hlt9
                      go_wp2_with (fail)
                      go_roundw
                      case rel => exact ⟨i + 1, by go_num, by omega, by rw [← HD.out]; exact HR9.out, HB9.out⟩
                      case measure => simp [intOf]; omega
                    · have m5 : Op.bytesLess a.name.toList x.name.toList = false := by simpa using c5
                      clear c2
                      have hn9 : ¬ cmpT a x < 0 := fun h9 => by
                        have h8 := HLT.out.1 h9
                        rcases h8 with h8 | ⟨_, h8 | ⟨_, h8⟩⟩
                        · exact c1 h8
                        · exact c3 h8
                        · exact c5 h8
                      go_wp2_with (fail)
                      refine wp_region_chain (fun W' => (W'.cell? ⟨wr.heap.size, 0, none⟩ = some (.string a.key) ∧ W'.cell? ⟨wr.heap.size, 1, none⟩ = some (.int .i64 a.why) ∧ W'.cell? ⟨wr.heap.size, 2, none⟩ = some (.string a.name) ∧ W'.cell? ⟨wr.heap.size, 3, none⟩ = some (.int .i64 a.many)) ∧ (W'.cell? ⟨wr.heap.size + 1, 0, none⟩ = some (.string x.key) ∧ W'.cell? ⟨wr.heap.size + 1, 1, none⟩ = some (.int .i64 x.why) ∧ W'.cell? ⟨wr.heap.size + 1, 2, none⟩ = some (.string x.name) ∧ W'.cell? ⟨wr.heap.size + 1, 3, none⟩ = some (.int .i64 x.many))) 10 (by as_aux_lemma => kernel_rfl) (N := 11) (by as_aux_lemma => kernel_rfl) ?_; intro hsh
                      have HS : (fun W' => (W'.cell? ⟨wr.heap.size, 0, none⟩ = some (.string a.key) ∧ W'.cell? ⟨wr.heap.size, 1, none⟩ = some (.int .i64 a.why) ∧ W'.cell? ⟨wr.heap.size, 2, none⟩ = some (.string a.name) ∧ W'.cell? ⟨wr.heap.size, 3, none⟩ = some (.int .i64 a.many)) ∧ (W'.cell? ⟨wr.heap.size + 1, 0, none⟩ = some (.string x.key) ∧ W'.cell? ⟨wr.heap.size + 1, 1, none⟩ = some (.int .i64 x.why) ∧ W'.cell? ⟨wr.heap.size + 1, 2, none⟩ = some (.string x.name) ∧ W'.cell? ⟨wr.heap.size + 1, 3, none⟩ = some (.int .i64 x.many))) w9.drew := ⟨⟨x0, x1, x2, x3⟩, y0, y1, y2, y3⟩
                      refine wpAnyC_take0 (i := 0) (k := 10) (v := ?_) (d := some 65) rfl (by rfl) (by as_aux_lemma => kernel_rfl) (by as_aux_lemma => kernel_rfl) (by as_aux_lemma => kernel_rfl) hsh (by decide) (by intro _ _ _ h; exact h) (by assumption) (Or.inl ⟨by rfl, ?hy⟩) ?_; (case hy => (intro W _; go_simp; (try with_reducible rfl))); clear hsh; intro hsh
                      refine wpAnyC_take0 (i := 1) (k := 10) (v := ?_) (d := some 66) rfl (by rfl) (by as_aux_lemma => kernel_rfl) (by as_aux_lemma => kernel_rfl) (by as_aux_lemma => kernel_rfl) hsh (by decide) (by intro _ _ _ h; exact h) (by assumption) (Or.inl ⟨by rfl, ?hy⟩) ?_; (case hy => (intro W _; go_simp; (try with_reducible rfl))); clear hsh; intro hsh
                      refine wpAnyC_take0 (i := 2) (k := 10) (v := ?_) (d := some 67) rfl (by rfl) (by as_aux_lemma => kernel_rfl) (by as_aux_lemma => kernel_rfl) (by as_aux_lemma => kernel_rfl) hsh (by decide) (by intro _ _ _ h; exact h) (by assumption) (Or.inl ⟨by rfl, ?hy⟩) ?_; (case hy => (intro W _; go_simp; (try with_reducible rfl))); clear hsh; intro hsh
                      refine wpAnyC_take0 (i := 3) (k := 10) (v := ?_) (d := some 68) rfl (by rfl) (by as_aux_lemma => kernel_rfl) (by as_aux_lemma => kernel_rfl) (by as_aux_lemma => kernel_rfl) hsh (by decide) (by intro _ _ _ h; exact h) (by assumption) (Or.inl ⟨by rfl, ?hy⟩) ?_; (case hy => (intro W _; go_simp; (try with_reducible rfl))); clear hsh; intro hsh
                      refine wpAnyC_take0 (i := 4) (k := 10) (v := ?_) (d := some 69) rfl (by rfl) (by as_aux_lemma => kernel_rfl) (by as_aux_lemma => kernel_rfl) (by as_aux_lemma => kernel_rfl) hsh (by decide) (by intro _ _ _ h; exact h) (by assumption) (Or.inl ⟨by rfl, ?hy⟩) ?_; (case hy => (intro W _; go_simp; (try with_reducible rfl))); clear hsh; intro hsh
                      refine wpAnyC_take (i := 5) (k := 10) (f := 40) (v := ?_) (d := some 70) rfl (by rfl) (by as_aux_lemma => kernel_rfl) (by as_aux_lemma => kernel_rfl) (by as_aux_lemma => kernel_rfl) hsh (by decide) (by as_aux_lemma => kernel_rfl) (by intro _ _ _ h; exact h) (by assumption) (Or.inl ⟨by rfl, ?hy⟩) ?_; (case hy => (rintro W ⟨⟨a0, a1, a2, a3⟩, y0, y1, y2, y3⟩; go_simp; (try with_reducible rfl))); clear hsh; intro hsh
                      refine wpAnyC_take (i := 6) (k := 10) (f := 40) (v := ?_) (d := some 71) rfl (by rfl) (by as_aux_lemma => kernel_rfl) (by as_aux_lemma => kernel_rfl) (by as_aux_lemma => kernel_rfl) hsh (by decide) (by as_aux_lemma => kernel_rfl) (by intro _ _ _ h; exact h) (by assumption) (Or.inl ⟨by rfl, ?hy⟩) ?_; (case hy => (rintro W ⟨⟨a0, a1, a2, a3⟩, y0, y1, y2, y3⟩; go_simp; (try with_reducible rfl))); clear hsh; intro hsh
                      refine wpAnyC_take0 (i := 7) (k := 10) (v := ?_) (d := some 72) rfl (by rfl) (by as_aux_lemma => kernel_rfl) (by as_aux_lemma => kernel_rfl) (by as_aux_lemma => kernel_rfl) hsh (by decide) (by intro _ _ _ h; exact h) (by assumption) (Or.inl ⟨by rfl, ?hy⟩) ?_; (case hy => (intro W _; go_simp; (try with_reducible rfl))); clear hsh; intro hsh
                      refine wpAnyC_ready (rs := [8]) (by as_aux_lemma => kernel_rfl) (by simp) ?_; refine AllC.cons (i := 8) rfl (by as_aux_lemma => kernel_rfl) hsh (fun K hK => ?_) AllC.nil
                      go_simp
                      rw [HW8.out]
                      have HSA : (fun W' => (W'.cell? ⟨wr.heap.size, 0, none⟩ = some (.string a.key) ∧ W'.cell? ⟨wr.heap.size, 1, none⟩ = some (.int .i64 a.why) ∧ W'.cell? ⟨wr.heap.size, 2, none⟩ = some (.string a.name) ∧ W'.cell? ⟨wr.heap.size, 3, none⟩ = some (.int .i64 a.many)) ∧ (W'.cell? ⟨wr.heap.size + 1, 0, none⟩ = some (.string x.key) ∧ W'.cell? ⟨wr.heap.size + 1, 1, none⟩ = some (.int .i64 x.why) ∧ W'.cell? ⟨wr.heap.size + 1, 2, none⟩ = some (.string x.name) ∧ W'.cell? ⟨wr.heap.size + 1, 3, none⟩ = some (.int .i64 x.many))) w8.drew := ⟨⟨(block_cell HN1.out 0).trans rfl, (block_cell HN1.out 1).trans rfl, (block_cell HN1.out 2).trans rfl, (block_cell HN1.out 3).trans rfl⟩, (block_cell HN2.out 0).trans rfl, (block_cell HN2.out 1).trans rfl, (block_cell HN2.out 2).trans rfl, (block_cell HN2.out 3).trans rfl⟩
                      refine hK _ _ (fun _ => HSA) ?_
                      clear hK K hsh HS
                      intro hsh
                      refine wpAnyC_take0 (i := 9) (k := 10) (v := ?_) (d := some 73) rfl (by rfl) (by as_aux_lemma => kernel_rfl) (by as_aux_lemma => kernel_rfl) (by as_aux_lemma => kernel_rfl) hsh (by decide) (by intro _ _ _ h; exact h) (by assumption) (Or.inl ⟨by rfl, ?hy⟩) ?_; (case hy => (intro W _; go_simp; (try with_reducible rfl))); clear hsh; intro hsh
                      refine wpAnyC_tail (by as_aux_lemma => kernel_rfl) (by simp) (by as_aux_lemma => kernel_rfl) ?_; simp only [List.drop_succ_cons, List.drop_zero]; clear hsh
                      go_wp2_with (fail)
                      go_roundw
                      case rel => exact ⟨k, by go_num, by omega, by have h := HRS.out; rw [c4'.out] at h; exact h, HST.out hn9, by have h := below_drewN HBS.out 1; rw [c4'.out] at h; exact h⟩
                      case measure => (first | (simp [intOf]; done) | (simp [intOf]; omega))
                  · clear c2
                    have hn9 : ¬ cmpT a x < 0 := fun h9 => by
                      have h8 := HLT.out.1 h9
                      rcases h8 with h8 | ⟨_, h8 | ⟨h8, _⟩⟩
                      · exact c1 h8
                      · exact c3 h8
                      · exact c4 h8
                    go_wp2_with (fail)
                    refine wp_region_chain (fun W' => (W'.cell? ⟨wr.heap.size, 0, none⟩ = some (.string a.key) ∧ W'.cell? ⟨wr.heap.size, 1, none⟩ = some (.int .i64 a.why) ∧ W'.cell? ⟨wr.heap.size, 2, none⟩ = some (.string a.name) ∧ W'.cell? ⟨wr.heap.size, 3, none⟩ = some (.int .i64 a.many)) ∧ (W'.cell? ⟨wr.heap.size + 1, 0, none⟩ = some (.string x.key) ∧ W'.cell? ⟨wr.heap.size + 1, 1, none⟩ = some (.int .i64 x.why) ∧ W'.cell? ⟨wr.heap.size + 1, 2, none⟩ = some (.string x.name) ∧ W'.cell? ⟨wr.heap.size + 1, 3, none⟩ = some (.int .i64 x.many))) 10 (by as_aux_lemma => kernel_rfl) (N := 11) (by as_aux_lemma => kernel_rfl) ?_; intro hsh
                    have HS : (fun W' => (W'.cell? ⟨wr.heap.size, 0, none⟩ = some (.string a.key) ∧ W'.cell? ⟨wr.heap.size, 1, none⟩ = some (.int .i64 a.why) ∧ W'.cell? ⟨wr.heap.size, 2, none⟩ = some (.string a.name) ∧ W'.cell? ⟨wr.heap.size, 3, none⟩ = some (.int .i64 a.many)) ∧ (W'.cell? ⟨wr.heap.size + 1, 0, none⟩ = some (.string x.key) ∧ W'.cell? ⟨wr.heap.size + 1, 1, none⟩ = some (.int .i64 x.why) ∧ W'.cell? ⟨wr.heap.size + 1, 2, none⟩ = some (.string x.name) ∧ W'.cell? ⟨wr.heap.size + 1, 3, none⟩ = some (.int .i64 x.many))) w9.drew := ⟨⟨x0, x1, x2, x3⟩, y0, y1, y2, y3⟩
                    refine wpAnyC_take0 (i := 0) (k := 10) (v := ?_) (d := some 65) rfl (by rfl) (by as_aux_lemma => kernel_rfl) (by as_aux_lemma => kernel_rfl) (by as_aux_lemma => kernel_rfl) hsh (by decide) (by intro _ _ _ h; exact h) (by assumption) (Or.inl ⟨by rfl, ?hy⟩) ?_; (case hy => (intro W _; go_simp; (try with_reducible rfl))); clear hsh; intro hsh
                    refine wpAnyC_take0 (i := 1) (k := 10) (v := ?_) (d := some 66) rfl (by rfl) (by as_aux_lemma => kernel_rfl) (by as_aux_lemma => kernel_rfl) (by as_aux_lemma => kernel_rfl) hsh (by decide) (by intro _ _ _ h; exact h) (by assumption) (Or.inl ⟨by rfl, ?hy⟩) ?_; (case hy => (intro W _; go_simp; (try with_reducible rfl))); clear hsh; intro hsh
                    refine wpAnyC_take0 (i := 2) (k := 10) (v := ?_) (d := some 67) rfl (by rfl) (by as_aux_lemma => kernel_rfl) (by as_aux_lemma => kernel_rfl) (by as_aux_lemma => kernel_rfl) hsh (by decide) (by intro _ _ _ h; exact h) (by assumption) (Or.inl ⟨by rfl, ?hy⟩) ?_; (case hy => (intro W _; go_simp; (try with_reducible rfl))); clear hsh; intro hsh
                    refine wpAnyC_take0 (i := 3) (k := 10) (v := ?_) (d := some 68) rfl (by rfl) (by as_aux_lemma => kernel_rfl) (by as_aux_lemma => kernel_rfl) (by as_aux_lemma => kernel_rfl) hsh (by decide) (by intro _ _ _ h; exact h) (by assumption) (Or.inl ⟨by rfl, ?hy⟩) ?_; (case hy => (intro W _; go_simp; (try with_reducible rfl))); clear hsh; intro hsh
                    refine wpAnyC_take0 (i := 4) (k := 10) (v := ?_) (d := some 69) rfl (by rfl) (by as_aux_lemma => kernel_rfl) (by as_aux_lemma => kernel_rfl) (by as_aux_lemma => kernel_rfl) hsh (by decide) (by intro _ _ _ h; exact h) (by assumption) (Or.inl ⟨by rfl, ?hy⟩) ?_; (case hy => (intro W _; go_simp; (try with_reducible rfl))); clear hsh; intro hsh
                    refine wpAnyC_take (i := 5) (k := 10) (f := 40) (v := ?_) (d := some 70) rfl (by rfl) (by as_aux_lemma => kernel_rfl) (by as_aux_lemma => kernel_rfl) (by as_aux_lemma => kernel_rfl) hsh (by decide) (by as_aux_lemma => kernel_rfl) (by intro _ _ _ h; exact h) (by assumption) (Or.inl ⟨by rfl, ?hy⟩) ?_; (case hy => (rintro W ⟨⟨a0, a1, a2, a3⟩, y0, y1, y2, y3⟩; go_simp; (try with_reducible rfl))); clear hsh; intro hsh
                    refine wpAnyC_take (i := 6) (k := 10) (f := 40) (v := ?_) (d := some 71) rfl (by rfl) (by as_aux_lemma => kernel_rfl) (by as_aux_lemma => kernel_rfl) (by as_aux_lemma => kernel_rfl) hsh (by decide) (by as_aux_lemma => kernel_rfl) (by intro _ _ _ h; exact h) (by assumption) (Or.inl ⟨by rfl, ?hy⟩) ?_; (case hy => (rintro W ⟨⟨a0, a1, a2, a3⟩, y0, y1, y2, y3⟩; go_simp; (try with_reducible rfl))); clear hsh; intro hsh
                    refine wpAnyC_take0 (i := 7) (k := 10) (v := ?_) (d := some 72) rfl (by rfl) (by as_aux_lemma => kernel_rfl) (by as_aux_lemma => kernel_rfl) (by as_aux_lemma => kernel_rfl) hsh (by decide) (by intro _ _ _ h; exact h) (by assumption) (Or.inl ⟨by rfl, ?hy⟩) ?_; (case hy => (intro W _; go_simp; (try with_reducible rfl))); clear hsh; intro hsh
                    refine wpAnyC_ready (rs := [8]) (by as_aux_lemma => kernel_rfl) (by simp) ?_; refine AllC.cons (i := 8) rfl (by as_aux_lemma => kernel_rfl) hsh (fun K hK => ?_) AllC.nil
                    go_simp
                    rw [HW8.out]
                    have HSA : (fun W' => (W'.cell? ⟨wr.heap.size, 0, none⟩ = some (.string a.key) ∧ W'.cell? ⟨wr.heap.size, 1, none⟩ = some (.int .i64 a.why) ∧ W'.cell? ⟨wr.heap.size, 2, none⟩ = some (.string a.name) ∧ W'.cell? ⟨wr.heap.size, 3, none⟩ = some (.int .i64 a.many)) ∧ (W'.cell? ⟨wr.heap.size + 1, 0, none⟩ = some (.string x.key) ∧ W'.cell? ⟨wr.heap.size + 1, 1, none⟩ = some (.int .i64 x.why) ∧ W'.cell? ⟨wr.heap.size + 1, 2, none⟩ = some (.string x.name) ∧ W'.cell? ⟨wr.heap.size + 1, 3, none⟩ = some (.int .i64 x.many))) w8.drew := ⟨⟨(block_cell HN1.out 0).trans rfl, (block_cell HN1.out 1).trans rfl, (block_cell HN1.out 2).trans rfl, (block_cell HN1.out 3).trans rfl⟩, (block_cell HN2.out 0).trans rfl, (block_cell HN2.out 1).trans rfl, (block_cell HN2.out 2).trans rfl, (block_cell HN2.out 3).trans rfl⟩
                    refine hK _ _ (fun _ => HSA) ?_
                    clear hK K hsh HS
                    intro hsh
                    refine wpAnyC_take0 (i := 9) (k := 10) (v := ?_) (d := some 73) rfl (by rfl) (by as_aux_lemma => kernel_rfl) (by as_aux_lemma => kernel_rfl) (by as_aux_lemma => kernel_rfl) hsh (by decide) (by intro _ _ _ h; exact h) (by assumption) (Or.inl ⟨by rfl, ?hy⟩) ?_; (case hy => (intro W _; go_simp; (try with_reducible rfl))); clear hsh; intro hsh
                    refine wpAnyC_tail (by as_aux_lemma => kernel_rfl) (by simp) (by as_aux_lemma => kernel_rfl) ?_; simp only [List.drop_succ_cons, List.drop_zero]; clear hsh
                    go_wp2_with (fail)
                    go_roundw
                    case rel => exact ⟨k, by go_num, by omega, HRS.out, HST.out hn9, below_drewN HBS.out 1⟩
                    case measure => (first | (simp [intOf]; done) | (simp [intOf]; omega))
              · have m2 : (a.key.toList == x.key.toList) = false := by simpa using c2
                have hn9 : ¬ cmpT a x < 0 := fun h9 => by
                  have h8 := HLT.out.1 h9
                  rcases h8 with h8 | ⟨h8, _⟩
                  · exact c1 h8
                  · exact c2 h8
                go_wp2_with (fail)
                refine wp_region_chain (fun W' => (W'.cell? ⟨wr.heap.size, 0, none⟩ = some (.string a.key) ∧ W'.cell? ⟨wr.heap.size, 1, none⟩ = some (.int .i64 a.why) ∧ W'.cell? ⟨wr.heap.size, 2, none⟩ = some (.string a.name) ∧ W'.cell? ⟨wr.heap.size, 3, none⟩ = some (.int .i64 a.many)) ∧ (W'.cell? ⟨wr.heap.size + 1, 0, none⟩ = some (.string x.key) ∧ W'.cell? ⟨wr.heap.size + 1, 1, none⟩ = some (.int .i64 x.why) ∧ W'.cell? ⟨wr.heap.size + 1, 2, none⟩ = some (.string x.name) ∧ W'.cell? ⟨wr.heap.size + 1, 3, none⟩ = some (.int .i64 x.many))) 10 (by as_aux_lemma => kernel_rfl) (N := 11) (by as_aux_lemma => kernel_rfl) ?_; intro hsh
                have HS : (fun W' => (W'.cell? ⟨wr.heap.size, 0, none⟩ = some (.string a.key) ∧ W'.cell? ⟨wr.heap.size, 1, none⟩ = some (.int .i64 a.why) ∧ W'.cell? ⟨wr.heap.size, 2, none⟩ = some (.string a.name) ∧ W'.cell? ⟨wr.heap.size, 3, none⟩ = some (.int .i64 a.many)) ∧ (W'.cell? ⟨wr.heap.size + 1, 0, none⟩ = some (.string x.key) ∧ W'.cell? ⟨wr.heap.size + 1, 1, none⟩ = some (.int .i64 x.why) ∧ W'.cell? ⟨wr.heap.size + 1, 2, none⟩ = some (.string x.name) ∧ W'.cell? ⟨wr.heap.size + 1, 3, none⟩ = some (.int .i64 x.many))) w9.drew := ⟨⟨x0, x1, x2, x3⟩, y0, y1, y2, y3⟩
                refine wpAnyC_take0 (i := 0) (k := 10) (v := ?_) (d := some 65) rfl (by rfl) (by as_aux_lemma => kernel_rfl) (by as_aux_lemma => kernel_rfl) (by as_aux_lemma => kernel_rfl) hsh (by decide) (by intro _ _ _ h; exact h) (by assumption) (Or.inl ⟨by rfl, ?hy⟩) ?_; (case hy => (intro W _; go_simp; (try with_reducible rfl))); clear hsh; intro hsh
                refine wpAnyC_take0 (i := 1) (k := 10) (v := ?_) (d := some 66) rfl (by rfl) (by as_aux_lemma => kernel_rfl) (by as_aux_lemma => kernel_rfl) (by as_aux_lemma => kernel_rfl) hsh (by decide) (by intro _ _ _ h; exact h) (by assumption) (Or.inl ⟨by rfl, ?hy⟩) ?_; (case hy => (intro W _; go_simp; (try with_reducible rfl))); clear hsh; intro hsh
                refine wpAnyC_take0 (i := 2) (k := 10) (v := ?_) (d := some 67) rfl (by rfl) (by as_aux_lemma => kernel_rfl) (by as_aux_lemma => kernel_rfl) (by as_aux_lemma => kernel_rfl) hsh (by decide) (by intro _ _ _ h; exact h) (by assumption) (Or.inl ⟨by rfl, ?hy⟩) ?_; (case hy => (intro W _; go_simp; (try with_reducible rfl))); clear hsh; intro hsh
                refine wpAnyC_take0 (i := 3) (k := 10) (v := ?_) (d := some 68) rfl (by rfl) (by as_aux_lemma => kernel_rfl) (by as_aux_lemma => kernel_rfl) (by as_aux_lemma => kernel_rfl) hsh (by decide) (by intro _ _ _ h; exact h) (by assumption) (Or.inl ⟨by rfl, ?hy⟩) ?_; (case hy => (intro W _; go_simp; (try with_reducible rfl))); clear hsh; intro hsh
                refine wpAnyC_take0 (i := 4) (k := 10) (v := ?_) (d := some 69) rfl (by rfl) (by as_aux_lemma => kernel_rfl) (by as_aux_lemma => kernel_rfl) (by as_aux_lemma => kernel_rfl) hsh (by decide) (by intro _ _ _ h; exact h) (by assumption) (Or.inl ⟨by rfl, ?hy⟩) ?_; (case hy => (intro W _; go_simp; (try with_reducible rfl))); clear hsh; intro hsh
                refine wpAnyC_take (i := 5) (k := 10) (f := 40) (v := ?_) (d := some 70) rfl (by rfl) (by as_aux_lemma => kernel_rfl) (by as_aux_lemma => kernel_rfl) (by as_aux_lemma => kernel_rfl) hsh (by decide) (by as_aux_lemma => kernel_rfl) (by intro _ _ _ h; exact h) (by assumption) (Or.inl ⟨by rfl, ?hy⟩) ?_; (case hy => (rintro W ⟨⟨a0, a1, a2, a3⟩, y0, y1, y2, y3⟩; go_simp; (try with_reducible rfl))); clear hsh; intro hsh
                refine wpAnyC_take (i := 6) (k := 10) (f := 40) (v := ?_) (d := some 71) rfl (by rfl) (by as_aux_lemma => kernel_rfl) (by as_aux_lemma => kernel_rfl) (by as_aux_lemma => kernel_rfl) hsh (by decide) (by as_aux_lemma => kernel_rfl) (by intro _ _ _ h; exact h) (by assumption) (Or.inl ⟨by rfl, ?hy⟩) ?_; (case hy => (rintro W ⟨⟨a0, a1, a2, a3⟩, y0, y1, y2, y3⟩; go_simp; (try with_reducible rfl))); clear hsh; intro hsh
                refine wpAnyC_take0 (i := 7) (k := 10) (v := ?_) (d := some 72) rfl (by rfl) (by as_aux_lemma => kernel_rfl) (by as_aux_lemma => kernel_rfl) (by as_aux_lemma => kernel_rfl) hsh (by decide) (by intro _ _ _ h; exact h) (by assumption) (Or.inl ⟨by rfl, ?hy⟩) ?_; (case hy => (intro W _; go_simp; (try with_reducible rfl))); clear hsh; intro hsh
                refine wpAnyC_ready (rs := [8]) (by as_aux_lemma => kernel_rfl) (by simp) ?_; refine AllC.cons (i := 8) rfl (by as_aux_lemma => kernel_rfl) hsh (fun K hK => ?_) AllC.nil
                go_simp
                rw [HW8.out]
                have HSA : (fun W' => (W'.cell? ⟨wr.heap.size, 0, none⟩ = some (.string a.key) ∧ W'.cell? ⟨wr.heap.size, 1, none⟩ = some (.int .i64 a.why) ∧ W'.cell? ⟨wr.heap.size, 2, none⟩ = some (.string a.name) ∧ W'.cell? ⟨wr.heap.size, 3, none⟩ = some (.int .i64 a.many)) ∧ (W'.cell? ⟨wr.heap.size + 1, 0, none⟩ = some (.string x.key) ∧ W'.cell? ⟨wr.heap.size + 1, 1, none⟩ = some (.int .i64 x.why) ∧ W'.cell? ⟨wr.heap.size + 1, 2, none⟩ = some (.string x.name) ∧ W'.cell? ⟨wr.heap.size + 1, 3, none⟩ = some (.int .i64 x.many))) w8.drew := ⟨⟨(block_cell HN1.out 0).trans rfl, (block_cell HN1.out 1).trans rfl, (block_cell HN1.out 2).trans rfl, (block_cell HN1.out 3).trans rfl⟩, (block_cell HN2.out 0).trans rfl, (block_cell HN2.out 1).trans rfl, (block_cell HN2.out 2).trans rfl, (block_cell HN2.out 3).trans rfl⟩
                refine hK _ _ (fun _ => HSA) ?_
                clear hK K hsh HS
                intro hsh
                refine wpAnyC_take0 (i := 9) (k := 10) (v := ?_) (d := some 73) rfl (by rfl) (by as_aux_lemma => kernel_rfl) (by as_aux_lemma => kernel_rfl) (by as_aux_lemma => kernel_rfl) hsh (by decide) (by intro _ _ _ h; exact h) (by assumption) (Or.inl ⟨by rfl, ?hy⟩) ?_; (case hy => (intro W _; go_simp; (try with_reducible rfl))); clear hsh; intro hsh
                refine wpAnyC_tail (by as_aux_lemma => kernel_rfl) (by simp) (by as_aux_lemma => kernel_rfl) ?_; simp only [List.drop_succ_cons, List.drop_zero]; clear hsh
                go_wp2_with (fail)
                go_roundw
                case rel => exact ⟨k, by go_num, by omega, HRS.out, HST.out hn9, below_drewN HBS.out 1⟩
                case measure => (first | (simp [intOf]; done) | (simp [intOf]; omega))
          · go_simp
            refine hK _ _ (fun _ => HSS.out _ ((below_drewN (Below.refl _ _) 1).alloc (Nat.le_refl _) _)) ?_
            clear hK K hsh HS
            intro hsh
            refine wpAnyC_ready (rs := [9]) (by as_aux_lemma => kernel_rfl) (by simp) ?_; refine AllC.cons (i := 9) rfl (by as_aux_lemma => kernel_rfl) hsh (fun K hK => ?_) AllC.nil
            go_simp
            refine hK _ _ (fun _ => HSS.out _ (((below_drewN (Below.refl _ _) 1).alloc (Nat.le_refl _) _).alloc (by simp) _)) ?_
            clear hK K hsh
            intro hsh
            refine wpAnyC_ready (rs := [11]) (by as_aux_lemma => kernel_rfl) (by simp) ?_; refine AllC.cons (i := 11) rfl (by as_aux_lemma => kernel_rfl) hsh (fun K hK => ?_) AllC.nil
            go_simp
            refine hK _ _ (fun _ => HSS.out _ (below_drewN (((Below.refl _ _).alloc (Nat.le_refl _) _).alloc (by simp) _) 1)) ?_
            clear hK K hsh
            intro hsh
            refine wpAnyC_ready (rs := [12]) (by as_aux_lemma => kernel_rfl) (by simp) ?_; refine AllC.cons (i := 12) rfl (by as_aux_lemma => kernel_rfl) hsh (fun K hK => ?_) AllC.nil
            go_simp
            refine hK _ _ (fun _ => HSS.out _ (below_drewN (((Below.refl _ _).alloc (Nat.le_refl _) _).alloc (by simp) _) 1)) ?_
            clear hK K hsh
            intro hsh
            refine wpAnyC_done (by as_aux_lemma => kernel_rfl) ?_; clear hsh
            obtain ⟨w9, hw9, hb9, n1, n2⟩ : ∃ w9, ((wr.alloc (.cells #[.string x.key, .int .i64 x.why, .string x.name, .int .i64 x.many] 50)).alloc (.cells #[.string a.key, .int .i64 a.why, .string a.name, .int .i64 a.many] 50)).drew = w9 ∧ Below wr.heap.size wr w9 ∧ w9.heap[wr.heap.size]? = some (.cells #[.string x.key, .int .i64 x.why, .string x.name, .int .i64 x.many] 50 (0, 0)) ∧ w9.heap[wr.heap.size + 1]? = some (.cells #[.string a.key, .int .i64 a.why, .string a.name, .int .i64 a.many] 50 (0, 0)) :=
              ⟨_, rfl, below_drewN (((Below.refl _ _).alloc (Nat.le_refl _) _).alloc (by simp) _) 1, block_below (heap_alloc_new wr (.cells #[.string x.key, .int .i64 x.why, .string x.name, .int .i64 x.many] 50)) (below_drewN ((Below.refl _ _).alloc (Nat.le_refl _) (.cells #[.string a.key, .int .i64 a.why, .string a.name, .int .i64 a.many] 50)) 1), by
                have h := heap_alloc_new (wr.alloc (.cells #[.string x.key, .int .i64 x.why, .string x.name, .int .i64 x.many] 50)) (.cells #[.string a.key, .int .i64 a.why, .string a.name, .int .i64 a.many] 50)
                rw [World.size_alloc] at h; exact h⟩
            rw [hw9]
            have y0 : w9.cell? ⟨wr.heap.size, 0, none⟩ = some (.string x.key) := (block_cell n1 0).trans rfl
            have y1 : w9.cell? ⟨wr.heap.size, 1, none⟩ = some (.int .i64 x.why) := (block_cell n1 1).trans rfl
            have y2 : w9.cell? ⟨wr.heap.size, 2, none⟩ = some (.string x.name) := (block_cell n1 2).trans rfl
            have y3 : w9.cell? ⟨wr.heap.size, 3, none⟩ = some (.int .i64 x.many) := (block_cell n1 3).trans rfl
            have x0 : w9.cell? ⟨wr.heap.size + 1, 0, none⟩ = some (.string a.key) := (block_cell n2 0).trans rfl
            have x1 : w9.cell? ⟨wr.heap.size + 1, 1, none⟩ = some (.int .i64 a.why) := (block_cell n2 1).trans rfl
            have x2 : w9.cell? ⟨wr.heap.size + 1, 2, none⟩ = some (.string a.name) := (block_cell n2 2).trans rfl
            have x3 : w9.cell? ⟨wr.heap.size + 1, 3, none⟩ = some (.int .i64 a.many) := (block_cell n2 3).trans rfl
            have HR9 := hide (own_below HROW2.out hb9)
            have HB9 := hide (HB2.out.trans (hb9.mono hzr))
            obtain ⟨g0, g1, g2, g3⟩ := tl_cells HR9.out HMP.out
            obtain ⟨i0, i1, i2, i3⟩ := tl_cells HR9.out HMX.out
            have fz := fun j => own_free HR9.out j
            have z0 := fz (k * 4)
            have z1 := fz (k * 4 + 1)
            have z2 := fz (k * 4 + 2)
            have z3 := fz (k * 4 + 3)
            have v0 := fz ((k + 1) * 4)
            have v1 := fz ((k + 1) * 4 + 1)
            have v2 := fz ((k + 1) * 4 + 2)
            have v3 := fz ((k + 1) * 4 + 3)
            have hne1 : wr.heap.size ≠ g := by omega
            have hne2 : wr.heap.size + 1 ≠ g := by omega
            obtain ⟨w8, hw8, ho8, hB8, n81, n82⟩ : ∃ w8, (((w9.setCell ⟨g, k * 4, none⟩ (.string x.key)).setCell ⟨g, k * 4 + 1, none⟩ (.int .i64 x.why)).setCell ⟨g, k * 4 + 2, none⟩ (.string x.name)).setCell ⟨g, k * 4 + 3, none⟩ (.int .i64 x.many) = w8 ∧ w8.ownsRow w.heap.size 50 4 (.slice (some ⟨g, 0, none⟩) l.length oc) l.length (((insM (srtT (l.take i)) x (l.drop (i + 1)) (k + 1)).set k x).flatMap Tl.cs) ∧ Below w.heap.size w w8 ∧ w8.heap[wr.heap.size]? = some (.cells #[.string x.key, .int .i64 x.why, .string x.name, .int .i64 x.many] 50 (0, 0)) ∧ w8.heap[wr.heap.size + 1]? = some (.cells #[.string a.key, .int .i64 a.why, .string a.name, .int .i64 a.many] 50 (0, 0)) :=
              ⟨_, rfl, own_setT HR9.out k a x HMP.out, below_set (below_set (below_set (below_set HB9.out hgB _) hgB _) hgB _) hgB _, block_set_other (block_set_other (block_set_other (block_set_other n1 _ _ hne1) _ _ hne1) _ _ hne1) _ _ hne1, block_set_other (block_set_other (block_set_other (block_set_other n2 _ _ hne2) _ _ hne2) _ _ hne2) _ _ hne2⟩
            have hxk : ((insM (srtT (l.take i)) x (l.drop (i + 1)) (k + 1)).set k x)[k + 1]? = some x := by rw [List.getElem?_set_ne (by omega)]; exact HMX.out
            obtain ⟨t0, t1, t2, t3⟩ := tl_cells ho8 hxk
            have fz8 := fun j => own_free ho8 j
            have r0 := fz8 ((k + 1) * 4)
            have r1 := fz8 ((k + 1) * 4 + 1)
            have r2 := fz8 ((k + 1) * 4 + 2)
            have r3 := fz8 ((k + 1) * 4 + 3)
            have o2 := own_setT ho8 (k + 1) x a hxk
            rw [HSW.out] at o2
            have HRS := hide o2
            have HBS := hide (below_set (i := (k + 1) * 4 + 3) (below_set (i := (k + 1) * 4 + 2) (below_set (i := (k + 1) * 4 + 1) (below_set (b := g) (i := (k + 1) * 4) hB8 hgB (.string a.key)) hgB (.int .i64 a.why)) hgB (.string a.name)) hgB (.int .i64 a.many))
            have HN1 := hide n81
            have HN2 := hide n82
            have HW8 := hide hw8
            clear hw9 hb9 n1 n2 fz fz8 o2 hxk n81 n82 ho8 hB8 hw8
            by_cases c1 : Op.bytesLess a.key.toList x.key.toList = true
            · have hlt9 : cmpT a x < 0 := HLT.out.2 (.inl c1)
              have HD := hide (HDN.out hlt9)
              clear hlt9
              go_wp2_with (fail)
              go_roundw
              case rel => exact ⟨i + 1, by go_num, by omega, by rw [← HD.out]; exact HR9.out, HB9.out⟩
              case measure => simp [intOf]; omega
            · have m1 : Op.bytesLess a.key.toList x.key.toList = false := by simpa using c1
              by_cases c2 : a.key.toList = x.key.toList
              · have m2 : (a.key.toList == x.key.toList) = true := by simpa using c2
                have c2' := hide c2
                by_cases c3 : a.why < x.why
                · clear c2
                  have hlt9 : cmpT a x < 0 := HLT.out.2 (.inr ⟨c2'.out, .inl c3⟩)
                  have HD := hide (HDN.out hlt9)
                  clear hlt9
                  go_wp2_with (fail)
                  go_roundw
                  case rel => exact ⟨i + 1, by go_num, by omega, by rw [← HD.out]; exact HR9.out, HB9.out⟩
                  case measure => simp [intOf]; omega
                · by_cases c4 : a.why = x.why
                  · have c4' := hide c4
                    by_cases c5 : Op.bytesLess a.name.toList x.name.toList = true
                    · clear c2
                      have hlt9 : cmpT a x < 0 := HLT.out.2 (.inr ⟨c2'.out, .inr ⟨c4'.out, c5⟩⟩)
                      have HD := hide (HDN.out hlt9)
                      clear hlt9
                      go_wp2_with (fail)
                      go_roundw
                      case rel => exact ⟨i + 1, by go_num, by omega, by rw [← HD.out]; exact HR9.out, HB9.out⟩
                      case measure => simp [intOf]; omega
                    · have m5 : Op.bytesLess a.name.toList x.name.toList = false := by simpa using c5
                      clear c2
                      have hn9 : ¬ cmpT a x < 0 := fun h9 => by
                        have h8 := HLT.out.1 h9
                        rcases h8 with h8 | ⟨_, h8 | ⟨_, h8⟩⟩
                        · exact c1 h8
                        · exact c3 h8
                        · exact c5 h8
                      go_wp2_with (fail)
                      refine wp_region_chain (fun W' => (W'.cell? ⟨wr.heap.size + 1, 0, none⟩ = some (.string a.key) ∧ W'.cell? ⟨wr.heap.size + 1, 1, none⟩ = some (.int .i64 a.why) ∧ W'.cell? ⟨wr.heap.size + 1, 2, none⟩ = some (.string a.name) ∧ W'.cell? ⟨wr.heap.size + 1, 3, none⟩ = some (.int .i64 a.many)) ∧ (W'.cell? ⟨wr.heap.size, 0, none⟩ = some (.string x.key) ∧ W'.cell? ⟨wr.heap.size, 1, none⟩ = some (.int .i64 x.why) ∧ W'.cell? ⟨wr.heap.size, 2, none⟩ = some (.string x.name) ∧ W'.cell? ⟨wr.heap.size, 3, none⟩ = some (.int .i64 x.many))) 10 (by as_aux_lemma => kernel_rfl) (N := 11) (by as_aux_lemma => kernel_rfl) ?_; intro hsh
                      have HS : (fun W' => (W'.cell? ⟨wr.heap.size + 1, 0, none⟩ = some (.string a.key) ∧ W'.cell? ⟨wr.heap.size + 1, 1, none⟩ = some (.int .i64 a.why) ∧ W'.cell? ⟨wr.heap.size + 1, 2, none⟩ = some (.string a.name) ∧ W'.cell? ⟨wr.heap.size + 1, 3, none⟩ = some (.int .i64 a.many)) ∧ (W'.cell? ⟨wr.heap.size, 0, none⟩ = some (.string x.key) ∧ W'.cell? ⟨wr.heap.size, 1, none⟩ = some (.int .i64 x.why) ∧ W'.cell? ⟨wr.heap.size, 2, none⟩ = some (.string x.name) ∧ W'.cell? ⟨wr.heap.size, 3, none⟩ = some (.int .i64 x.many))) w9.drew := ⟨⟨x0, x1, x2, x3⟩, y0, y1, y2, y3⟩
                      refine wpAnyC_take0 (i := 0) (k := 10) (v := ?_) (d := some 65) rfl (by rfl) (by as_aux_lemma => kernel_rfl) (by as_aux_lemma => kernel_rfl) (by as_aux_lemma => kernel_rfl) hsh (by decide) (by intro _ _ _ h; exact h) (by assumption) (Or.inl ⟨by rfl, ?hy⟩) ?_; (case hy => (intro W _; go_simp; (try with_reducible rfl))); clear hsh; intro hsh
                      refine wpAnyC_take0 (i := 1) (k := 10) (v := ?_) (d := some 66) rfl (by rfl) (by as_aux_lemma => kernel_rfl) (by as_aux_lemma => kernel_rfl) (by as_aux_lemma => kernel_rfl) hsh (by decide) (by intro _ _ _ h; exact h) (by assumption) (Or.inl ⟨by rfl, ?hy⟩) ?_; (case hy => (intro W _; go_simp; (try with_reducible rfl))); clear hsh; intro hsh
                      refine wpAnyC_take0 (i := 2) (k := 10) (v := ?_) (d := some 67) rfl (by rfl) (by as_aux_lemma => kernel_rfl) (by as_aux_lemma => kernel_rfl) (by as_aux_lemma => kernel_rfl) hsh (by decide) (by intro _ _ _ h; exact h) (by assumption) (Or.inl ⟨by rfl, ?hy⟩) ?_; (case hy => (intro W _; go_simp; (try with_reducible rfl))); clear hsh; intro hsh
                      refine wpAnyC_take0 (i := 3) (k := 10) (v := ?_) (d := some 68) rfl (by rfl) (by as_aux_lemma => kernel_rfl) (by as_aux_lemma => kernel_rfl) (by as_aux_lemma => kernel_rfl) hsh (by decide) (by intro _ _ _ h; exact h) (by assumption) (Or.inl ⟨by rfl, ?hy⟩) ?_; (case hy => (intro W _; go_simp; (try with_reducible rfl))); clear hsh; intro hsh
                      refine wpAnyC_take0 (i := 4) (k := 10) (v := ?_) (d := some 69) rfl (by rfl) (by as_aux_lemma => kernel_rfl) (by as_aux_lemma => kernel_rfl) (by as_aux_lemma => kernel_rfl) hsh (by decide) (by intro _ _ _ h; exact h) (by assumption) (Or.inl ⟨by rfl, ?hy⟩) ?_; (case hy => (intro W _; go_simp; (try with_reducible rfl))); clear hsh; intro hsh
                      refine wpAnyC_take (i := 5) (k := 10) (f := 40) (v := ?_) (d := some 70) rfl (by rfl) (by as_aux_lemma => kernel_rfl) (by as_aux_lemma => kernel_rfl) (by as_aux_lemma => kernel_rfl) hsh (by decide) (by as_aux_lemma => kernel_rfl) (by intro _ _ _ h; exact h) (by assumption) (Or.inl ⟨by rfl, ?hy⟩) ?_; (case hy => (rintro W ⟨⟨a0, a1, a2, a3⟩, y0, y1, y2, y3⟩; go_simp; (try with_reducible rfl))); clear hsh; intro hsh
                      refine wpAnyC_take (i := 6) (k := 10) (f := 40) (v := ?_) (d := some 71) rfl (by rfl) (by as_aux_lemma => kernel_rfl) (by as_aux_lemma => kernel_rfl) (by as_aux_lemma => kernel_rfl) hsh (by decide) (by as_aux_lemma => kernel_rfl) (by intro _ _ _ h; exact h) (by assumption) (Or.inl ⟨by rfl, ?hy⟩) ?_; (case hy => (rintro W ⟨⟨a0, a1, a2, a3⟩, y0, y1, y2, y3⟩; go_simp; (try with_reducible rfl))); clear hsh; intro hsh
                      refine wpAnyC_take0 (i := 7) (k := 10) (v := ?_) (d := some 72) rfl (by rfl) (by as_aux_lemma => kernel_rfl) (by as_aux_lemma => kernel_rfl) (by as_aux_lemma => kernel_rfl) hsh (by decide) (by intro _ _ _ h; exact h) (by assumption) (Or.inl ⟨by rfl, ?hy⟩) ?_; (case hy => (intro W _; go_simp; (try with_reducible rfl))); clear hsh; intro hsh
                      refine wpAnyC_ready (rs := [8]) (by as_aux_lemma => kernel_rfl) (by simp) ?_; refine AllC.cons (i := 8) rfl (by as_aux_lemma => kernel_rfl) hsh (fun K hK => ?_) AllC.nil
                      go_simp
                      rw [HW8.out]
                      have HSA : (fun W' => (W'.cell? ⟨wr.heap.size + 1, 0, none⟩ = some (.string a.key) ∧ W'.cell? ⟨wr.heap.size + 1, 1, none⟩ = some (.int .i64 a.why) ∧ W'.cell? ⟨wr.heap.size + 1, 2, none⟩ = some (.string a.name) ∧ W'.cell? ⟨wr.heap.size + 1, 3, none⟩ = some (.int .i64 a.many)) ∧ (W'.cell? ⟨wr.heap.size, 0, none⟩ = some (.string x.key) ∧ W'.cell? ⟨wr.heap.size, 1, none⟩ = some (.int .i64 x.why) ∧ W'.cell? ⟨wr.heap.size, 2, none⟩ = some (.string x.name) ∧ W'.cell? ⟨wr.heap.size, 3, none⟩ = some (.int .i64 x.many))) w8.drew := ⟨⟨(block_cell HN2.out 0).trans rfl, (block_cell HN2.out 1).trans rfl, (block_cell HN2.out 2).trans rfl, (block_cell HN2.out 3).trans rfl⟩, (block_cell HN1.out 0).trans rfl, (block_cell HN1.out 1).trans rfl, (block_cell HN1.out 2).trans rfl, (block_cell HN1.out 3).trans rfl⟩
                      refine hK _ _ (fun _ => HSA) ?_
                      clear hK K hsh HS
                      intro hsh
                      refine wpAnyC_take0 (i := 9) (k := 10) (v := ?_) (d := some 73) rfl (by rfl) (by as_aux_lemma => kernel_rfl) (by as_aux_lemma => kernel_rfl) (by as_aux_lemma => kernel_rfl) hsh (by decide) (by intro _ _ _ h; exact h) (by assumption) (Or.inl ⟨by rfl, ?hy⟩) ?_; (case hy => (intro W _; go_simp; (try with_reducible rfl))); clear hsh; intro hsh
                      refine wpAnyC_tail (by as_aux_lemma => kernel_rfl) (by simp) (by as_aux_lemma => kernel_rfl) ?_; simp only [List.drop_succ_cons, List.drop_zero]; clear hsh
                      go_wp2_with (fail)
                      go_roundw
                      case rel => exact ⟨k, by go_num, by omega, by have h := HRS.out; rw [c4'.out] at h; exact h, HST.out hn9, by have h := below_drewN HBS.out 1; rw [c4'.out] at h; exact h⟩
                      case measure => (first | (simp [intOf]; done) | (simp [intOf]; omega))
                  · clear c2
                    have hn9 : ¬ cmpT a x < 0 := fun h9 => by
                      have h8 := HLT.out.1 h9
                      rcases h8 with h8 | ⟨_, h8 | ⟨h8, _⟩⟩
                      · exact c1 h8
                      · exact c3 h8
                      · exact c4 h8
                    go_wp2_with (fail)
                    refine wp_region_chain (fun W' => (W'.cell? ⟨wr.heap.size + 1, 0, none⟩ = some (.string a.key) ∧ W'.cell? ⟨wr.heap.size + 1, 1, none⟩ = some (.int .i64 a.why) ∧ W'.cell? ⟨wr.heap.size + 1, 2, none⟩ = some (.string a.name) ∧ W'.cell? ⟨wr.heap.size + 1, 3, none⟩ = some (.int .i64 a.many)) ∧ (W'.cell? ⟨wr.heap.size, 0, none⟩ = some (.string x.key) ∧ W'.cell? ⟨wr.heap.size, 1, none⟩ = some (.int .i64 x.why) ∧ W'.cell? ⟨wr.heap.size, 2, none⟩ = some (.string x.name) ∧ W'.cell? ⟨wr.heap.size, 3, none⟩ = some (.int .i64 x.many))) 10 (by as_aux_lemma => kernel_rfl) (N := 11) (by as_aux_lemma => kernel_rfl) ?_; intro hsh
                    have HS : (fun W' => (W'.cell? ⟨wr.heap.size + 1, 0, none⟩ = some (.string a.key) ∧ W'.cell? ⟨wr.heap.size + 1, 1, none⟩ = some (.int .i64 a.why) ∧ W'.cell? ⟨wr.heap.size + 1, 2, none⟩ = some (.string a.name) ∧ W'.cell? ⟨wr.heap.size + 1, 3, none⟩ = some (.int .i64 a.many)) ∧ (W'.cell? ⟨wr.heap.size, 0, none⟩ = some (.string x.key) ∧ W'.cell? ⟨wr.heap.size, 1, none⟩ = some (.int .i64 x.why) ∧ W'.cell? ⟨wr.heap.size, 2, none⟩ = some (.string x.name) ∧ W'.cell? ⟨wr.heap.size, 3, none⟩ = some (.int .i64 x.many))) w9.drew := ⟨⟨x0, x1, x2, x3⟩, y0, y1, y2, y3⟩
                    refine wpAnyC_take0 (i := 0) (k := 10) (v := ?_) (d := some 65) rfl (by rfl) (by as_aux_lemma => kernel_rfl) (by as_aux_lemma => kernel_rfl) (by as_aux_lemma => kernel_rfl) hsh (by decide) (by intro _ _ _ h; exact h) (by assumption) (Or.inl ⟨by rfl, ?hy⟩) ?_; (case hy => (intro W _; go_simp; (try with_reducible rfl))); clear hsh; intro hsh
                    refine wpAnyC_take0 (i := 1) (k := 10) (v := ?_) (d := some 66) rfl (by rfl) (by as_aux_lemma => kernel_rfl) (by as_aux_lemma => kernel_rfl) (by as_aux_lemma => kernel_rfl) hsh (by decide) (by intro _ _ _ h; exact h) (by assumption) (Or.inl ⟨by rfl, ?hy⟩) ?_; (case hy => (intro W _; go_simp; (try with_reducible rfl))); clear hsh; intro hsh
                    refine wpAnyC_take0 (i := 2) (k := 10) (v := ?_) (d := some 67) rfl (by rfl) (by as_aux_lemma => kernel_rfl) (by as_aux_lemma => kernel_rfl) (by as_aux_lemma => kernel_rfl) hsh (by decide) (by intro _ _ _ h; exact h) (by assumption) (Or.inl ⟨by rfl, ?hy⟩) ?_; (case hy => (intro W _; go_simp; (try with_reducible rfl))); clear hsh; intro hsh
                    refine wpAnyC_take0 (i := 3) (k := 10) (v := ?_) (d := some 68) rfl (by rfl) (by as_aux_lemma => kernel_rfl) (by as_aux_lemma => kernel_rfl) (by as_aux_lemma => kernel_rfl) hsh (by decide) (by intro _ _ _ h; exact h) (by assumption) (Or.inl ⟨by rfl, ?hy⟩) ?_; (case hy => (intro W _; go_simp; (try with_reducible rfl))); clear hsh; intro hsh
                    refine wpAnyC_take0 (i := 4) (k := 10) (v := ?_) (d := some 69) rfl (by rfl) (by as_aux_lemma => kernel_rfl) (by as_aux_lemma => kernel_rfl) (by as_aux_lemma => kernel_rfl) hsh (by decide) (by intro _ _ _ h; exact h) (by assumption) (Or.inl ⟨by rfl, ?hy⟩) ?_; (case hy => (intro W _; go_simp; (try with_reducible rfl))); clear hsh; intro hsh
                    refine wpAnyC_take (i := 5) (k := 10) (f := 40) (v := ?_) (d := some 70) rfl (by rfl) (by as_aux_lemma => kernel_rfl) (by as_aux_lemma => kernel_rfl) (by as_aux_lemma => kernel_rfl) hsh (by decide) (by as_aux_lemma => kernel_rfl) (by intro _ _ _ h; exact h) (by assumption) (Or.inl ⟨by rfl, ?hy⟩) ?_; (case hy => (rintro W ⟨⟨a0, a1, a2, a3⟩, y0, y1, y2, y3⟩; go_simp; (try with_reducible rfl))); clear hsh; intro hsh
                    refine wpAnyC_take (i := 6) (k := 10) (f := 40) (v := ?_) (d := some 71) rfl (by rfl) (by as_aux_lemma => kernel_rfl) (by as_aux_lemma => kernel_rfl) (by as_aux_lemma => kernel_rfl) hsh (by decide) (by as_aux_lemma => kernel_rfl) (by intro _ _ _ h; exact h) (by assumption) (Or.inl ⟨by rfl, ?hy⟩) ?_; (case hy => (rintro W ⟨⟨a0, a1, a2, a3⟩, y0, y1, y2, y3⟩; go_simp; (try with_reducible rfl))); clear hsh; intro hsh
                    refine wpAnyC_take0 (i := 7) (k := 10) (v := ?_) (d := some 72) rfl (by rfl) (by as_aux_lemma => kernel_rfl) (by as_aux_lemma => kernel_rfl) (by as_aux_lemma => kernel_rfl) hsh (by decide) (by intro _ _ _ h; exact h) (by assumption) (Or.inl ⟨by rfl, ?hy⟩) ?_; (case hy => (intro W _; go_simp; (try with_reducible rfl))); clear hsh; intro hsh
                    refine wpAnyC_ready (rs := [8]) (by as_aux_lemma => kernel_rfl) (by simp) ?_; refine AllC.cons (i := 8) rfl (by as_aux_lemma => kernel_rfl) hsh (fun K hK => ?_) AllC.nil
                    go_simp
                    rw [HW8.out]
                    have HSA : (fun W' => (W'.cell? ⟨wr.heap.size + 1, 0, none⟩ = some (.string a.key) ∧ W'.cell? ⟨wr.heap.size + 1, 1, none⟩ = some (.int .i64 a.why) ∧ W'.cell? ⟨wr.heap.size + 1, 2, none⟩ = some (.string a.name) ∧ W'.cell? ⟨wr.heap.size + 1, 3, none⟩ = some (.int .i64 a.many)) ∧ (W'.cell? ⟨wr.heap.size, 0, none⟩ = some (.string x.key) ∧ W'.cell? ⟨wr.heap.size, 1, none⟩ = some (.int .i64 x.why) ∧ W'.cell? ⟨wr.heap.size, 2, none⟩ = some (.string x.name) ∧ W'.cell? ⟨wr.heap.size, 3, none⟩ = some (.int .i64 x.many))) w8.drew := ⟨⟨(block_cell HN2.out 0).trans rfl, (block_cell HN2.out 1).trans rfl, (block_cell HN2.out 2).trans rfl, (block_cell HN2.out 3).trans rfl⟩, (block_cell HN1.out 0).trans rfl, (block_cell HN1.out 1).trans rfl, (block_cell HN1.out 2).trans rfl, (block_cell HN1.out 3).trans rfl⟩
                    refine hK _ _ (fun _ => HSA) ?_
                    clear hK K hsh HS
                    intro hsh
                    refine wpAnyC_take0 (i := 9) (k := 10) (v := ?_) (d := some 73) rfl (by rfl) (by as_aux_lemma => kernel_rfl) (by as_aux_lemma => kernel_rfl) (by as_aux_lemma => kernel_rfl) hsh (by decide) (by intro _ _ _ h; exact h) (by assumption) (Or.inl ⟨by rfl, ?hy⟩) ?_; (case hy => (intro W _; go_simp; (try with_reducible rfl))); clear hsh; intro hsh
                    refine wpAnyC_tail (by as_aux_lemma => kernel_rfl) (by simp) (by as_aux_lemma => kernel_rfl) ?_; simp only [List.drop_succ_cons, List.drop_zero]; clear hsh
                    go_wp2_with (fail)
                    go_roundw
                    case rel => exact ⟨k, by go_num, by omega, HRS.out, HST.out hn9, below_drewN HBS.out 1⟩
                    case measure => (first | (simp [intOf]; done) | (simp [intOf]; omega))
              · have m2 : (a.key.toList == x.key.toList) = false := by simpa using c2
                have hn9 : ¬ cmpT a x < 0 := fun h9 => by
                  have h8 := HLT.out.1 h9
                  rcases h8 with h8 | ⟨h8, _⟩
                  · exact c1 h8
                  · exact c2 h8
                go_wp2_with (fail)
                refine wp_region_chain (fun W' => (W'.cell? ⟨wr.heap.size + 1, 0, none⟩ = some (.string a.key) ∧ W'.cell? ⟨wr.heap.size + 1, 1, none⟩ = some (.int .i64 a.why) ∧ W'.cell? ⟨wr.heap.size + 1, 2, none⟩ = some (.string a.name) ∧ W'.cell? ⟨wr.heap.size + 1, 3, none⟩ = some (.int .i64 a.many)) ∧ (W'.cell? ⟨wr.heap.size, 0, none⟩ = some (.string x.key) ∧ W'.cell? ⟨wr.heap.size, 1, none⟩ = some (.int .i64 x.why) ∧ W'.cell? ⟨wr.heap.size, 2, none⟩ = some (.string x.name) ∧ W'.cell? ⟨wr.heap.size, 3, none⟩ = some (.int .i64 x.many))) 10 (by as_aux_lemma => kernel_rfl) (N := 11) (by as_aux_lemma => kernel_rfl) ?_; intro hsh
                have HS : (fun W' => (W'.cell? ⟨wr.heap.size + 1, 0, none⟩ = some (.string a.key) ∧ W'.cell? ⟨wr.heap.size + 1, 1, none⟩ = some (.int .i64 a.why) ∧ W'.cell? ⟨wr.heap.size + 1, 2, none⟩ = some (.string a.name) ∧ W'.cell? ⟨wr.heap.size + 1, 3, none⟩ = some (.int .i64 a.many)) ∧ (W'.cell? ⟨wr.heap.size, 0, none⟩ = some (.string x.key) ∧ W'.cell? ⟨wr.heap.size, 1, none⟩ = some (.int .i64 x.why) ∧ W'.cell? ⟨wr.heap.size, 2, none⟩ = some (.string x.name) ∧ W'.cell? ⟨wr.heap.size, 3, none⟩ = some (.int .i64 x.many))) w9.drew := ⟨⟨x0, x1, x2, x3⟩, y0, y1, y2, y3⟩
                refine wpAnyC_take0 (i := 0) (k := 10) (v := ?_) (d := some 65) rfl (by rfl) (by as_aux_lemma => kernel_rfl) (by as_aux_lemma => kernel_rfl) (by as_aux_lemma => kernel_rfl) hsh (by decide) (by intro _ _ _ h; exact h) (by assumption) (Or.inl ⟨by rfl, ?hy⟩) ?_; (case hy => (intro W _; go_simp; (try with_reducible rfl))); clear hsh; intro hsh
                refine wpAnyC_take0 (i := 1) (k := 10) (v := ?_) (d := some 66) rfl (by rfl) (by as_aux_lemma => kernel_rfl) (by as_aux_lemma => kernel_rfl) (by as_aux_lemma => kernel_rfl) hsh (by decide) (by intro _ _ _ h; exact h) (by assumption) (Or.inl ⟨by rfl, ?hy⟩) ?_; (case hy => (intro W _; go_simp; (try with_reducible rfl))); clear hsh; intro hsh
                refine wpAnyC_take0 (i := 2) (k := 10) (v := ?_) (d := some 67) rfl (by rfl) (by as_aux_lemma => kernel_rfl) (by as_aux_lemma => kernel_rfl) (by as_aux_lemma => kernel_rfl) hsh (by decide) (by intro _ _ _ h; exact h) (by assumption) (Or.inl ⟨by rfl, ?hy⟩) ?_; (case hy => (intro W _; go_simp; (try with_reducible rfl))); clear hsh; intro hsh
                refine wpAnyC_take0 (i := 3) (k := 10) (v := ?_) (d := some 68) rfl (by rfl) (by as_aux_lemma => kernel_rfl) (by as_aux_lemma => kernel_rfl) (by as_aux_lemma => kernel_rfl) hsh (by decide) (by intro _ _ _ h; exact h) (by assumption) (Or.inl ⟨by rfl, ?hy⟩) ?_; (case hy => (intro W _; go_simp; (try with_reducible rfl))); clear hsh; intro hsh
                refine wpAnyC_take0 (i := 4) (k := 10) (v := ?_) (d := some 69) rfl (by rfl) (by as_aux_lemma => kernel_rfl) (by as_aux_lemma => kernel_rfl) (by as_aux_lemma => kernel_rfl) hsh (by decide) (by intro _ _ _ h; exact h) (by assumption) (Or.inl ⟨by rfl, ?hy⟩) ?_; (case hy => (intro W _; go_simp; (try with_reducible rfl))); clear hsh; intro hsh
                refine wpAnyC_take (i := 5) (k := 10) (f := 40) (v := ?_) (d := some 70) rfl (by rfl) (by as_aux_lemma => kernel_rfl) (by as_aux_lemma => kernel_rfl) (by as_aux_lemma => kernel_rfl) hsh (by decide) (by as_aux_lemma => kernel_rfl) (by intro _ _ _ h; exact h) (by assumption) (Or.inl ⟨by rfl, ?hy⟩) ?_; (case hy => (rintro W ⟨⟨a0, a1, a2, a3⟩, y0, y1, y2, y3⟩; go_simp; (try with_reducible rfl))); clear hsh; intro hsh
                refine wpAnyC_take (i := 6) (k := 10) (f := 40) (v := ?_) (d := some 71) rfl (by rfl) (by as_aux_lemma => kernel_rfl) (by as_aux_lemma => kernel_rfl) (by as_aux_lemma => kernel_rfl) hsh (by decide) (by as_aux_lemma => kernel_rfl) (by intro _ _ _ h; exact h) (by assumption) (Or.inl ⟨by rfl, ?hy⟩) ?_; (case hy => (rintro W ⟨⟨a0, a1, a2, a3⟩, y0, y1, y2, y3⟩; go_simp; (try with_reducible rfl))); clear hsh; intro hsh
                refine wpAnyC_take0 (i := 7) (k := 10) (v := ?_) (d := some 72) rfl (by rfl) (by as_aux_lemma => kernel_rfl) (by as_aux_lemma => kernel_rfl) (by as_aux_lemma => kernel_rfl) hsh (by decide) (by intro _ _ _ h; exact h) (by assumption) (Or.inl ⟨by rfl, ?hy⟩) ?_; (case hy => (intro W _; go_simp; (try with_reducible rfl))); clear hsh; intro hsh
                refine wpAnyC_ready (rs := [8]) (by as_aux_lemma => kernel_rfl) (by simp) ?_; refine AllC.cons (i := 8) rfl (by as_aux_lemma => kernel_rfl) hsh (fun K hK => ?_) AllC.nil
                go_simp
                rw [HW8.out]
                have HSA : (fun W' => (W'.cell? ⟨wr.heap.size + 1, 0, none⟩ = some (.string a.key) ∧ W'.cell? ⟨wr.heap.size + 1, 1, none⟩ = some (.int .i64 a.why) ∧ W'.cell? ⟨wr.heap.size + 1, 2, none⟩ = some (.string a.name) ∧ W'.cell? ⟨wr.heap.size + 1, 3, none⟩ = some (.int .i64 a.many)) ∧ (W'.cell? ⟨wr.heap.size, 0, none⟩ = some (.string x.key) ∧ W'.cell? ⟨wr.heap.size, 1, none⟩ = some (.int .i64 x.why) ∧ W'.cell? ⟨wr.heap.size, 2, none⟩ = some (.string x.name) ∧ W'.cell? ⟨wr.heap.size, 3, none⟩ = some (.int .i64 x.many))) w8.drew := ⟨⟨(block_cell HN2.out 0).trans rfl, (block_cell HN2.out 1).trans rfl, (block_cell HN2.out 2).trans rfl, (block_cell HN2.out 3).trans rfl⟩, (block_cell HN1.out 0).trans rfl, (block_cell HN1.out 1).trans rfl, (block_cell HN1.out 2).trans rfl, (block_cell HN1.out 3).trans rfl⟩
                refine hK _ _ (fun _ => HSA) ?_
                clear hK K hsh HS
                intro hsh
                refine wpAnyC_take0 (i := 9) (k := 10) (v := ?_) (d := some 73) rfl (by rfl) (by as_aux_lemma => kernel_rfl) (by as_aux_lemma => kernel_rfl) (by as_aux_lemma => kernel_rfl) hsh (by decide) (by intro _ _ _ h; exact h) (by assumption) (Or.inl ⟨by rfl, ?hy⟩) ?_; (case hy => (intro W _; go_simp; (try with_reducible rfl))); clear hsh; intro hsh
                refine wpAnyC_tail (by as_aux_lemma => kernel_rfl) (by simp) (by as_aux_lemma => kernel_rfl) ?_; simp only [List.drop_succ_cons, List.drop_zero]; clear hsh
                go_wp2_with (fail)
                go_roundw
                case rel => exact ⟨k, by go_num, by omega, HRS.out, HST.out hn9, below_drewN HBS.out 1⟩
                case measure => (first | (simp [intOf]; done) | (simp [intOf]; omega))
    · have hki : ¬ (i : Int) < (l.length : Int) := by omega
      obtain rfl : l.length = i := by omega
      have e : stM l l.length = srtT l := by rw [stM, List.take_length, List.drop_length, List.append_nil]
      have HE := hide e
      clear e
      go_wp2_with (fail)
      go_ret
      refine ⟨_, rfl, ?_, hB⟩
      have h := hrow
      rw [HE.out] at h
      exact h
end Go.Proofs.YtkoijhecahebgaaDoor
