/- What the program reads of rules: ReadRules. -/
import Derived.Test.YtomihkflhhhpjaaDoorGuCt
namespace Go.Proofs.YtomihkflhhhpjaaDoor
open Go.RowKit
set_option linter.unusedVariables false
set_option linter.unusedSimpArgs false
def stSz (v : Value) : Nat := match v with | .string s => s.size | _ => 0
theorem info_rule : (Tryd.prog.info? 44).map (fun i => (i.zero, i.size, i.bytes)) = some (some (.agg #[.slice none 0 0, .slice none 0 0]), 2, 48) := by kernel_rfl
theorem und_rule : Tryd.prog.underlying 22 = some (.slice 44) := by kernel_rfl
theorem empty_str {s : ByteArray} (h : s.size = 0) : s = ⟨#[]⟩ := by rw [← bs_of s]; unfold bs; rw [empty_of h]
set_option maxRecDepth 100000 in
set_option maxHeartbeats 8000000 in
theorem ReadRules_any {t : ByteArray} {w : World} (hT1 : Tab 0 wM w) (hT2 : Tab 1 wA w) (hM : Mx w) :
    Calls Tryd.prog 5 #[.string t] w fun e w' => RRs t e w w' := by
  by_cases hbig : (1000000 : Int) < (t.size : Int)
  · have E := hide (show rdRules t = .error (0, 4) by rw [rdRules, if_pos (by omega)])
    have hbig' : (t.size : Int) > 1000000 := hbig
    go_enter Tryd.func5, Tryd.ntmps5
    go_wp2_with (fail)
    refine bodyPost_ret (by simp [results, Tryd.results5, go_sem]; try rfl) rfl ?_
    exact ⟨Below.refl _ _, by rw [E.out]; rfl⟩
  · obtain ⟨i0, hi0, iz0, iz1, iz2⟩ := ia_parts info_rule
    have htl := tsz t
    have ht : t.size ≤ 1000000 := by omega
    have hbig' : ¬ (t.size : Int) > 1000000 := hbig
    have HT1 := hide (fun W (hb : Below w.heap.size w W) => hT1.below hb)
    have HT2 := hide (fun W (hb : Below w.heap.size w W) => hT2.below hb)
    have HM := hide (fun W (hb : Below w.heap.size w W) => hM.up hb (Nat.le_refl _))
    have ER := hide (show rdRules t = match rdLines (t.data.toList.length + 1) t.data.toList 1 [] with
      | .error k => .error (k, 8)
      | .ok l => if rlsP l = 0 then .ok l else .error (0, rlsP l) by rw [rdRules, if_neg (by omega)]; rfl)
    clear hT1 hT2 hM hbig
    go_enter Tryd.func5, Tryd.ntmps5
    go_wp2_with (fail)
    go_loopw [0, 5, 6] (fun v0 v5 v6 wr => ∃ (s : ByteArray) (xs : List Rul) (A : Option Addr) (c f k : Nat), v0 = .string s ∧ v5 = .slice A xs.length c ∧ v6 = .int .i64 (k : Int) ∧ Below w.heap.size w wr ∧
      wr.ownsRow w.heap.size 44 2 (.slice A xs.length c) xs.length (xs.flatMap Rul.cs) ∧ (∀ x ∈ xs, RlO w.heap.size x wr) ∧ rdLines (t.data.toList.length + 1) t.data.toList 1 [] = rdLines f s.data.toList k (xs.map Rul.pr) ∧ s.size < f ∧ xs.length + s.size ≤ t.size ∧ k = xs.length + 1) (fun v0 _ _ _ => stSz v0)
    case atStart => exact ⟨t, [], none, 0, _, 1, rfl, rfl, rfl, Below.refl _ _, World.ownsRow_nil _ _ _ _, by simp, rfl, by omega, by simp, rfl⟩
    case round =>
      obtain ⟨s, xs, A, c, f, k, rfl, rfl, rfl, hbe, hown, hok, heq, hsf, hlen, hk⟩ := hrel
      have HBE := hide hbe
      have HOW := hide hown
      have HOK := hide hok
      have hsl := tsz s
      have hz := hbe.size
      subst hk
      obtain ⟨f', rfl⟩ : ∃ f', f = f' + 1 := ⟨f - 1, by omega⟩
      clear hbe hown hok
      by_cases h0 : s.size = 0
      · have EL := hide (show rdLines (t.data.toList.length + 1) t.data.toList 1 [] = .ok (xs.map Rul.pr) by rw [heq, rdLines, if_pos (empty_of h0)])
        have e1 : s.toList = [] := by rw [ByteArray.toList_eq]; exact empty_of h0
        have e2 : s.toList.isEmpty = true := by rw [e1]; rfl
        have HSL := hide (show Sl wr wr.heap.size Rul.cs 2 A xs.length xs by
          obtain ⟨A', c', e9, s9, _⟩ := sl_of_own (f := Rul.cs) (fun _ => rfl) rfl HOW.out
          cases e9
          exact s9)
        have HRO := hide (show RulesOk wr xs from fun x hx => (HOK.out x hx).ok)
        have CC := hide (CheckRules_any A xs.length c xs wr (by unfold maxLen; omega) HSL.out HRO.out)
        clear heq
        by_cases hno : rlsE xs = 0
        · have E := hide (show rdRules t = .ok (xs.map Rul.pr) by rw [ER.out, EL.out]; show (if _ then _ else _) = _; rw [if_pos (by rw [rlsP_pr]; exact hno)])
          rw [hno] at CC
          clear hno
          go_wp2_with (go_at_call 14; refine CC.out.mono ?_; rintro e w2 ⟨rfl, hb⟩; have HB2 := hide hb; clear hb)
          refine bodyPost_ret (by simp [results, Tryd.results5, go_sem]; try rfl) rfl ?_
          refine ⟨HBE.out.trans (HB2.out.mono hz), ?_⟩
          rw [E.out]
          exact ⟨A, c, xs, rfl, HSL.out.up HB2.out, HRO.out.up HB2.out, rfl, by omega⟩
        · have E := hide (show rdRules t = .error (0, rlsE xs) by rw [ER.out, EL.out]; show (if _ then _ else _) = _; rw [if_neg (by rw [rlsP_pr]; exact hno), rlsP_pr])
          obtain ⟨no, hno2⟩ : ∃ no, rlsE xs = no := ⟨_, rfl⟩
          rw [hno2] at CC hno E
          have hno' : (no == 0) = false := beq_eq_false_iff_ne.2 hno
          clear hno2
          go_wp2_with (go_at_call 14; refine CC.out.mono ?_; rintro e w2 ⟨rfl, hb⟩; have HB2 := hide hb; clear hb)
          refine bodyPost_ret (by simp [results, Tryd.results5, go_sem]; try rfl) rfl ?_
          refine ⟨HBE.out.trans (HB2.out.mono hz), ?_⟩
          rw [E.out]
          rfl
      · have hs0 : 0 < s.size := by omega
        have e1 : ¬ s.toList = [] := by rw [ByteArray.toList_eq]; exact ne_nil hs0
        have e2 : s.toList.isEmpty = false := by simpa using e1
        have EL := hide (heq.trans (show rdLines (f' + 1) s.data.toList (xs.length + 1) (xs.map Rul.pr) = match cutK s 10, rdRule (cutL s 10).data.toList with
          | true, some r => rdLines f' (cutR s 10).data.toList (xs.length + 1 + 1) (xs.map Rul.pr ++ [r])
          | _, _ => .error (xs.length + 1) by rw [rdLines, if_neg (ne_nil hs0)]; rfl))
        have hc1 := (cut_size s 10).1
        have hc2 := cut_dec s 10 hs0
        have CC := hide (Cut_any s 10 wr (by omega) (HM.out wr HBE.out))
        have HL := tsz (cutL s 10)
        have HR := tsz (cutR s 10)
        obtain ⟨sl, hsl'⟩ : ∃ sl, cutL s 10 = sl := ⟨_, rfl⟩
        obtain ⟨sr, hsr'⟩ : ∃ sr, cutR s 10 = sr := ⟨_, rfl⟩
        obtain ⟨ck, hck⟩ : ∃ ck, cutK s 10 = ck := ⟨_, rfl⟩
        rw [hsl', hsr', hck] at EL CC
        rw [hsl'] at hc1 HL
        rw [hsr'] at hc2 HR
        clear heq hsl' hsr' hck
        have CR := hide (fun W (hb : Below w.heap.size w W) => readRule_any (t := sl) (w := W) (by omega) (HT1.out W hb) (HT2.out W hb))
        go_wp2_with (go_at_call 12; refine CC.out.mono ?_; rintro e w2 ⟨rfl, hb⟩; have HB2 := hide (HBE.out.trans (hb.mono hz)); have HOW2 := hide (own_below HOW.out hb); have HOK2 := hide (fun x hx => (HOK.out x hx).below hb); clear hb)
        refine (CR.out w2 HB2.out).mono ?_
        rintro e w5 ⟨hb5, hres⟩
        have hz2 := HB2.out.size
        have HB5 := hide (HB2.out.trans (hb5.mono hz2))
        have HOW5 := hide (own_below HOW2.out hb5)
        have HOK5 := hide (fun x hx => (HOK2.out x hx).below hb5)
        clear hb5
        rcases hres with ⟨hn, A1, n1, c1, A2, n2, c2, rfl⟩ | ⟨ms, ac, v1, v2, hs, rfl, o1, o2, l1, l2, g1, g2⟩
        · have E := hide (show rdRules t = .error (xs.length + 1, 8) by rw [ER.out, EL.out, hn]; cases ck <;> rfl)
          clear hn
          have HB6 := hide (HB5.out.alloc HB5.out.size (.cells #[.slice A1 n1 c1, .slice A2 n2 c2] 44))
          cases ck <;> (
          go_wp2_with (fail)
          refine bodyPost_ret (by simp [results, Tryd.results5, go_sem]; try rfl) rfl ?_
          refine ⟨HB6.out, ?_⟩
          rw [E.out]
          rfl)
        · obtain ⟨A1, c1, rfl⟩ := own_sl o1
          obtain ⟨A2, c2, rfl⟩ := own_sl o2
          have HB6 := hide (HB5.out.alloc HB5.out.size (.cells #[.slice A1 ms.length c1, .slice A2 ac.length c2] 44))
          cases ck with
          | false =>
            have E := hide (show rdRules t = .error (xs.length + 1, 8) by rw [ER.out, EL.out])
            clear o1 o2 g1 g2 hs
            go_wp2_with (fail)
            refine bodyPost_ret (by simp [results, Tryd.results5, go_sem]; try rfl) rfl ?_
            refine ⟨HB6.out, ?_⟩
            rw [E.out]
            rfl
          | true =>
            obtain ⟨x, hx⟩ : ∃ x : Rul, (⟨A1, ms.length, c1, ms, A2, ac.length, c2, ac⟩ : Rul) = x := ⟨_, rfl⟩
            have hxc : x.cs = [.slice A1 ms.length c1, .slice A2 ac.length c2] := by rw [← hx]; rfl
            have EN := hide (show rdLines (t.data.toList.length + 1) t.data.toList 1 [] = rdLines f' sr.data.toList (xs.length + 1 + 1) ((xs ++ [x]).map Rul.pr) by rw [EL.out, hs, List.map_append, ← hx]; rfl)
            have HX := hide (show RlO w.heap.size x w5 by
              rw [← hx]
              exact ⟨own_base o1 hz2, own_base o2 hz2, rfl, rfl, fun m hm => by have := g1 m hm; omega, fun m hm => by have := g2 m hm; omega, by show ms.length ≤ _; omega, by show ac.length ≤ _; omega⟩)
            clear o1 o2 g1 g2 hs hx
            have HO6 := hide (show (w5.alloc (.cells #[.slice A1 ms.length c1, .slice A2 ac.length c2] 44)).ownsRow _ _ _ _ _ _ from HOW5.out.alloc _)
            have HO7 := hide (show ((w5.alloc (.cells #[.slice A1 ms.length c1, .slice A2 ac.length c2] 44)).alloc (.cells #[.slice A1 ms.length c1, .slice A2 ac.length c2] 44)).ownsRow _ _ _ _ _ _ from HO6.out.alloc _)
            have hw57 : Below w5.heap.size w5 ((w5.alloc (.cells #[.slice A1 ms.length c1, .slice A2 ac.length c2] 44)).alloc (.cells #[.slice A1 ms.length c1, .slice A2 ac.length c2] 44)) := ((Below.refl _ _).alloc (Nat.le_refl _) _).alloc (by simp) _
            have HOK7 := hide (show ∀ y ∈ xs ++ [x], RlO w.heap.size y ((w5.alloc (.cells #[.slice A1 ms.length c1, .slice A2 ac.length c2] 44)).alloc (.cells #[.slice A1 ms.length c1, .slice A2 ac.length c2] 44)) from fun y hy => by
              rcases List.mem_append.1 hy with h | h
              · exact (HOK5.out y h).below hw57
              · rw [List.mem_singleton.1 h]; exact HX.out.below hw57)
            have HB7 := hide (HB5.out.trans (hw57.mono HB5.out.size))
            have HM6 := hide (show (w5.alloc (.cells #[.slice A1 ms.length c1, .slice A2 ac.length c2] 44)).heap[w5.heap.size]? = some (.cells #[.slice A1 ms.length c1, .slice A2 ac.length c2] 44 (0, 0)) from heap_alloc_new w5 _)
            have m0 : (w5.alloc (.cells #[.slice A1 ms.length c1, .slice A2 ac.length c2] 44)).cell? ⟨w5.heap.size, 0, none⟩ = some (.slice A1 ms.length c1) := (block_cell HM6.out 0).trans rfl
            have m1 : (w5.alloc (.cells #[.slice A1 ms.length c1, .slice A2 ac.length c2] 44)).cell? ⟨w5.heap.size, 1, none⟩ = some (.slice A2 ac.length c2) := (block_cell HM6.out 1).trans rfl
            have hz5 := HB5.out.size
            clear hw57
            go_wp2_with (at_builtin; refine wpList_append_own_at _ rfl (.tmp 38) (.tmp 40) 22 rfl w.heap.size 44 i0 (.agg #[.slice none 0 0, .slice none 0 0]) 2 48 (by exact und_rule) hi0 iz0 iz1 iz2 rfl (by decide) (.slice A xs.length c) xs.length (xs.flatMap Rul.cs) rfl HO7.out ⟨(w5.alloc (.cells #[.slice A1 ms.length c1, .slice A2 ac.length c2] 44)).heap.size, 0, none⟩ 1 1 [.slice A1 ms.length c1, .slice A2 ac.length c2] (by first | rfl | go_simp) rfl (cells_at (w5.alloc (.cells #[.slice A1 ms.length c1, .slice A2 ac.length c2] 44)) [.slice A1 ms.length c1, .slice A2 ac.length c2] _ _ rfl) (by intro u hu; simp at hu; rcases hu with rfl | rfl <;> rfl) (by unfold maxLen; omega) (by omega) (by simp; omega) ?_; intro v8 w8 hown8 hg8 _ hat8; obtain ⟨A8, c8, rfl⟩ := own_sl hown8; have HOK8 := hide (fun y hy => (HOK7.out y hy).grown HO7.out hg8); have HB8 := hide (HB7.out.grown hg8 (by simp; omega) (fun k hk => (HO7.out.lt k hk).1)); have HOW8 := hide (show w8.ownsRow w.heap.size 44 2 (.slice A8 (xs ++ [x]).length c8) (xs ++ [x]).length ((xs ++ [x]).flatMap Rul.cs) by rw [List.flatMap_append, List.length_append, List.flatMap_singleton, hxc]; exact hown8); clear hown8 hg8 hat8)
            go_roundw
            case rel => exact ⟨sr, xs ++ [x], A8, c8, f', xs.length + 1 + 1, rfl, by rw [List.length_append]; rfl, by go_num, HB8.out, HOW8.out, HOK8.out, EN.out, by omega, by rw [List.length_append]; simp; omega, by simp⟩
            case measure => show sr.size < s.size; omega
end Go.Proofs.YtomihkflhhhpjaaDoor
