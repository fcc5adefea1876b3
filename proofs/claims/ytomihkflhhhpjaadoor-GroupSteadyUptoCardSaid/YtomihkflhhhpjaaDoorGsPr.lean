/- Parts and Print of one fault without frames. -/
import Derived.Test.YtomihkflhhhpjaaDoorGsMk
namespace Go.Proofs.YtomihkflhhhpjaaDoor
open Go.RowKit
set_option linter.unusedVariables false
set_option linter.unusedSimpArgs false
theorem info_str9 : (Tryd.prog.info? 9).map (fun i => (i.zero, i.size, i.bytes)) = some (some (.string ByteArray.empty), 1, 16) := by kernel_rfl
set_option maxRecDepth 100000 in
set_option maxHeartbeats 4000000 in
theorem partsOf_one (fb fo fc : Nat) (kind text : ByteArray) (w : World) (hk : w.cell? ⟨fb, fo, none⟩ = some (.string kind)) (ht : w.cell? ⟨fb, fo + 1, none⟩ = some (.string text)) (hn : w.cell? ⟨fb, fo + 2, none⟩ = some (.slice none 0 0)) (hfb : fb < w.heap.size) (hts : text.size ≤ 46912496118442) :
    Calls Tryd.prog 49 #[.slice none 0 0, .slice (some ⟨fb, fo, none⟩) 1 fc] w fun e w' => ∃ v, e = .returned v ∧ w'.ownsRow w.heap.size 9 1 v 2 [.string kind, .string ⟨(pl text.data.toList).toArray⟩] ∧ Below w.heap.size w w' := by
  obtain ⟨i0, hi0, iz0, iz1, iz2⟩ := gs_parts info_str9
  have HC := hide (show ∀ V, Below w.heap.size w V → V.cell? ⟨fb, fo, none⟩ = some (.string kind) ∧ V.cell? ⟨fb, fo + 1, none⟩ = some (.string text) ∧ V.cell? ⟨fb, fo + 2, none⟩ = some (.slice none 0 0) from fun V hb => ⟨(hb.cell (p := ⟨fb, fo, none⟩) hfb).trans hk, (hb.cell (p := ⟨fb, fo + 1, none⟩) hfb).trans ht, (hb.cell (p := ⟨fb, fo + 2, none⟩) hfb).trans hn⟩)
  have CM := hide (mark_one fb fo fc kind text w hk ht hn hfb)
  clear hk ht hn
  go_enter Tryd.func49, Tryd.ntmps49
  go_wp2_with (fail)
  refine CM.out.mono ?_
  rintro e w1 ⟨z, sp, c, rfl, hm, hb1⟩
  obtain ⟨⟨g, hbx, hgc, hgl⟩, hlo⟩ := hm
  have x4 : w1.cell? ⟨z, 4, none⟩ = some (.string ⟨#[]⟩) := (block_cell hbx 4).trans rfl
  have HM := hide (show MK w.heap.size z (.slice (some ⟨fb, fo, none⟩) 1 fc) sp c w1 from ⟨⟨g, hbx, hgc, hgl⟩, hlo⟩)
  have HB1 := hide hb1
  have hz1 := hb1.size
  clear hbx hgc hgl hb1 CM
  go_wp2_with (fail)
  go_loopw [6, 29] (fun v ti wr => ∃ j : Nat, j ≤ 1 ∧ v = .slice none 0 0 ∧ ti = .int .i64 (j : Int) ∧ Below w1.heap.size w1 wr) (fun _ ti _ => 1 - (intOf ti).toNat)
  case atStart => exact ⟨0, Nat.zero_le _, rfl, rfl, Below.refl _ _⟩
  case round =>
    obtain ⟨j, hj, rfl, rfl, hB⟩ := hrel
    obtain ⟨c0, c1, c2⟩ := HC.out wr (HB1.out.trans (hB.mono hz1))
    have hzr := hB.size
    obtain rfl | rfl : j = 0 ∨ j = 1 := by omega
    · obtain ⟨⟨g, hbx, hgc, hgl⟩, hlo⟩ := HM.out.below hB
      have hzl := lt_of_block hbx
      have x1 : wr.cell? ⟨z, 1, none⟩ = some (.slice (some ⟨g, 0, none⟩) 1 c) := (block_cell hbx 1).trans rfl
      have HB := hide hB
      clear hbx hB
      rename World => wo
      obtain ⟨wa, hwa⟩ : ∃ wa, wo.alloc (.cells #[.string kind, .string text, .slice none 0 0] 36) = wa := ⟨_, rfl⟩
      have HBA := hide (show Below w1.heap.size w1 wa from hwa ▸ HB.out.alloc hzr _)
      have HWA := hide hwa
      clear hwa
      go_wp2_with (fail)
      (try rw [HWA.out])
      go_loopw [6, 9, 42] (fun v f ti w9 => v = .slice none 0 0 ∧ f = .bool true ∧ ti = .int .i64 0 ∧ w9 = wa) (fun _ _ ti _ => 0)
      case atStart => exact ⟨rfl, rfl, rfl, by trivial⟩
      case round =>
        obtain ⟨rfl, rfl, rfl, hh⟩ := hrel
        obtain rfl := hh.symm
        go_wp2_with (fail)
        go_roundw
        case rel => exact ⟨1, Nat.le_refl _, by first | rfl | trivial, by go_num, HBA.out⟩
        case measure => simp [intOf]
    · have HB := hide (HB1.out.trans (hB.mono hz1))
      clear hB c0 c1 c2
      rename World => wo
      go_wp2_with (fail)
      go_loopw [6, 74] (fun v ti wr => ∃ j : Nat, j ≤ 1 ∧ ti = .int .i64 (j : Int) ∧ Below w.heap.size w wr ∧ (j = 0 → v = .slice none 0 0) ∧ (j = 1 → wr.ownsRow w.heap.size 9 1 v 2 [.string kind, .string ⟨(pl text.data.toList).toArray⟩])) (fun _ ti _ => 1 - (intOf ti).toNat)
      case atStart => exact ⟨0, Nat.zero_le _, rfl, HB.out, fun _ => rfl, fun h => absurd h (by decide)⟩
      case round =>
        obtain ⟨j, hj, rfl, hB, h0, h1⟩ := hrel
        obtain ⟨c0, c1, c2⟩ := HC.out wr hB
        have hzr := hB.size
        obtain rfl | rfl : j = 0 ∨ j = 1 := by omega
        · obtain rfl := h0 rfl
          clear h0 h1
          rename World => wi
          obtain ⟨wa, hwa⟩ : ∃ wa, wi.alloc (.cells #[.string kind, .string text, .slice none 0 0] 36) = wa := ⟨_, rfl⟩
          have hba := (hB.alloc hzr (.cells #[.string kind, .string text, .slice none 0 0] 36))
          have HFB := hide (show wa.heap[wi.heap.size]? = some (.cells #[.string kind, .string text, .slice none 0 0] 36 (0, 0)) from hwa ▸ heap_alloc_new wi _)
          have HBA := hide (show Below w.heap.size w wa from hwa ▸ hba)
          have HWA := hide hwa
          have hza := HBA.out.size
          have HSS := hide (show ∀ V, Below wa.heap.size wa V → (fun V => V.cell? ⟨wi.heap.size, 0, none⟩ = some (.string kind) ∧ V.cell? ⟨wi.heap.size, 1, none⟩ = some (.string text)) V from fun V hb => ⟨(block_cell (block_below HFB.out hb) 0).trans rfl, (block_cell (block_below HFB.out hb) 1).trans rfl⟩)
          have CP := hide (fun W => Plain_any text W hts)
          clear hwa hba hB
          go_wp2_with (fail)
          refine wp_region_chain (fun V => V.cell? ⟨wi.heap.size, 0, none⟩ = some (.string kind) ∧ V.cell? ⟨wi.heap.size, 1, none⟩ = some (.string text)) 7 (by as_aux_lemma => kernel_rfl) (N := 9) (by as_aux_lemma => kernel_rfl) ?_; intro hsh
          rw [HWA.out]
          have HS0 := HSS.out wa.drew (below_drewN (Below.refl _ _) 1)
          refine wpAnyC_take0 (i := 0) (k := 7) (v := ?_) (d := some 78) rfl (by rfl) (by as_aux_lemma => kernel_rfl) (by as_aux_lemma => kernel_rfl) (by as_aux_lemma => kernel_rfl) hsh (by decide) (by intro _ _ _ h; exact h) (by assumption) (Or.inl ⟨by rfl, ?hy⟩) ?_; (case hy => (intro W _; go_simp; (try with_reducible rfl))); clear hsh; intro hsh
          refine wpAnyC_take0 (i := 1) (k := 7) (v := ?_) (d := some 79) rfl (by rfl) (by as_aux_lemma => kernel_rfl) (by as_aux_lemma => kernel_rfl) (by as_aux_lemma => kernel_rfl) hsh (by decide) (by intro _ _ _ h; exact h) (by assumption) (Or.inl ⟨by rfl, ?hy⟩) ?_; (case hy => (intro W _; go_simp; (try with_reducible rfl))); clear hsh; intro hsh
          refine wpAnyC_take (i := 2) (k := 7) (f := 40) (v := ?_) (d := some 80) rfl (by rfl) (by as_aux_lemma => kernel_rfl) (by as_aux_lemma => kernel_rfl) (by as_aux_lemma => kernel_rfl) hsh (by decide) (by as_aux_lemma => kernel_rfl) (by intro _ _ _ h; exact h) (by assumption) (Or.inl ⟨by rfl, ?hy⟩) ?_; (case hy => (rintro W ⟨b1, b2⟩; go_simp; (try with_reducible rfl))); clear hsh; intro hsh
          refine wpAnyC_take0 (i := 3) (k := 7) (v := ?_) (d := some 81) rfl (by rfl) (by as_aux_lemma => kernel_rfl) (by as_aux_lemma => kernel_rfl) (by as_aux_lemma => kernel_rfl) hsh (by decide) (by intro _ _ _ h; exact h) (by assumption) (Or.inl ⟨by rfl, ?hy⟩) ?_; (case hy => (intro W _; go_simp; (try with_reducible rfl))); clear hsh; intro hsh
          refine wpAnyC_take (i := 4) (k := 7) (f := 40) (v := ?_) (d := some 82) rfl (by rfl) (by as_aux_lemma => kernel_rfl) (by as_aux_lemma => kernel_rfl) (by as_aux_lemma => kernel_rfl) hsh (by decide) (by as_aux_lemma => kernel_rfl) (by intro _ _ _ h; exact h) (by assumption) (Or.inl ⟨by rfl, ?hy⟩) ?_; (case hy => (rintro W ⟨b1, b2⟩; go_simp; (try with_reducible rfl))); clear hsh; intro hsh
          refine wpAnyC_ready (rs := [5]) (by as_aux_lemma => kernel_rfl) (by simp) ?_; refine AllC.cons (i := 5) rfl (by as_aux_lemma => kernel_rfl) hsh (fun K hK => ?_) AllC.nil
          go_simp
          go_at_call 9
          refine (CP.out wa.drew).mono ?_
          rintro e w4 ⟨rfl, hb4⟩
          have hb4' : Below wa.heap.size wa w4 := (below_drewN (Below.refl wa.heap.size wa) 1).trans hb4
          have HB4 := hide (HBA.out.trans (hb4'.mono hza))
          have HS4 := HSS.out w4 hb4'
          have HS5 := HSS.out (w4.alloc (.cells #[.string kind, .string ⟨(pl text.data.toList).toArray⟩] 9)) (hb4'.alloc hb4'.size _)
          have hz4 := HB4.out.size
          try go_simp
          refine hK _ _ (fun _ => HS4) ?_
          clear hK K hsh HS0 hb4 hb4'
          intro hsh
          refine wpAnyC_ready (rs := [6]) (by as_aux_lemma => kernel_rfl) (by simp) ?_; refine AllC.cons (i := 6) rfl (by as_aux_lemma => kernel_rfl) hsh (fun K hK => ?_) AllC.nil
          go_simp
          refine hK _ _ (fun _ => HS5) ?_
          clear hK K hsh
          intro hsh
          refine wpAnyC_tail (by as_aux_lemma => kernel_rfl) (by simp) (by as_aux_lemma => kernel_rfl) ?_; simp only [List.drop_succ_cons, List.drop_zero]; clear hsh
          go_simp
          clear HS4 HS5
          go_wp2_with (at_builtin; refine wpList_append_own_at _ rfl (.tmp 78) (.tmp 84) 48 rfl w.heap.size 9 i0 (.string ByteArray.empty) 1 16 Tryd.underlying48 hi0 iz0 iz1 iz2 rfl (by decide) (.slice none 0 0) 0 [] (by go_simp) (World.ownsRow_nil _ _ _ _) ⟨w4.heap.size, 0, none⟩ 2 2 [.string kind, .string ⟨(pl text.data.toList).toArray⟩] (by go_simp) rfl (cells_at _ [.string kind, .string ⟨(pl text.data.toList).toArray⟩] _ _ rfl) (by intro u hu; simp at hu; rcases hu with rfl | rfl <;> rfl) (by unfold maxLen; omega) (by omega) (by simp; omega) ?_; intro vb wb hownb hgb _ hatb; obtain ⟨Ab, cb, rfl⟩ := own_sl hownb; have HOB := hide hownb; have HBB := hide ((HB4.out.alloc hz4 _).grown hgb (by simp; omega) (fun j hj => by cases hj)); clear hownb hgb hatb)
          go_roundw
          case rel => exact ⟨_, _, _, ⟨1, Nat.le_refl _, rfl, HBB.out, (fun h => absurd h (by decide)), fun _ => HOB.out⟩, rfl, rfl, rfl⟩
          case measure => simp [intOf]
        · have HO := hide (h1 rfl)
          have HB := hide hB
          clear h0 h1 hB
          go_wp2_with (fail)
          refine bodyPost_ret (by simp [results, Tryd.results49, go_sem]; try rfl) rfl ?_
          exact ⟨_, rfl, HO.out, HB.out⟩
theorem row_ss {B n : Nat} {w : World} {v : Value} {l : List ByteArray} (h : w.ownsRow B 9 1 v n (l.map Value.string)) (hn : l.length = n) : ∃ A c, v = .slice A n c ∧ Sl w w.heap.size ss 1 A n l := by
  rcases h.2 with ⟨rfl, rfl⟩ | ⟨g, cap, cur, rfl, hg⟩
  · exact ⟨none, 0, rfl, by rw [List.eq_nil_of_length_eq_zero hn]; exact Sl.nil _ _ _ _ _⟩
  · refine ⟨_, _, rfl, hn, fun h0 => ⟨g, 0, rfl, (h.lt g rfl).2, fun i a ha j v hv => ?_⟩⟩
    have hj : j = 0 := by
      have := (List.getElem?_eq_some_iff.1 hv).1
      simp [ss] at this
      omega
    subst hj
    have h9 := own_cell h i (.string a) (by rw [List.getElem?_map, ha]; rfl)
    rw [show v = .string a by simpa [ss] using hv.symm]
    simpa using h9
/-- The errno of one fault without frames. -/
def oneE (kind text : ByteArray) : Int := if 200 < kind.size then 4 else if kindB kind = false then 9 else if emptyB kind = true then 1 else if 2000 < text.size then 4 else if textB text = false then 9 else 0
theorem fltsErr_one (kind text : ByteArray) : fltsErr [⟨kind, text, none, 0, 0, []⟩] = oneE kind text := by
  have h : fltErr ⟨kind, text, none, 0, 0, []⟩ = oneE kind text := by
    unfold fltErr oneE
    rfl
  rw [fltsErr, if_neg (by simp), if_neg (by simp)]
  show firstErr _ 1 = _
  rw [← h]
  have e0 : ∀ f, firstErr f 0 = 0 := fun f => rfl
  unfold firstErr
  simp [e0, fltAt]
set_option maxHeartbeats 2000000 in
theorem Print_one (fb fo fc : Nat) (kind text : ByteArray) (w : World) (hk : w.cell? ⟨fb, fo, none⟩ = some (.string kind)) (ht : w.cell? ⟨fb, fo + 1, none⟩ = some (.string text)) (hn : w.cell? ⟨fb, fo + 2, none⟩ = some (.slice none 0 0)) (hfb : fb < w.heap.size) (hts : text.size ≤ 46912496118442) (hks : kind.size ≤ maxLen)
    (hps : (pl text.data.toList).length ≤ maxLen) (h : w.cell? ⟨9, 15, none⟩ = some (.int .u8 4)) (h3 : 9 < w.heap.size) :
    Calls Tryd.prog 10 #[.slice none 0 0, .slice (some ⟨fb, fo, none⟩) 1 fc] w fun e w' => e = .returned (.tuple #[.string (if oneE kind text = 0 then ⟨(dgT [kind, ⟨(pl text.data.toList).toArray⟩]).toArray⟩ else ⟨#[]⟩), .int .i64 (oneE kind text)]) ∧ Below w.heap.size w w' := by
  have hfl : (⟨kind, text, none, 0, 0, []⟩ : FaultT).ok w := ⟨hks, (show text.size ≤ maxLen by unfold maxLen; omega), Nat.zero_le _, Nat.le_refl _, Sl.nil _ _ _ _ _, fun x hx => by simp at hx⟩
  have hsl : Sl w w.heap.size FaultT.cs 3 (some ⟨fb, fo, none⟩) 1 [⟨kind, text, none, 0, 0, []⟩] := ⟨rfl, fun _ => ⟨fb, fo, rfl, hfb, fun i a ha j v hv => by
    have hi : i = 0 := by
      have := (List.getElem?_eq_some_iff.1 ha).1
      simp at this
      omega
    subst hi
    obtain rfl : (⟨kind, text, none, 0, 0, []⟩ : FaultT) = a := by simpa using ha
    have hj := (List.getElem?_eq_some_iff.1 hv).1
    simp only [FaultT.cs, List.length_cons, List.length_nil] at hj
    obtain rfl | rfl | rfl : j = 0 ∨ j = 1 ∨ j = 2 := by omega
    · rw [← Option.some.inj hv]; simpa using hk
    · rw [← Option.some.inj hv]; simpa using ht
    · rw [← Option.some.inj hv]; simpa using hn⟩⟩
  have CC := hide (Check_any (some ⟨fb, fo, none⟩) 1 fc _ w (by decide) hsl (fun x hx => by rw [List.mem_singleton.1 hx]; exact hfl))
  rw [fltsErr_one] at CC
  obtain ⟨er, her⟩ : ∃ er, oneE kind text = er := ⟨_, rfl⟩
  rw [her] at CC ⊢
  have HC := hide (show ∀ V, Below w.heap.size w V → V.cell? ⟨fb, fo, none⟩ = some (.string kind) ∧ V.cell? ⟨fb, fo + 1, none⟩ = some (.string text) ∧ V.cell? ⟨fb, fo + 2, none⟩ = some (.slice none 0 0) ∧ fb < V.heap.size from fun V hb => ⟨(hb.cell (p := ⟨fb, fo, none⟩) hfb).trans hk, (hb.cell (p := ⟨fb, fo + 1, none⟩) hfb).trans ht, (hb.cell (p := ⟨fb, fo + 2, none⟩) hfb).trans hn, Nat.lt_of_lt_of_le hfb hb.size⟩)
  have HT := hide (show ∀ W, Below w.heap.size w W → W.cell? ⟨9, 15, none⟩ = some (.int .u8 4) ∧ 9 < W.heap.size from fun W hb => ⟨(hb.cell (p := ⟨9, 15, none⟩) h3).trans h, Nat.lt_of_lt_of_le h3 hb.size⟩)
  clear hk ht hn hfl hsl h her
  have CB := hide (show Calls Tryd.prog 48 #[.slice none 0 0, .slice (some ⟨fb, fo, none⟩) 1 fc] w fun e w' => e = .returned (.int .i64 er) ∧ Below w.heap.size w w' from by
    go_enter Tryd.func48, Tryd.ntmps48
    go_wp2_with (first | (go_at_call 14; refine (CheckRules_nil _).mono ?_; rintro e w1 ⟨rfl, hh⟩; obtain rfl := hh.symm) | (go_at_call 65; refine CC.out.mono ?_; rintro e w2 ⟨rfl, hw2⟩))
    go_ret
    exact ⟨rfl, hw2⟩)
  by_cases h0 : er = 0
  · subst h0
    have CP := hide (show Calls Tryd.prog 30 #[.slice none 0 0, .slice (some ⟨fb, fo, none⟩) 1 fc] w fun e w' => ∃ A c, e = .returned (.tuple #[.slice A 2 c, .int .i64 0]) ∧ Sl w' w'.heap.size ss 1 A 2 [kind, ⟨(pl text.data.toList).toArray⟩] ∧ Below w.heap.size w w' from by
      go_enter Tryd.func30, Tryd.ntmps30
      go_wp2_with (go_at_call 48; refine CB.out.mono ?_; rintro e w1 ⟨rfl, hw1⟩; have HB1 := hide hw1; clear hw1)
      obtain ⟨c0, c1, c2, c3⟩ := HC.out w1 HB1.out
      refine (partsOf_one fb fo fc kind text w1 c0 c1 c2 c3 hts).mono ?_
      rintro e w2 ⟨v, rfl, hr, hw2⟩
      obtain ⟨A, c, rfl, hsl⟩ := row_ss (l := [kind, ⟨(pl text.data.toList).toArray⟩]) hr rfl
      have HSL := hide hsl
      have HB2 := hide (HB1.out.trans (hw2.mono HB1.out.size))
      clear hr hsl hw2 c0 c1 c2
      go_wp2_with (fail)
      refine bodyPost_ret (by simp [results, Tryd.results30, go_sem]; try rfl) rfl ?_
      exact ⟨A, c, rfl, HSL.out, HB2.out⟩)
    go_enter Tryd.func10, Tryd.ntmps10
    go_wp2_with (go_at_call 30; refine CP.out.mono ?_; rintro e w1 ⟨A, c, rfl, hsl, hw1⟩; have HSL := hide hsl; have HB1 := hide hw1; clear hsl hw1)
    obtain ⟨t1, t2⟩ := HT.out w1 HB1.out
    refine (Digest_any A 2 c _ w1 HSL.out (by decide) (fun s hs => ?_) t1 t2).mono ?_
    · simp only [List.mem_cons, List.not_mem_nil, or_false] at hs
      rcases hs with rfl | rfl
      · exact hks
      · simpa [ByteArray.size] using hps
    rintro e w2 ⟨rfl, hw2⟩
    have HB2 := hide (HB1.out.trans (hw2.mono HB1.out.size))
    clear hw2 t1
    go_wp2_with (fail)
    refine bodyPost_ret (by simp [results, Tryd.results10, go_sem]; try rfl) rfl ?_
    exact ⟨rfl, HB2.out⟩
  · have h0b : (er == 0) = false := beq_eq_false_iff_ne.2 h0
    rw [if_neg h0]
    have CP := hide (show Calls Tryd.prog 30 #[.slice none 0 0, .slice (some ⟨fb, fo, none⟩) 1 fc] w fun e w' => e = .returned (.tuple #[.slice none 0 0, .int .i64 er]) ∧ Below w.heap.size w w' from by
      go_enter Tryd.func30, Tryd.ntmps30
      go_wp2_with (go_at_call 48; refine CB.out.mono ?_; rintro e w1 ⟨rfl, hw1⟩; have HB1 := hide hw1; clear hw1)
      refine bodyPost_ret (by simp [results, Tryd.results30, go_sem]; try rfl) rfl ?_
      exact ⟨rfl, HB1.out⟩)
    go_enter Tryd.func10, Tryd.ntmps10
    go_wp2_with (go_at_call 30; refine CP.out.mono ?_; rintro e w1 ⟨rfl, hw1⟩; have HB1 := hide hw1; clear hw1)
    refine bodyPost_ret (by simp [results, Tryd.results10, go_sem]; try rfl) rfl ?_
    exact ⟨rfl, HB1.out⟩
end Go.Proofs.YtomihkflhhhpjaaDoor
