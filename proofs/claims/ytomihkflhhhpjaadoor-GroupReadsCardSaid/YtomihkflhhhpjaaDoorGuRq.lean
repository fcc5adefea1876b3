/- The reference's reading of rules: ruleRead. -/
import Derived.Test.YtomihkflhhhpjaaDoorGuRf
import Derived.Test.YtomihkflhhhpjaaDoorGuPa
import Derived.Test.YtomihkflhhhpjaaDoorGuCq
import Derived.Test.YtomihkflhhhpjaaDoorGuRa
namespace Go.Proofs.YtomihkflhhhpjaaDoor
open Go.RowKit
set_option linter.unusedVariables false
set_option linter.unusedSimpArgs false
theorem cpT (s p : ByteArray) {r : List UInt8} (h : cutP p.data.toList s.data.toList = some r) (w : World) : Calls Tryd.prog 38 #[.string s, .string p] w fun e w' => e = .returned (.tuple #[.string (bs r), .bool true]) ∧ w' = w := by
  have h1 := pre_of h
  have h2 : Lib.trimPrefix s.data.toList p.data.toList = r := by rw [Lib.trimPrefix, if_pos h1, drop_of h]
  have CC := Tryd.strings_CutPrefix s p w
  rw [h1, h2] at CC
  exact CC
theorem cpF (s p : ByteArray) (h : cutP p.data.toList s.data.toList = none) (w : World) : Calls Tryd.prog 38 #[.string s, .string p] w fun e w' => e = .returned (.tuple #[.string s, .bool false]) ∧ w' = w := by
  have h1 : Lib.hasPrefix s.data.toList p.data.toList = false := by
    rw [Bool.eq_false_iff]
    intro hh
    obtain ⟨r, hr⟩ := cutP_pre.1 hh
    rw [h] at hr
    cases hr
  have h2 : Lib.trimPrefix s.data.toList p.data.toList = s.data.toList := by rw [Lib.trimPrefix, if_neg (by rw [h1]; decide)]
  have CC := Tryd.strings_CutPrefix s p w
  rw [h1, h2] at CC
  exact CC
theorem hpA (s p : ByteArray) (w : World) : Calls Tryd.prog 22 #[.string s, .string p] w fun e w' => e = .returned (.bool (cutP p.data.toList s.data.toList).isSome) ∧ w' = w := by
  have h : (cutP p.data.toList s.data.toList).isSome = Lib.hasPrefix s.data.toList p.data.toList := by unfold cutP; split <;> simp_all
  rw [h]
  exact Tryd.strings_HasPrefix s p w
theorem wR_wM : ∀ k, k < 6 → 1 ≤ k → (bs (wR k) ++ ⟨#[58]⟩).data.toList = wM k := by decide
theorem qB_len : ∀ (n : Nat) (l : List UInt8) (x : List UInt8 × List UInt8), l.length ≤ n → qB l = some x → x.1.length + x.2.length ≤ l.length
  | n, [], x, _, h => by rw [qB.eq_def] at h; cases h
  | 0, c :: l, x, hn, _ => by simp at hn
  | n + 1, c :: l, x, hn, h => by
    rw [qB.eq_def] at h
    simp only at h
    split at h
    · rw [← Option.some.inj h]; simp
    · split at h
      · split at h
        · cases h
        · rename_i d r'
          split at h
          · obtain ⟨y, hy, rfl⟩ := Option.map_eq_some_iff.1 h
            have := qB_len n r' y (by simp at hn; omega) hy
            simp only [List.length_cons]; omega
          · cases h
      · obtain ⟨y, hy, rfl⟩ := Option.map_eq_some_iff.1 h
        have := qB_len n l y (by simp at hn; omega) hy
        simp only [List.length_cons]; omega
theorem rdQ_len {l : List UInt8} {x : List UInt8 × List UInt8} (h : rdQ l = some x) : x.1.length + x.2.length ≤ l.length := by
  unfold rdQ at h
  cases hc : cutP [34] l with
  | none => rw [hc] at h; cases h
  | some r =>
    rw [hc] at h
    have h1 := cutP_len hc
    have h2 := qB_len r.length r x (Nat.le_refl _) h
    omega
def wdK (l : List UInt8) : Nat → Nat
  | 0 => 0
  | k + 1 => if l = wA k ∧ 1 ≤ k then k else wdK l k
theorem wdK_wdI (l : List UInt8) : wdK l 5 = wdI l := by
  unfold wdI
  by_cases h1 : l = wA 1
  · subst h1; decide
  · by_cases h2 : l = wA 2
    · subst h2; decide
    · by_cases h3 : l = wA 3
      · subst h3; decide
      · by_cases h4 : l = wA 4
        · subst h4; decide
        · simp [wdK, h1, h2, h3, h4]
theorem wR_size : ∀ k, k < 6 → 1 ≤ k → (wR k).length ≤ 6 := by decide
set_option maxRecDepth 100000 in
set_option maxHeartbeats 8000000 in
theorem ruleRead_any {t : ByteArray} {w : World} (ht : t.size ≤ 1000000) (hM : Mx w) :
    Calls Tryd.prog 16 #[.string t] w fun e w' => RRl t.data.toList e w w' := by
  obtain ⟨i0, hi0, iz0, iz1, iz2⟩ := ia_parts info_match
  obtain ⟨i1, hi1, iz3, iz4, iz5⟩ := ia_parts info_act
  have htl := tsz t
  obtain ⟨b, hb0⟩ : ∃ b, w.heap.size + 1 = b := ⟨_, rfl⟩
  have hrb : w.heap.size ≠ b := by omega
  have hlb : w.heap.size ≤ b := by omega
  obtain ⟨w1, hw1⟩ : ∃ w1, w.alloc (.cells #[.slice none 0 0, .slice none 0 0] 44) = w1 := ⟨_, rfl⟩
  have hs1 : w1.heap.size = b := by rw [← hb0, ← hw1]; exact Array.size_push ..
  obtain ⟨w2, hw2⟩ : ∃ w2, w1.alloc (.cells #[.slice none 0 0, .slice none 0 0] 44) = w2 := ⟨_, rfl⟩
  have hz2 : w1.heap[w.heap.size]? = some (.cells #[.slice none 0 0, .slice none 0 0] 44 (0, 0)) := by rw [← hw1]; exact heap_alloc_new w _
  have hb3 : w2.heap[b]? = some (.cells #[.slice none 0 0, .slice none 0 0] 44 (0, 0)) := by rw [← hs1, ← hw2]; exact heap_alloc_new w1 _
  have be1 : Below w.heap.size w w1 := hw1 ▸ (Below.refl _ _).alloc (Nat.le_refl _) _
  have be2 : Below w1.heap.size w1 w2 := hw2 ▸ (Below.refl _ _).alloc (Nat.le_refl _) _
  have HRS0 := hide (show RF w.heap.size b w (.slice none 0 0) (.slice none 0 0) (.slice none 0 0) [] (.slice none 0 0) [] w2 from
    ⟨block_below hz2 be2, hb3, World.ownsRow_nil _ _ _ _, World.ownsRow_nil _ _ _ _, be1.trans (be2.mono (by omega))⟩)
  have HB := hide hb0
  have HW1 := hide hw1
  have HW2 := hide hw2
  have HMX := hide (fun W (hb : Below w.heap.size w W) => hM.up hb (Nat.le_refl _))
  have ER := hide (show rdRule t.data.toList = match rdMs (t.data.toList.length + 1) t.data.toList [] with
      | none => none
      | some (ms, r) => (rdAs (r.length + 1) r []).map fun ac => (ms, ac) from rfl)
  clear hb0 hw1 hw2 hs1 hz2 hb3 be1 be2 hM
  go_enter Tryd.func16, Tryd.ntmps16
  go_wp2_with (fail)
  rw [HB.out, HW1.out, HW2.out]
  go_loopw [0] (fun v0 wr => ∃ (s : ByteArray) (ms : List Mt) (A : Option Addr) (c f : Nat), v0 = .string s ∧ RF w.heap.size b w (.slice A ms.length c) (.slice none 0 0) (.slice A ms.length c) ms (.slice none 0 0) [] wr ∧ rdMs (t.data.toList.length + 1) t.data.toList [] = rdMs f s.data.toList ms ∧ s.size < f ∧ ms.length + s.size ≤ t.size ∧ ∀ m ∈ ms, m.glob.size ≤ t.size) (fun v0 _ => stSz v0)
  case atStart => exact ⟨t, [], none, 0, _, rfl, HRS0.out, rfl, by omega, by simp, by simp⟩
  case round =>
    obtain ⟨s, ms, A, c, f, rfl, hrs, hmeq, hsf, hlen, hgl⟩ := hrel
    have HRS := hide hrs
    have HGL := hide hgl
    have hrz := hrs.be.size
    have hbz := lt_of_block hrs.bb
    have hsl := tsz s
    have CH := hide (hpA s ⟨#[45, 62]⟩ wr)
    obtain ⟨f', rfl⟩ : ∃ f', f = f' + 1 := ⟨f - 1, by omega⟩
    clear hrs hgl
    cases hp : cutP [45, 62] s.data.toList with
    | some r =>
      have EM := hide (show rdMs (t.data.toList.length + 1) t.data.toList [] = some (ms, r) by rw [hmeq, rdMs, hp])
      rw [hp] at CH
      have hrl := cutP_len hp
      have hdr := drop_of hp
      have h2s : 2 ≤ s.size := by rw [← hsl, ← hrl]; simp
      clear hmeq hp
      go_wp2_with (go_at_call 22; refine CH.out.mono ?_; rintro e w4 ⟨rfl, hh⟩; obtain rfl := hh.symm)
      have hdr2 : s.extract 2 s.size = bs r := by rw [ext_drop]; exact congrArg bs hdr
      rw [hdr2]
      clear hdr2
      have HRS := hide HRS.out
      go_loopw [0] (fun v0 wr => ∃ (s2 : ByteArray) (ac : List Ac) (A2 : Option Addr) (c2 f2 : Nat), v0 = .string s2 ∧ RF w.heap.size b w (.slice A ms.length c) (.slice A2 ac.length c2) (.slice A ms.length c) ms (.slice A2 ac.length c2) ac wr ∧ rdAs (r.length + 1) r [] = rdAs f2 s2.data.toList ac ∧ s2.size < f2 ∧ ac.length + s2.size ≤ t.size ∧ ∀ a ∈ ac, a.text.size ≤ t.size) (fun v0 _ => stSz v0)
      case atStart => exact ⟨bs r, [], none, 0, _, rfl, HRS.out, by rw [bs_list], by rw [bs_size]; omega, by rw [bs_size]; simp; simp at hrl; omega, by simp⟩
      case round =>
        obtain ⟨s2, ac, A2, c2, f2, rfl, hrs2, hmeq2, hsf2, hlen2, hgl2⟩ := hrel
        have HR2 := hide hrs2
        have HGL2 := hide hgl2
        have hbl := hrs2.be.size
        have hbz2 := lt_of_block hrs2.bb
        have hsl2 := tsz s2
        obtain ⟨f2', rfl⟩ : ∃ f2', f2 = f2' + 1 := ⟨f2 - 1, by omega⟩
        clear hrs2 hgl2
        by_cases h0 : s2.size = 0
        · have e1 : s2.toList = [] := by rw [ByteArray.toList_eq]; exact empty_of h0
          have e2 : s2.toList.isEmpty = true := by rw [e1]; rfl
          have EA := hide (show rdAs (r.length + 1) r [] = some ac by rw [hmeq2, rdAs, if_pos (empty_of h0)])
          have E := hide (show rdRule t.data.toList = some (ms, ac) by rw [ER.out, EM.out]; show (rdAs (r.length + 1) r []).map _ = _; rw [EA.out]; rfl)
          clear hmeq2
          have b0 : wr.cell? ⟨b, 0, none⟩ = some (.slice A ms.length c) := (block_cell HR2.out.bb 0).trans rfl
          have b1 : wr.cell? ⟨b, 1, none⟩ = some (.slice A2 ac.length c2) := (block_cell HR2.out.bb 1).trans rfl
          have y0 : wr.frozen? ⟨b, 0, none⟩ = false := block_free HR2.out.bb 0
          have y1 : wr.frozen? ⟨b, 1, none⟩ = false := block_free HR2.out.bb 1
          have r0 : wr.frozen? ⟨w.heap.size, 0, none⟩ = false := block_free HR2.out.rz 0
          have r1 : wr.frozen? ⟨w.heap.size, 1, none⟩ = false := block_free HR2.out.rz 1
          have s0 : wr.cell? ⟨w.heap.size, 0, none⟩ = some (.slice none 0 0) := (block_cell HR2.out.rz 0).trans rfl
          have s1 : wr.cell? ⟨w.heap.size, 1, none⟩ = some (.slice none 0 0) := (block_cell HR2.out.rz 1).trans rfl
          go_wp2_with (fail)
          obtain ⟨wf, hwf⟩ : ∃ wf, (wr.setCell ⟨w.heap.size, 0, none⟩ (.slice A ms.length c)).setCell ⟨w.heap.size, 1, none⟩ (.slice A2 ac.length c2) = wf := ⟨_, rfl⟩
          have HFF := hide (HR2.out.ret (Nat.le_refl _) (.slice A ms.length c) (.slice A2 ac.length c2) hwf)
          have z0 := (block_cell HFF.out.2.2.2 0).trans (show _ = some _ from rfl)
          have z1 := (block_cell HFF.out.2.2.2 1).trans (show _ = some _ from rfl)
          rw [hwf]
          clear hwf
          go_wp2_with (fail)
          refine bodyPost_ret (by simp [results, Tryd.results16, go_sem, z0, z1]; try rfl) rfl ?_
          have := HGL.out
          exact ⟨HFF.out.1, .inr ⟨ms, ac, _, _, E.out, rfl, HFF.out.2.1, HFF.out.2.2.1, by omega, by omega, fun m h => by rw [htl]; exact HGL.out m h, fun m h => by rw [htl]; exact HGL2.out m h⟩⟩
        · have hs0 : 0 < s2.size := by omega
          have e1 : ¬ s2.toList = [] := by rw [ByteArray.toList_eq]; exact ne_nil hs0
          have e2 : s2.toList.isEmpty = false := by simpa using e1
          have ES := hide (hmeq2.trans (show rdAs (f2' + 1) s2.data.toList ac = match cutP [32] s2.data.toList with
            | none => none
            | some r => match rdA r with
              | none => none
              | some (a, r') => rdAs f2' r' (ac ++ [a]) by rw [rdAs, if_neg (ne_nil hs0)]; rfl))
          have ENO := hide (fun (hh : rdAs (r.length + 1) r [] = none) => show rdRule t.data.toList = none by rw [ER.out, EM.out]; show (rdAs (r.length + 1) r []).map _ = _; rw [hh]; rfl)
          clear hmeq2
          cases hp2 : cutP [32] s2.data.toList with
          | none =>
            have CT2 := hide (cpF s2 ⟨#[32]⟩ hp2 wr)
            have E := hide (ENO.out (by rw [ES.out, hp2]))
            clear hp2
            have b0 : wr.cell? ⟨b, 0, none⟩ = some (.slice A ms.length c) := (block_cell HR2.out.bb 0).trans rfl
            have b1 : wr.cell? ⟨b, 1, none⟩ = some (.slice A2 ac.length c2) := (block_cell HR2.out.bb 1).trans rfl
            have y0 : wr.frozen? ⟨b, 0, none⟩ = false := block_free HR2.out.bb 0
            have y1 : wr.frozen? ⟨b, 1, none⟩ = false := block_free HR2.out.bb 1
            have r0 : wr.frozen? ⟨w.heap.size, 0, none⟩ = false := block_free HR2.out.rz 0
            have r1 : wr.frozen? ⟨w.heap.size, 1, none⟩ = false := block_free HR2.out.rz 1
            have s0 : wr.cell? ⟨w.heap.size, 0, none⟩ = some (.slice none 0 0) := (block_cell HR2.out.rz 0).trans rfl
            have s1 : wr.cell? ⟨w.heap.size, 1, none⟩ = some (.slice none 0 0) := (block_cell HR2.out.rz 1).trans rfl
            go_wp2_with (go_at_call 38; refine CT2.out.mono ?_; rintro e w6 ⟨rfl, hh⟩; obtain rfl := hh.symm)
            obtain ⟨wf, hwf⟩ : ∃ wf, (wr.setCell ⟨w.heap.size, 0, none⟩ (.slice A ms.length c)).setCell ⟨w.heap.size, 1, none⟩ (.slice A2 ac.length c2) = wf := ⟨_, rfl⟩
            have HFF := hide (HR2.out.ret (Nat.le_refl _) (.slice A ms.length c) (.slice A2 ac.length c2) hwf)
            have z0 := (block_cell HFF.out.2.2.2 0).trans (show _ = some _ from rfl)
            have z1 := (block_cell HFF.out.2.2.2 1).trans (show _ = some _ from rfl)
            rw [hwf]
            clear hwf
            go_wp2_with (fail)
            refine bodyPost_ret (by simp [results, Tryd.results16, go_sem, z0, z1]; try rfl) rfl ?_
            exact ⟨HFF.out.1, .inl ⟨E.out, _, _, _, _, _, _, rfl⟩⟩
          | some r2 =>
            have hrl2 := cutP_len hp2
            simp only [List.length_singleton] at hrl2
            have CT2 := hide (cpT s2 ⟨#[32]⟩ hp2 wr)
            have EA := hide (ES.out.trans (show _ = match rdA r2 with
              | none => none
              | some (a, r') => rdAs f2' r' (ac ++ [a]) by rw [hp2]))
            clear hp2
            obtain ⟨y, hy⟩ : ∃ y, bs r2 = y := ⟨_, rfl⟩
            have hyl : y.data.toList = r2 := by rw [← hy, bs_list]
            have hyz : y.size ≤ r2.length := by rw [← hy, bs_size]; exact Nat.le_refl _
            have hyz2 : r2.length ≤ y.size := by rw [← hy, bs_size]; exact Nat.le_refl _
            rw [hy] at CT2
            clear hy
            go_wp2_with (go_at_call 38; refine CT2.out.mono ?_; rintro e w6 ⟨rfl, hh⟩; obtain rfl := hh.symm)
            obtain ⟨ab, hab⟩ : ∃ ab, wr.heap.size = ab := ⟨_, rfl⟩
            obtain ⟨wi, hwi⟩ : ∃ wi, wr.alloc (.cells #[.int .i64 0, .int .i64 0, .string ⟨#[]⟩] 56) = wi := ⟨_, rfl⟩
            have hbi : Below wr.heap.size wr wi := hwi ▸ (Below.refl _ _).alloc (Nat.le_refl _) _
            have HA := hide (show wi.heap[ab]? = some (.cells #[.int .i64 0, .int .i64 0, .string ⟨#[]⟩] 56 (0, 0)) from hwi ▸ hab ▸ heap_alloc_new wr _)
            have HRX := hide (fun W (h : Below ab wr W) => HR2.out.below (show Below wr.heap.size wr W by rw [hab]; exact h))
            have HBI := hide (show Below ab wr wi by rw [← hab]; exact hbi)
            have hzi : ab ≤ wi.heap.size := by have := lt_of_block HA.out; omega
            rw [hab, hwi]
            have hbm : b < ab := by omega
            rw [hab] at hbl hbz2
            clear hab hwi hbi
            have CK := hide (fun W => hpA y ⟨#[107, 101, 121, 61]⟩ W)
            rw [hyl] at CK
            cases h6 : cutP (wA 6) r2 with
            | some r6 =>
              rw [show cutP ((⟨#[107, 101, 121, 61]⟩ : ByteArray).data.toList) r2 = some r6 from h6] at CK
              have HR5 := hide (below_set HBI.out (Nat.le_refl _) (i := 0) (.int .i64 6))
              have HM5 := hide (show (wi.setCell ⟨ab, 0, none⟩ (.int .i64 6)).heap[ab]? = some (.cells #[.int .i64 6, .int .i64 0, .string ⟨#[]⟩] 56 (0, 0)) from block_set HA.out _)
              have hz5 : ab ≤ (wi.setCell ⟨ab, 0, none⟩ (.int .i64 6)).heap.size := by have := lt_of_block HM5.out; omega
              have n0 : wi.frozen? ⟨ab, 0, none⟩ = false := block_free HA.out 0
              have a0 : wi.cell? ⟨ab, 0, none⟩ = some (.int .i64 0) := (block_cell HA.out 0).trans rfl
              obtain ⟨z, hz⟩ : ∃ z, y.extract 4 y.size = z := ⟨_, rfl⟩
              have hzl : z.data.toList = r2.drop 4 := by rw [← hz, extract_toList, hyl]
              have CQ := hide (fun W => cutQuoted_any z W (by rw [← tsz, hzl, List.length_drop]; omega))
              rw [hzl] at CQ
              have hk4 : 4 ≤ y.size := by have := cutP_len h6; rw [← tsz, hyl]; simp [wA] at this; omega
              have HZ := hide hz
              have ERA : rfA r2 = (rdQ (r2.drop 4)).map fun x => (⟨6, 0, bs x.1⟩, x.2) := by unfold rfA; rw [if_pos (pre_of h6)]
              have HERA := hide ERA
              have hdl : (r2.drop 4).length ≤ r2.length := by rw [List.length_drop]; omega
              clear ERA h6 hz
              go_wp2_with (go_at_call 22; refine (CK.out _).mono ?_; rintro e w6 ⟨rfl, hh⟩; obtain rfl := hh.symm)
              rw [HZ.out]
              cases hq : rdQ (r2.drop 4) with
              | none =>
                have E := hide (ENO.out (EA.out.trans (rfA_fail (by rw [HERA.out, hq]; rfl) f2' ac)))
                rw [hq] at CQ
                clear hq
                refine (CQ.out _).mono ?_
                rintro e w7 ⟨he, hb7⟩
                obtain rfl : e = .returned (.tuple #[.string ⟨#[]⟩, .string z, .bool false]) := he
                have HB7 := hide (HR5.out.trans (hb7.mono hz5))
                have HM7 := hide (block_below HM5.out hb7)
                have n27 : w7.frozen? ⟨ab, 2, none⟩ = false := block_free HM7.out 2
                have m27 : w7.cell? ⟨ab, 2, none⟩ = some (.string ⟨#[]⟩) := (block_cell HM7.out 2).trans rfl
                clear hb7
                have HRF8 := hide (HRX.out (w7.setCell ⟨ab, 2, none⟩ (.string ⟨#[]⟩)) (below_set HB7.out (Nat.le_refl _) _))
                have b0 : (w7.setCell ⟨ab, 2, none⟩ (.string ⟨#[]⟩)).cell? ⟨b, 0, none⟩ = some (.slice A ms.length c) := (block_cell HRF8.out.bb 0).trans rfl
                have b1 : (w7.setCell ⟨ab, 2, none⟩ (.string ⟨#[]⟩)).cell? ⟨b, 1, none⟩ = some (.slice A2 ac.length c2) := (block_cell HRF8.out.bb 1).trans rfl
                have y0 : (w7.setCell ⟨ab, 2, none⟩ (.string ⟨#[]⟩)).frozen? ⟨b, 0, none⟩ = false := block_free HRF8.out.bb 0
                have y1 : (w7.setCell ⟨ab, 2, none⟩ (.string ⟨#[]⟩)).frozen? ⟨b, 1, none⟩ = false := block_free HRF8.out.bb 1
                have r0 : (w7.setCell ⟨ab, 2, none⟩ (.string ⟨#[]⟩)).frozen? ⟨w.heap.size, 0, none⟩ = false := block_free HRF8.out.rz 0
                have r1 : (w7.setCell ⟨ab, 2, none⟩ (.string ⟨#[]⟩)).frozen? ⟨w.heap.size, 1, none⟩ = false := block_free HRF8.out.rz 1
                have s0 : (w7.setCell ⟨ab, 2, none⟩ (.string ⟨#[]⟩)).cell? ⟨w.heap.size, 0, none⟩ = some (.slice none 0 0) := (block_cell HRF8.out.rz 0).trans rfl
                have s1 : (w7.setCell ⟨ab, 2, none⟩ (.string ⟨#[]⟩)).cell? ⟨w.heap.size, 1, none⟩ = some (.slice none 0 0) := (block_cell HRF8.out.rz 1).trans rfl
                go_wp2_with (fail)
                obtain ⟨wf, hwf⟩ : ∃ wf, ((w7.setCell ⟨ab, 2, none⟩ (.string ⟨#[]⟩)).setCell ⟨w.heap.size, 0, none⟩ (.slice A ms.length c)).setCell ⟨w.heap.size, 1, none⟩ (.slice A2 ac.length c2) = wf := ⟨_, rfl⟩
                have HFF := hide (HRF8.out.ret (Nat.le_refl _) (.slice A ms.length c) (.slice A2 ac.length c2) hwf)
                have z0 := (block_cell HFF.out.2.2.2 0).trans (show _ = some _ from rfl)
                have z1 := (block_cell HFF.out.2.2.2 1).trans (show _ = some _ from rfl)
                rw [hwf]
                clear hwf
                go_wp2_with (fail)
                refine bodyPost_ret (by simp [results, Tryd.results16, go_sem, z0, z1]; try rfl) rfl ?_
                exact ⟨HFF.out.1, .inl ⟨E.out, _, _, _, _, _, _, rfl⟩⟩
              | some x =>
                have hxl := rdQ_len hq
                have EN := hide (EA.out.trans (show _ = rdAs f2' x.2 (ac ++ [⟨6, 0, bs x.1⟩]) by rw [rfA_some (show rfA r2 = some (⟨6, 0, bs x.1⟩, x.2) by rw [HERA.out, hq]; rfl)]))
                rw [hq] at CQ
                clear hq
                refine (CQ.out _).mono ?_
                rintro e w7 ⟨he, hb7⟩
                obtain rfl : e = .returned (.tuple #[.string (bs x.1), .string (bs x.2), .bool true]) := he
                have HB7 := hide (HR5.out.trans (hb7.mono hz5))
                have HM7 := hide (block_below HM5.out hb7)
                have n27 : w7.frozen? ⟨ab, 2, none⟩ = false := block_free HM7.out 2
                have m27 : w7.cell? ⟨ab, 2, none⟩ = some (.string ⟨#[]⟩) := (block_cell HM7.out 2).trans rfl
                clear hb7
                have HRF8 := hide (HRX.out (w7.setCell ⟨ab, 2, none⟩ (.string (bs x.1))) (below_set HB7.out (Nat.le_refl _) _))
                have HM8 := hide (show (w7.setCell ⟨ab, 2, none⟩ (.string (bs x.1))).heap[ab]? = some (.cells #[.int .i64 6, .int .i64 0, .string (bs x.1)] 56 (0, 0)) from block_set HM7.out _)
                have m0 : (w7.setCell ⟨ab, 2, none⟩ (.string (bs x.1))).cell? ⟨ab, 0, none⟩ = some (.int .i64 6) := (block_cell HM8.out 0).trans rfl
                have m1 : (w7.setCell ⟨ab, 2, none⟩ (.string (bs x.1))).cell? ⟨ab, 1, none⟩ = some (.int .i64 0) := (block_cell HM8.out 1).trans rfl
                have m2 : (w7.setCell ⟨ab, 2, none⟩ (.string (bs x.1))).cell? ⟨ab, 2, none⟩ = some (.string (bs x.1)) := (block_cell HM8.out 2).trans rfl
                have b0 : (w7.setCell ⟨ab, 2, none⟩ (.string (bs x.1))).cell? ⟨b, 0, none⟩ = some (.slice A ms.length c) := (block_cell HRF8.out.bb 0).trans rfl
                have b1 : (w7.setCell ⟨ab, 2, none⟩ (.string (bs x.1))).cell? ⟨b, 1, none⟩ = some (.slice A2 ac.length c2) := (block_cell HRF8.out.bb 1).trans rfl
                have y0 : (w7.setCell ⟨ab, 2, none⟩ (.string (bs x.1))).frozen? ⟨b, 0, none⟩ = false := block_free HRF8.out.bb 0
                have y1 : (w7.setCell ⟨ab, 2, none⟩ (.string (bs x.1))).frozen? ⟨b, 1, none⟩ = false := block_free HRF8.out.bb 1
                have r0 : (w7.setCell ⟨ab, 2, none⟩ (.string (bs x.1))).frozen? ⟨w.heap.size, 0, none⟩ = false := block_free HRF8.out.rz 0
                have r1 : (w7.setCell ⟨ab, 2, none⟩ (.string (bs x.1))).frozen? ⟨w.heap.size, 1, none⟩ = false := block_free HRF8.out.rz 1
                have s0 : (w7.setCell ⟨ab, 2, none⟩ (.string (bs x.1))).cell? ⟨w.heap.size, 0, none⟩ = some (.slice none 0 0) := (block_cell HRF8.out.rz 0).trans rfl
                have s1 : (w7.setCell ⟨ab, 2, none⟩ (.string (bs x.1))).cell? ⟨w.heap.size, 1, none⟩ = some (.slice none 0 0) := (block_cell HRF8.out.rz 1).trans rfl
                have hz7 := HRF8.out.be.size
                go_wp2_with (at_builtin; refine wpList_append_own_at _ rfl (.tmp 166) (.tmp 168) 42 rfl w.heap.size 56 i1 (.agg #[.int .i64 0, .int .i64 0, .string ByteArray.empty]) 3 32 (by exact und_act) hi1 iz3 iz4 iz5 rfl (by decide) (.slice A2 ac.length c2) ac.length (ac.flatMap Ac.cs) rfl (HRF8.out.r2.alloc _) ⟨(w7.setCell ⟨ab, 2, none⟩ (.string (bs x.1))).heap.size, 0, none⟩ 1 1 [.int .i64 6, .int .i64 0, .string (bs x.1)] (by first | rfl | go_simp) rfl (cells_at (w7.setCell ⟨ab, 2, none⟩ (.string (bs x.1))) [.int .i64 6, .int .i64 0, .string (bs x.1)] _ _ (by first | rfl | go_simp)) (by intro u hu; simp at hu; rcases hu with rfl | rfl | rfl <;> rfl) (by unfold maxLen; omega) (by omega) (by simp at hz7 ⊢; omega) ?_; intro v8 w8 hown8 hg8 _ hat8; obtain ⟨A8, c8, rfl⟩ := own_sl hown8; have HRFA := hide ((HRF8.out.below (show Below (w7.setCell ⟨ab, 2, none⟩ (.string (bs x.1))).heap.size (w7.setCell ⟨ab, 2, none⟩ (.string (bs x.1))) ((w7.setCell ⟨ab, 2, none⟩ (.string (bs x.1))).alloc _) from (Below.refl _ _).alloc (Nat.le_refl _) _)).grow2 (m := ⟨6, 0, bs x.1⟩) hg8 hown8); have b18 : w8.cell? ⟨b, 1, none⟩ = some (.slice A2 ac.length c2) := (block_cell HRFA.out.bb 1).trans rfl; have y18 : w8.frozen? ⟨b, 1, none⟩ = false := block_free HRFA.out.bb 1; clear hown8 hg8 hat8)
                go_roundw
                case rel => exact ⟨bs x.2, ac ++ [⟨6, 0, bs x.1⟩], A8, c8, f2', rfl, by rw [List.length_append]; exact HRFA.out.set2 hlb hrb _, by rw [bs_list]; exact EN.out, by rw [bs_size]; omega, by rw [List.length_append]; simp only [List.length_singleton]; rw [bs_size]; omega, fun m' hm' => (by
                  rcases List.mem_append.1 hm' with h | h
                  · exact HGL2.out _ h
                  · rw [List.mem_singleton.1 h]; show (bs x.1).size ≤ _; rw [bs_size]; omega)⟩
                case measure => show (bs x.2).size < s2.size; rw [bs_size]; omega
            | none =>
              have h6b : Lib.hasPrefix r2 (wA 6) = false := by
                rw [Bool.eq_false_iff]; intro hh; obtain ⟨r', hr'⟩ := cutP_pre.1 hh; rw [h6] at hr'; cases hr'
              rw [show cutP ((⟨#[107, 101, 121, 61]⟩ : ByteArray).data.toList) r2 = none from h6] at CK
              have CM := hide (fun W => hpA y ⟨#[109, 111, 115, 116, 61]⟩ W)
              rw [hyl] at CM
              clear h6
              cases h5 : cutP (wA 5) r2 with
              | some r5 =>
                rw [show cutP ((⟨#[109, 111, 115, 116, 61]⟩ : ByteArray).data.toList) r2 = some r5 from h5] at CM
                obtain ⟨z, hz⟩ : ∃ z, y.extract 5 y.size = z := ⟨_, rfl⟩
                have hzl : z.data.toList = r2.drop 5 := by rw [← hz, extract_toList, hyl]
                have hk5 : 5 ≤ y.size := by have := cutP_len h5; rw [← tsz, hyl]; simp [wA] at this; omega
                have hzs : z.size + 5 ≤ y.size := by rw [← tsz, ← tsz, hzl, hyl, List.length_drop]; have := tsz y; rw [hyl] at this; omega
                have CC := hide (fun W (hb : Below ab wr W) => Cut_any z 32 W (by omega) (HMX.out W (HR2.out.be.trans (hb.mono hbl))))
                obtain ⟨dg, hdg⟩ : ∃ dg, cutL z 32 = dg := ⟨_, rfl⟩
                have hdl : dg.data.toList = tw (r2.drop 5) := by rw [← hdg]; unfold cutL; rw [← hzl]; exact cut32 _
                have hds : dg.size ≤ z.size := by rw [← hdg]; exact (cut_size z 32).1
                rw [hdg] at CC
                have CN := hide (fun W => number_any dg W)
                rw [hdl] at CN
                have HZ := hide hz
                have HERA := hide (show rfA r2 = (numP (tw (r2.drop 5))).map fun n => (⟨5, (n : Nat), ⟨#[]⟩⟩, (r2.drop 5).drop (tw (r2.drop 5)).length) by unfold rfA; rw [if_neg (by rw [h6b]; decide), if_pos (pre_of h5)])
                obtain ⟨on, hon⟩ : ∃ on, numP (tw (r2.drop 5)) = on := ⟨_, rfl⟩
                rw [hon] at CN HERA
                have hds2 := hide (show dg.size = (tw (r2.drop 5)).length by rw [← tsz, hdl])
                clear hon hz hdg h5 h6b
                go_wp2_with (go_at_call 22; first | (refine (CK.out _).mono ?_; rintro e w6 ⟨rfl, hh⟩; obtain rfl := hh.symm; clear CK) | (refine (CM.out _).mono ?_; rintro e w6 ⟨rfl, hh⟩; obtain rfl := hh.symm))
                rw [HZ.out]
                go_wp2_with (first | (go_at_call 12; refine (CC.out _ ?cm).mono ?_; (case cm => exact HBI.out); rintro e w3 ⟨rfl, hb3⟩; have HB3 := hide (HBI.out.trans (hb3.mono hzi)); have HM3 := hide (block_below HA.out hb3); clear hb3))
                cases on with
                | none =>
                  refine (CN.out _).mono ?_
                  rintro e w7 ⟨he, hb7⟩
                  obtain rfl : e = .returned (.tuple #[.int .i64 0, .bool false]) := he
                  have HB7 := hide (HB3.out.trans (hb7.mono (Nat.le_of_lt (lt_of_block HM3.out))))
                  have HM7 := hide (block_below HM3.out hb7)
                  clear hb7
                  have E := hide (ENO.out (EA.out.trans (rfA_fail (by rw [HERA.out]; rfl) f2' ac)))
                  have HRF8 := hide (HRX.out w7 HB7.out)
                  have b0 : w7.cell? ⟨b, 0, none⟩ = some (.slice A ms.length c) := (block_cell HRF8.out.bb 0).trans rfl
                  have b1 : w7.cell? ⟨b, 1, none⟩ = some (.slice A2 ac.length c2) := (block_cell HRF8.out.bb 1).trans rfl
                  have y0 : w7.frozen? ⟨b, 0, none⟩ = false := block_free HRF8.out.bb 0
                  have y1 : w7.frozen? ⟨b, 1, none⟩ = false := block_free HRF8.out.bb 1
                  have r0 : w7.frozen? ⟨w.heap.size, 0, none⟩ = false := block_free HRF8.out.rz 0
                  have r1 : w7.frozen? ⟨w.heap.size, 1, none⟩ = false := block_free HRF8.out.rz 1
                  have s0 : w7.cell? ⟨w.heap.size, 0, none⟩ = some (.slice none 0 0) := (block_cell HRF8.out.rz 0).trans rfl
                  have s1 : w7.cell? ⟨w.heap.size, 1, none⟩ = some (.slice none 0 0) := (block_cell HRF8.out.rz 1).trans rfl
                  go_wp2_with (fail)
                  obtain ⟨wf, hwf⟩ : ∃ wf, (w7.setCell ⟨w.heap.size, 0, none⟩ (.slice A ms.length c)).setCell ⟨w.heap.size, 1, none⟩ (.slice A2 ac.length c2) = wf := ⟨_, rfl⟩
                  have HFF := hide (HRF8.out.ret (Nat.le_refl _) (.slice A ms.length c) (.slice A2 ac.length c2) hwf)
                  have z0 := (block_cell HFF.out.2.2.2 0).trans (show _ = some _ from rfl)
                  have z1 := (block_cell HFF.out.2.2.2 1).trans (show _ = some _ from rfl)
                  rw [hwf]
                  clear hwf
                  go_wp2_with (fail)
                  refine bodyPost_ret (by simp [results, Tryd.results16, go_sem, z0, z1]; try rfl) rfl ?_
                  exact ⟨HFF.out.1, .inl ⟨E.out, _, _, _, _, _, _, rfl⟩⟩
                | some n =>
                  refine (CN.out _).mono ?_
                  rintro e w7 ⟨he, hb7⟩
                  obtain rfl : e = .returned (.tuple #[.int .i64 (n : Nat), .bool true]) := he
                  have HB7 := hide (HB3.out.trans (hb7.mono (Nat.le_of_lt (lt_of_block HM3.out))))
                  have HM7 := hide (block_below HM3.out hb7)
                  clear hb7
                  have EN0 := hide (EA.out.trans (show _ = rdAs f2' ((r2.drop 5).drop (tw (r2.drop 5)).length) (ac ++ [⟨5, (n : Nat), ⟨#[]⟩⟩]) by rw [rfA_some (show rfA r2 = some (⟨5, (n : Nat), ⟨#[]⟩⟩, (r2.drop 5).drop (tw (r2.drop 5)).length) by rw [HERA.out]; rfl)]))
                  obtain ⟨u, hu⟩ : ∃ u, y.extract (5 + dg.size) y.size = u := ⟨_, rfl⟩
                  have hul : u.data.toList = (r2.drop 5).drop (tw (r2.drop 5)).length := by rw [← hu, extract_toList, hyl, hds2.out, List.drop_drop]
                  have EN := hide (EN0.out)
                  rw [← hul] at EN
                  have hus : u.size + 5 ≤ y.size := by rw [← tsz u, hul, List.length_drop, List.length_drop]; have := tsz y; rw [hyl] at this; omega
                  have HU := hide hu
                  have n07 : w7.frozen? ⟨ab, 0, none⟩ = false := block_free HM7.out 0
                  have n17 : w7.frozen? ⟨ab, 1, none⟩ = false := block_free HM7.out 1
                  have m07 : w7.cell? ⟨ab, 0, none⟩ = some (.int .i64 0) := (block_cell HM7.out 0).trans rfl
                  have m17 : w7.cell? ⟨ab, 1, none⟩ = some (.int .i64 0) := (block_cell HM7.out 1).trans rfl
                  have hk5d : 5 + dg.size ≤ y.size := by omega
                  clear hu hul hyl
                  have W50 : True := trivial
                  have HRF8 := hide (HRX.out ((w7.setCell ⟨ab, 0, none⟩ (.int .i64 5)).setCell ⟨ab, 1, none⟩ (.int .i64 (n : Nat))).drew (below_set (below_set HB7.out (Nat.le_refl _) _) (Nat.le_refl _) _).drew)
                  have HM8 := hide (show (((w7.setCell ⟨ab, 0, none⟩ (.int .i64 5)).setCell ⟨ab, 1, none⟩ (.int .i64 (n : Nat))).drew).heap[ab]? = some (.cells #[.int .i64 5, .int .i64 (n : Nat), .string ⟨#[]⟩] 56 (0, 0)) from block_set (block_set HM7.out _) _)
                  have m0 : (((w7.setCell ⟨ab, 0, none⟩ (.int .i64 5)).setCell ⟨ab, 1, none⟩ (.int .i64 (n : Nat))).drew).cell? ⟨ab, 0, none⟩ = some (.int .i64 5) := (block_cell HM8.out 0).trans rfl
                  have m1 : (((w7.setCell ⟨ab, 0, none⟩ (.int .i64 5)).setCell ⟨ab, 1, none⟩ (.int .i64 (n : Nat))).drew).cell? ⟨ab, 1, none⟩ = some (.int .i64 (n : Nat)) := (block_cell HM8.out 1).trans rfl
                  have m2 : (((w7.setCell ⟨ab, 0, none⟩ (.int .i64 5)).setCell ⟨ab, 1, none⟩ (.int .i64 (n : Nat))).drew).cell? ⟨ab, 2, none⟩ = some (.string ⟨#[]⟩) := (block_cell HM8.out 2).trans rfl
                  go_wp2_with (fail)
                  go_region
                  have b0 : ((w7.setCell ⟨ab, 0, none⟩ (.int .i64 5)).setCell ⟨ab, 1, none⟩ (.int .i64 (n : Nat))).drew.cell? ⟨b, 0, none⟩ = some (.slice A ms.length c) := (block_cell HRF8.out.bb 0).trans rfl
                  have b1 : ((w7.setCell ⟨ab, 0, none⟩ (.int .i64 5)).setCell ⟨ab, 1, none⟩ (.int .i64 (n : Nat))).drew.cell? ⟨b, 1, none⟩ = some (.slice A2 ac.length c2) := (block_cell HRF8.out.bb 1).trans rfl
                  have y0 : ((w7.setCell ⟨ab, 0, none⟩ (.int .i64 5)).setCell ⟨ab, 1, none⟩ (.int .i64 (n : Nat))).drew.frozen? ⟨b, 0, none⟩ = false := block_free HRF8.out.bb 0
                  have y1 : ((w7.setCell ⟨ab, 0, none⟩ (.int .i64 5)).setCell ⟨ab, 1, none⟩ (.int .i64 (n : Nat))).drew.frozen? ⟨b, 1, none⟩ = false := block_free HRF8.out.bb 1
                  have r0 : ((w7.setCell ⟨ab, 0, none⟩ (.int .i64 5)).setCell ⟨ab, 1, none⟩ (.int .i64 (n : Nat))).drew.frozen? ⟨w.heap.size, 0, none⟩ = false := block_free HRF8.out.rz 0
                  have r1 : ((w7.setCell ⟨ab, 0, none⟩ (.int .i64 5)).setCell ⟨ab, 1, none⟩ (.int .i64 (n : Nat))).drew.frozen? ⟨w.heap.size, 1, none⟩ = false := block_free HRF8.out.rz 1
                  have s0 : ((w7.setCell ⟨ab, 0, none⟩ (.int .i64 5)).setCell ⟨ab, 1, none⟩ (.int .i64 (n : Nat))).drew.cell? ⟨w.heap.size, 0, none⟩ = some (.slice none 0 0) := (block_cell HRF8.out.rz 0).trans rfl
                  have s1 : ((w7.setCell ⟨ab, 0, none⟩ (.int .i64 5)).setCell ⟨ab, 1, none⟩ (.int .i64 (n : Nat))).drew.cell? ⟨w.heap.size, 1, none⟩ = some (.slice none 0 0) := (block_cell HRF8.out.rz 1).trans rfl
                  have hz7 := HRF8.out.be.size
                  go_wp2_with (at_builtin; refine wpList_append_own_at _ rfl (.tmp 166) (.tmp 168) 42 rfl w.heap.size 56 i1 (.agg #[.int .i64 0, .int .i64 0, .string ByteArray.empty]) 3 32 (by exact und_act) hi1 iz3 iz4 iz5 rfl (by decide) (.slice A2 ac.length c2) ac.length (ac.flatMap Ac.cs) rfl (HRF8.out.r2.alloc _) ⟨((w7.setCell ⟨ab, 0, none⟩ (.int .i64 5)).setCell ⟨ab, 1, none⟩ (.int .i64 (n : Nat))).drew.heap.size, 0, none⟩ 1 1 [.int .i64 5, .int .i64 (n : Nat), .string ⟨#[]⟩] (by first | rfl | go_simp) rfl (cells_at ((w7.setCell ⟨ab, 0, none⟩ (.int .i64 5)).setCell ⟨ab, 1, none⟩ (.int .i64 (n : Nat))).drew [.int .i64 5, .int .i64 (n : Nat), .string ⟨#[]⟩] _ _ (by first | rfl | go_simp)) (by intro u hu; simp at hu; rcases hu with rfl | rfl | rfl <;> rfl) (by unfold maxLen; omega) (by omega) (by simp at hz7 ⊢; omega) ?_; intro v8 w8 hown8 hg8 _ hat8; obtain ⟨A8, c8, rfl⟩ := own_sl hown8; have HRFA := hide ((HRF8.out.below (show Below ((w7.setCell ⟨ab, 0, none⟩ (.int .i64 5)).setCell ⟨ab, 1, none⟩ (.int .i64 (n : Nat))).drew.heap.size ((w7.setCell ⟨ab, 0, none⟩ (.int .i64 5)).setCell ⟨ab, 1, none⟩ (.int .i64 (n : Nat))).drew (((w7.setCell ⟨ab, 0, none⟩ (.int .i64 5)).setCell ⟨ab, 1, none⟩ (.int .i64 (n : Nat))).drew.alloc _) from (Below.refl _ _).alloc (Nat.le_refl _) _)).grow2 (m := ⟨5, (n : Nat), ⟨#[]⟩⟩) hg8 hown8); have b18 : w8.cell? ⟨b, 1, none⟩ = some (.slice A2 ac.length c2) := (block_cell HRFA.out.bb 1).trans rfl; have y18 : w8.frozen? ⟨b, 1, none⟩ = false := block_free HRFA.out.bb 1; clear hown8 hg8 hat8)
                  go_roundw
                  case rel => exact ⟨y.extract (5 + dg.size) y.size, ac ++ [⟨5, (n : Nat), ⟨#[]⟩⟩], A8, c8, f2', rfl, by rw [List.length_append]; exact HRFA.out.set2 hlb hrb _, by rw [HU.out]; exact EN.out, by rw [HU.out]; omega, by rw [List.length_append]; simp only [List.length_singleton]; rw [HU.out]; omega, fun m' hm' => (by
                    rcases List.mem_append.1 hm' with h | h
                    · exact HGL2.out _ h
                    · rw [List.mem_singleton.1 h]; show (⟨#[]⟩ : ByteArray).size ≤ _; exact Nat.zero_le _)⟩
                  case measure => show (y.extract (5 + dg.size) y.size).size < s2.size; rw [HU.out]; omega
              | none =>
                have h5b : Lib.hasPrefix r2 (wA 5) = false := by
                  rw [Bool.eq_false_iff]; intro hh; obtain ⟨r', hr'⟩ := cutP_pre.1 hh; rw [h5] at hr'; cases hr'
                rw [show cutP ((⟨#[109, 111, 115, 116, 61]⟩ : ByteArray).data.toList) r2 = none from h5] at CM
                clear h5
                have CC := hide (fun W (hb : Below ab wr W) => Cut_any y 32 W (by omega) (HMX.out W (HR2.out.be.trans (hb.mono hbl))))
                obtain ⟨dg, hdg⟩ : ∃ dg, cutL y 32 = dg := ⟨_, rfl⟩
                have hdl : dg.data.toList = tw r2 := by rw [← hdg]; unfold cutL; rw [← hyl]; exact cut32 _
                have hds : dg.size ≤ y.size := by rw [← hdg]; exact (cut_size y 32).1
                rw [hdg] at CC
                have HERA := hide (show rfA r2 = if wdI (tw r2) = 0 then none else some (⟨wdI (tw r2), 0, ⟨#[]⟩⟩, r2.drop (tw r2).length) by unfold rfA; rw [if_neg (by rw [h6b]; decide), if_neg (by rw [h5b]; decide)])
                have hds2 := hide (show dg.size = (tw r2).length by rw [← tsz, hdl])
                have HDG := hide (show dg.toList = tw r2 by rw [ByteArray.toList_eq, hdl])
                have HU := hide (show (y.extract dg.size y.size).data.toList = r2.drop (tw r2).length by rw [extract_toList, hyl, hds2.out])
                have hds2 : True := trivial
                clear hdg h5b h6b hdl hyl
                go_wp2_with (first | (go_at_call 22; first | (refine (CK.out _).mono ?_; rintro e w6 ⟨rfl, hh⟩; obtain rfl := hh.symm; clear CK) | (refine (CM.out _).mono ?_; rintro e w6 ⟨rfl, hh⟩; obtain rfl := hh.symm)) | (go_at_call 12; refine (CC.out _ ?cm).mono ?_; (case cm => exact HBI.out); rintro e w3 ⟨rfl, hb3⟩; have HB3 := hide (HBI.out.trans (hb3.mono hzi)); have HM3 := hide (block_below HA.out hb3); clear hb3))
                go_loopw [23] (fun v23 wk => ∃ k : Nat, v23 = .int .i64 (k : Int) ∧ 1 ≤ k ∧ k ≤ 5 ∧ Below ab wr wk ∧ wk.heap[ab]? = some (.cells #[.int .i64 (wdK (tw r2) k : Nat), .int .i64 0, .string ⟨#[]⟩] 56 (0, 0))) (fun v23 _ => 5 - (intOf v23).toNat)
                case atStart => exact ⟨1, rfl, Nat.le_refl _, by omega, HB3.out, by rw [show wdK (tw r2) 1 = 0 by simp [wdK]]; exact HM3.out⟩
                case round =>
                  obtain ⟨k, rfl, hk1, hk5, hrk, hmk⟩ := hrel
                  have HRK := hide hrk
                  have HMK := hide hmk
                  have hzm := lt_of_block hmk
                  clear hrk hmk
                  by_cases hk : k ≤ 4
                  · have hk' : (k : Int) ≤ 4 := by omega
                    have CA := hide (actWord_any k hk1 hk wr)
                    by_cases hw : tw r2 = wA k
                    · have q1 : (bs (wA k)).toList = dg.toList := by rw [HDG.out, hw, ByteArray.toList_eq, bs_list]
                      have HW := hide (show wdK (tw r2) (k + 1) = k by rw [wdK, if_pos ⟨hw, hk1⟩])
                      clear hw
                      go_wp2_with (first | (go_at_call 42; refine CA.out.mono ?_; rintro e w5 ⟨rfl, hb5⟩; have HR5 := hide (HRK.out.trans (hb5.mono (Nat.le_of_lt hzm))); have HM5 := hide (block_below HMK.out hb5); have n05 : w5.frozen? ⟨ab, 0, none⟩ = false := block_free HM5.out 0; have m05 : w5.cell? ⟨ab, 0, none⟩ = some (.int .i64 (wdK (tw r2) k : Nat)) := (block_cell HM5.out 0).trans rfl; clear hb5))
                      go_roundw
                      case rel => exact ⟨k + 1, by go_num, by omega, by omega, below_set HR5.out (Nat.le_refl _) _, by rw [HW.out]; exact block_set HM5.out _⟩
                      case measure => simp [intOf]; omega
                    · have q1 : ¬ (bs (wA k)).toList = dg.toList := by rw [HDG.out, ByteArray.toList_eq, bs_list]; exact fun e => hw e.symm
                      have q2 : ((bs (wA k)).toList == dg.toList) = false := by simpa using q1
                      have HW := hide (show wdK (tw r2) (k + 1) = wdK (tw r2) k by rw [wdK, if_neg (fun h => hw h.1)])
                      clear hw
                      go_wp2_with (first | (go_at_call 42; refine CA.out.mono ?_; rintro e w5 ⟨rfl, hb5⟩; have HR5 := hide (HRK.out.trans (hb5.mono (Nat.le_of_lt hzm))); have HM5 := hide (block_below HMK.out hb5); have n05 : w5.frozen? ⟨ab, 0, none⟩ = false := block_free HM5.out 0; have m05 : w5.cell? ⟨ab, 0, none⟩ = some (.int .i64 (wdK (tw r2) k : Nat)) := (block_cell HM5.out 0).trans rfl; clear hb5))
                      go_roundw
                      case rel => exact ⟨k + 1, by go_num, by omega, by omega, HR5.out, by rw [HW.out]; exact HM5.out⟩
                      case measure => simp [intOf]; omega
                  · obtain rfl : k = 5 := by omega
                    have HRF8 := hide (HRX.out wr HRK.out)
                    have HWD := hide (wdK_wdI (tw r2))
                    rw [HWD.out] at HMK
                    obtain ⟨dn, hdn⟩ : ∃ dn, wdI (tw r2) = dn := ⟨_, rfl⟩
                    rw [hdn] at HMK HERA
                    clear hdn
                    have m0 : wr.cell? ⟨ab, 0, none⟩ = some (.int .i64 (dn : Nat)) := (block_cell HMK.out 0).trans rfl
                    have m1 : wr.cell? ⟨ab, 1, none⟩ = some (.int .i64 0) := (block_cell HMK.out 1).trans rfl
                    have m2 : wr.cell? ⟨ab, 2, none⟩ = some (.string ⟨#[]⟩) := (block_cell HMK.out 2).trans rfl
                    by_cases h0 : dn = 0
                    · subst h0
                      have E := hide (ENO.out (EA.out.trans (rfA_fail (by rw [HERA.out, if_pos rfl]) f2' ac)))
                      have b0 : wr.cell? ⟨b, 0, none⟩ = some (.slice A ms.length c) := (block_cell HRF8.out.bb 0).trans rfl
                      have b1 : wr.cell? ⟨b, 1, none⟩ = some (.slice A2 ac.length c2) := (block_cell HRF8.out.bb 1).trans rfl
                      have y0 : wr.frozen? ⟨b, 0, none⟩ = false := block_free HRF8.out.bb 0
                      have y1 : wr.frozen? ⟨b, 1, none⟩ = false := block_free HRF8.out.bb 1
                      have r0 : wr.frozen? ⟨w.heap.size, 0, none⟩ = false := block_free HRF8.out.rz 0
                      have r1 : wr.frozen? ⟨w.heap.size, 1, none⟩ = false := block_free HRF8.out.rz 1
                      have s0 : wr.cell? ⟨w.heap.size, 0, none⟩ = some (.slice none 0 0) := (block_cell HRF8.out.rz 0).trans rfl
                      have s1 : wr.cell? ⟨w.heap.size, 1, none⟩ = some (.slice none 0 0) := (block_cell HRF8.out.rz 1).trans rfl
                      go_wp2_with (fail)
                      obtain ⟨wf, hwf⟩ : ∃ wf, (wr.setCell ⟨w.heap.size, 0, none⟩ (.slice A ms.length c)).setCell ⟨w.heap.size, 1, none⟩ (.slice A2 ac.length c2) = wf := ⟨_, rfl⟩
                      have HFF := hide (HRF8.out.ret (Nat.le_refl _) (.slice A ms.length c) (.slice A2 ac.length c2) hwf)
                      have z0 := (block_cell HFF.out.2.2.2 0).trans (show _ = some _ from rfl)
                      have z1 := (block_cell HFF.out.2.2.2 1).trans (show _ = some _ from rfl)
                      rw [hwf]
                      clear hwf
                      go_wp2_with (fail)
                      refine bodyPost_ret (by simp [results, Tryd.results16, go_sem, z0, z1]; try rfl) rfl ?_
                      exact ⟨HFF.out.1, .inl ⟨E.out, _, _, _, _, _, _, rfl⟩⟩
                    · have hdn : ((dn : Int) == 0) = false := beq_eq_false_iff_ne.2 (by omega)
                      have hdn' : ¬ (dn : Int) = 0 := by omega
                      have EN := hide (EA.out.trans (show _ = rdAs f2' (r2.drop (tw r2).length) (ac ++ [⟨(dn : Nat), 0, ⟨#[]⟩⟩]) by rw [rfA_some (show rfA r2 = some (⟨(dn : Nat), 0, ⟨#[]⟩⟩, r2.drop (tw r2).length) by rw [HERA.out, if_neg h0])]))
                      clear h0
                      obtain ⟨u, hu⟩ : ∃ u, y.extract dg.size y.size = u := ⟨_, rfl⟩
                      rw [hu] at HU
                      have hus : u.size ≤ y.size := by rw [← tsz u, HU.out, List.length_drop]; omega
                      have HUE := hide hu
                      clear hu
                      have b0 : wr.cell? ⟨b, 0, none⟩ = some (.slice A ms.length c) := (block_cell HRF8.out.bb 0).trans rfl
                      have b1 : wr.cell? ⟨b, 1, none⟩ = some (.slice A2 ac.length c2) := (block_cell HRF8.out.bb 1).trans rfl
                      have y0 : wr.frozen? ⟨b, 0, none⟩ = false := block_free HRF8.out.bb 0
                      have y1 : wr.frozen? ⟨b, 1, none⟩ = false := block_free HRF8.out.bb 1
                      have r0 : wr.frozen? ⟨w.heap.size, 0, none⟩ = false := block_free HRF8.out.rz 0
                      have r1 : wr.frozen? ⟨w.heap.size, 1, none⟩ = false := block_free HRF8.out.rz 1
                      have s0 : wr.cell? ⟨w.heap.size, 0, none⟩ = some (.slice none 0 0) := (block_cell HRF8.out.rz 0).trans rfl
                      have s1 : wr.cell? ⟨w.heap.size, 1, none⟩ = some (.slice none 0 0) := (block_cell HRF8.out.rz 1).trans rfl
                      have hz7 := HRF8.out.be.size
                      go_wp2_with (at_builtin; refine wpList_append_own_at _ rfl (.tmp 166) (.tmp 168) 42 rfl w.heap.size 56 i1 (.agg #[.int .i64 0, .int .i64 0, .string ByteArray.empty]) 3 32 (by exact und_act) hi1 iz3 iz4 iz5 rfl (by decide) (.slice A2 ac.length c2) ac.length (ac.flatMap Ac.cs) rfl (HRF8.out.r2.alloc _) ⟨wr.heap.size, 0, none⟩ 1 1 [.int .i64 (dn : Nat), .int .i64 0, .string ⟨#[]⟩] (by first | rfl | go_simp) rfl (cells_at wr [.int .i64 (dn : Nat), .int .i64 0, .string ⟨#[]⟩] _ _ (by first | rfl | go_simp)) (by intro u hu; simp at hu; rcases hu with rfl | rfl | rfl <;> rfl) (by unfold maxLen; omega) (by omega) (by simp at hz7 ⊢; omega) ?_; intro v8 w8 hown8 hg8 _ hat8; obtain ⟨A8, c8, rfl⟩ := own_sl hown8; have HRFA := hide ((HRF8.out.below (show Below wr.heap.size wr (wr.alloc _) from (Below.refl _ _).alloc (Nat.le_refl _) _)).grow2 (m := ⟨(dn : Nat), 0, ⟨#[]⟩⟩) hg8 hown8); have b18 : w8.cell? ⟨b, 1, none⟩ = some (.slice A2 ac.length c2) := (block_cell HRFA.out.bb 1).trans rfl; have y18 : w8.frozen? ⟨b, 1, none⟩ = false := block_free HRFA.out.bb 1; clear hown8 hg8 hat8)
                      go_roundw
                      case rel => exact ⟨y.extract dg.size y.size, ac ++ [⟨(dn : Nat), 0, ⟨#[]⟩⟩], A8, c8, f2', rfl, by rw [List.length_append]; exact HRFA.out.set2 hlb hrb _, by rw [HUE.out, HU.out]; exact EN.out, by rw [HUE.out]; omega, by rw [List.length_append]; simp only [List.length_singleton]; rw [HUE.out]; omega, fun m' hm' => (by
                        rcases List.mem_append.1 hm' with h | h
                        · exact HGL2.out _ h
                        · rw [List.mem_singleton.1 h]; show (⟨#[]⟩ : ByteArray).size ≤ _; exact Nat.zero_le _)⟩
                      case measure => show (y.extract dg.size y.size).size < s2.size; rw [HUE.out]; omega
    | none =>
      have EM := hide (hmeq.trans (show rdMs (f' + 1) s.data.toList ms = match rdM s.data.toList with
      | none => none
      | some (m, r) => match cutP [32] r with
        | none => none
        | some r' => rdMs f' r' (ms ++ [m]) by rw [rdMs, hp]; rfl))
      rw [hp] at CH
      clear hmeq hp
      obtain ⟨l1, hl1⟩ : ∃ l1, (cutP [33] s.data.toList).getD s.data.toList = l1 := ⟨_, rfl⟩
      obtain ⟨no, hno⟩ : ∃ no, (cutP [33] s.data.toList).isSome = no := ⟨_, rfl⟩
      have CC := hide (fun W => show Calls Tryd.prog 38 #[.string s, .string ⟨#[33]⟩] W fun e w' => e = .returned (.tuple #[.string (bs l1), .bool no]) ∧ w' = W by
        cases hp : cutP [33] s.data.toList with
        | none =>
          rw [hp] at hl1 hno
          have := cpF s ⟨#[33]⟩ hp W
          rw [← hl1, ← hno]
          show Calls _ _ _ _ fun e w' => e = .returned (.tuple #[.string (bs s.data.toList), .bool false]) ∧ w' = W
          rw [bs_of]
          exact this
        | some r =>
          rw [hp] at hl1 hno
          rw [← hl1, ← hno]
          exact cpT s ⟨#[33]⟩ hp W)
      have hll : l1.length ≤ s.data.toList.length := by
        rw [← hl1]
        cases hp : cutP [33] s.data.toList with
        | none => exact Nat.le_refl _
        | some r => have := cutP_len hp; simp; omega
      have HRD := hide (show rdM s.data.toList = match rdOn wM l1 1 6 with
          | none => none
          | some (k, r) => if k = 6 then some (⟨6, no, ⟨#[]⟩⟩, r) else (rdQ r).map fun x => (⟨k, no, bs x.1⟩, x.2) by rw [rdM, hl1, hno]; rfl)
      clear hl1 hno
      go_wp2_with (first | (go_at_call 22; refine CH.out.mono ?_; rintro e w4 ⟨rfl, hh⟩; obtain rfl := hh.symm) | (go_at_call 38; refine (CC.out _).mono ?_; rintro e w4 ⟨rfl, hh⟩; obtain rfl := hh.symm))
      obtain ⟨mb, hmb⟩ : ∃ mb, wr.heap.size = mb := ⟨_, rfl⟩
      obtain ⟨wi, hwi⟩ : ∃ wi, wr.alloc (.cells #[.int .i64 0, .bool no, .string ⟨#[]⟩] 53) = wi := ⟨_, rfl⟩
      have hbi : Below wr.heap.size wr wi := hwi ▸ (Below.refl _ _).alloc (Nat.le_refl _) _
      have HMI := hide (show wi.heap[mb]? = some (.cells #[.int .i64 0, .bool no, .string ⟨#[]⟩] 53 (0, 0)) from hwi ▸ hmb ▸ heap_alloc_new wr _)
      have HRX := hide (fun W (h : Below mb wr W) => HRS.out.below (show Below wr.heap.size wr W by rw [hmb]; exact h))
      have HBI := hide (show Below mb wr wi by rw [← hmb]; exact hbi)
      rw [hmb, hwi]
      have hbm : b < mb := by omega
      clear hmb hwi hbi
      go_loopw [0, 6] (fun v0 v6 wk => ∃ (k g : Nat), v0 = .string (bs l1) ∧ v6 = .int .i64 (k : Int) ∧ 1 ≤ k ∧ k + g = 7 ∧ 1 ≤ g ∧ rdOn wM l1 1 6 = rdOn wM l1 k g ∧ Below mb wr wk ∧ wk.heap[mb]? = some (.cells #[.int .i64 0, .bool no, .string ⟨#[]⟩] 53 (0, 0))) (fun _ v6 _ => 6 - (intOf v6).toNat)
      case atStart => exact ⟨1, 6, rfl, rfl, Nat.le_refl _, rfl, by omega, rfl, HBI.out, HMI.out⟩
      case round =>
        obtain ⟨k, g, rfl, rfl, hk1, hkg, hg1, hon, hrk, hmk⟩ := hrel
        have HRK := hide hrk
        have HMK := hide hmk
        have hzm := lt_of_block hmk
        have m0 : wr.cell? ⟨mb, 0, none⟩ = some (.int .i64 0) := (block_cell hmk 0).trans rfl
        clear hrk hmk
        by_cases hk : k ≤ 5
        · have hk' : (k : Int) ≤ 5 := by omega
          have CW := hide (matchWord_any k hk1 hk wr)
          have hwz : (bs (wR k)).size ≤ 6 := by rw [bs_size]; exact wR_size k (by omega) hk1
          have hwz' : ¬ (bs (wR k)).size + 1 > maxLen := by unfold maxLen; omega
          obtain ⟨g', rfl⟩ : ∃ g', g = g' + 1 := ⟨g - 1, by omega⟩
          cases hc : cutP (wM k) l1 with
          | none =>
            have HON := hide (hon.trans (rdOn_miss hc))
            have CP := hide (fun W => cpF (bs l1) (bs (wR k) ++ ⟨#[58]⟩) (by rw [wR_wM k (by omega) hk1, bs_list]; exact hc) W)
            clear hon hc
            go_wp2_with (first | (go_at_call 39; refine CW.out.mono ?_; rintro e w5 ⟨rfl, hb5⟩; have HR5 := hide (HRK.out.trans (hb5.mono (Nat.le_of_lt hzm))); have HM5 := hide (block_below HMK.out hb5); clear hb5) | (go_at_call 38; refine (CP.out _).mono ?_; rintro e w6 ⟨rfl, hh⟩; obtain rfl := hh.symm))
            go_roundw
            case rel => exact ⟨k + 1, g', rfl, by go_num, by omega, by omega, by omega, HON.out, HR5.out, HM5.out⟩
            case measure => simp [intOf]; omega
          | some r =>
            have HON := hide (hon.trans (rdOn_hit hc))
            have CP := hide (fun W => cpT (bs l1) (bs (wR k) ++ ⟨#[58]⟩) (by rw [wR_wM k (by omega) hk1, bs_list]; exact hc) W)
            have hrl := cutP_len hc
            have CQ := hide (fun W => cutQuoted_any (bs r) W (by rw [bs_size]; omega))
            rw [bs_list] at CQ
            have hk6 : k ≠ 6 := by omega
            clear hon hc
            cases hq : rdQ r with
            | none =>
              have E := hide (show rdRule t.data.toList = none by rw [ER.out, EM.out, HRD.out, HON.out]; simp [hk6, hq])
              rw [hq] at CQ
              clear hq
              go_wp2_with (first | (go_at_call 39; refine CW.out.mono ?_; rintro e w5 ⟨rfl, hb5⟩; have HR5 := hide (HRK.out.trans (hb5.mono (Nat.le_of_lt hzm))); have HM5 := hide (block_below HMK.out hb5); have hz5 := hb5.size; have n05 : w5.frozen? ⟨mb, 0, none⟩ = false := block_free HM5.out 0; have m05 : w5.cell? ⟨mb, 0, none⟩ = some (.int .i64 0) := (block_cell HM5.out 0).trans rfl; clear hb5) | (go_at_call 38; refine (CP.out _).mono ?_; rintro e w6 ⟨rfl, hh⟩; obtain rfl := hh.symm) | (go_at_call 40; refine (CQ.out _).mono ?_))
              rintro e w7 ⟨he, hb7⟩
              obtain rfl : e = .returned (.tuple #[.string ⟨#[]⟩, .string (bs r), .bool false]) := he
              have hzs : mb ≤ (w5.setCell ⟨mb, 0, none⟩ (.int .i64 (k : Int))).heap.size := by have := lt_of_block (block_set HM5.out (i := 0) (.int .i64 (k : Int))); omega
              have HB7 := hide ((below_set HR5.out (Nat.le_refl _) (i := 0) (.int .i64 (k : Int))).trans (hb7.mono hzs))
              have HM7 := hide (block_below (block_set HM5.out (i := 0) (.int .i64 (k : Int))) hb7)
              have n07 : w7.frozen? ⟨mb, 0, none⟩ = false := block_free HM7.out 0
              have n27 : w7.frozen? ⟨mb, 2, none⟩ = false := block_free HM7.out 2
              have m07 : w7.cell? ⟨mb, 0, none⟩ = some (.int .i64 (k : Int)) := (block_cell HM7.out 0).trans rfl
              have m17 : w7.cell? ⟨mb, 1, none⟩ = some (.bool no) := (block_cell HM7.out 1).trans rfl
              have m27 : w7.cell? ⟨mb, 2, none⟩ = some (.string ⟨#[]⟩) := (block_cell HM7.out 2).trans rfl
              clear hb7
              have HRF8 := hide (HRX.out (w7.setCell ⟨mb, 2, none⟩ (.string ⟨#[]⟩)) (below_set HB7.out (Nat.le_refl _) _))
              have b0 : (w7.setCell ⟨mb, 2, none⟩ (.string ⟨#[]⟩)).cell? ⟨b, 0, none⟩ = some (.slice A ms.length c) := (block_cell HRF8.out.bb 0).trans rfl
              have b1 : (w7.setCell ⟨mb, 2, none⟩ (.string ⟨#[]⟩)).cell? ⟨b, 1, none⟩ = some (.slice none 0 0) := (block_cell HRF8.out.bb 1).trans rfl
              have y0 : (w7.setCell ⟨mb, 2, none⟩ (.string ⟨#[]⟩)).frozen? ⟨b, 0, none⟩ = false := block_free HRF8.out.bb 0
              have y1 : (w7.setCell ⟨mb, 2, none⟩ (.string ⟨#[]⟩)).frozen? ⟨b, 1, none⟩ = false := block_free HRF8.out.bb 1
              have r0 : (w7.setCell ⟨mb, 2, none⟩ (.string ⟨#[]⟩)).frozen? ⟨w.heap.size, 0, none⟩ = false := block_free HRF8.out.rz 0
              have r1 : (w7.setCell ⟨mb, 2, none⟩ (.string ⟨#[]⟩)).frozen? ⟨w.heap.size, 1, none⟩ = false := block_free HRF8.out.rz 1
              have s0 : (w7.setCell ⟨mb, 2, none⟩ (.string ⟨#[]⟩)).cell? ⟨w.heap.size, 0, none⟩ = some (.slice none 0 0) := (block_cell HRF8.out.rz 0).trans rfl
              have s1 : (w7.setCell ⟨mb, 2, none⟩ (.string ⟨#[]⟩)).cell? ⟨w.heap.size, 1, none⟩ = some (.slice none 0 0) := (block_cell HRF8.out.rz 1).trans rfl
              go_wp2_with (fail)
              obtain ⟨wf, hwf⟩ : ∃ wf, ((w7.setCell ⟨mb, 2, none⟩ (.string ⟨#[]⟩)).setCell ⟨w.heap.size, 0, none⟩ (.slice A ms.length c)).setCell ⟨w.heap.size, 1, none⟩ (.slice none 0 0) = wf := ⟨_, rfl⟩
              have HFF := hide (HRF8.out.ret (Nat.le_refl _) (.slice A ms.length c) (.slice none 0 0) hwf)
              have z0 := (block_cell HFF.out.2.2.2 0).trans (show _ = some _ from rfl)
              have z1 := (block_cell HFF.out.2.2.2 1).trans (show _ = some _ from rfl)
              rw [hwf]
              clear hwf
              go_wp2_with (fail)
              refine bodyPost_ret (by simp [results, Tryd.results16, go_sem, z0, z1]; try rfl) rfl ?_
              exact ⟨HFF.out.1, .inl ⟨E.out, _, _, _, _, _, _, rfl⟩⟩
            | some x =>
              have hxl := rdQ_len hq
              have EM2 := hide (show rdMs (t.data.toList.length + 1) t.data.toList [] = match cutP [32] x.2 with
                | none => none
                | some r' => rdMs f' r' (ms ++ [⟨(k : Int), no, bs x.1⟩]) by rw [EM.out, HRD.out, HON.out]; simp [hk6, hq])
              rw [hq] at CQ
              clear hq
              go_wp2_with (first | (go_at_call 39; refine CW.out.mono ?_; rintro e w5 ⟨rfl, hb5⟩; have HR5 := hide (HRK.out.trans (hb5.mono (Nat.le_of_lt hzm))); have HM5 := hide (block_below HMK.out hb5); have hz5 := hb5.size; have n05 : w5.frozen? ⟨mb, 0, none⟩ = false := block_free HM5.out 0; have m05 : w5.cell? ⟨mb, 0, none⟩ = some (.int .i64 0) := (block_cell HM5.out 0).trans rfl; clear hb5) | (go_at_call 38; refine (CP.out _).mono ?_; rintro e w6 ⟨rfl, hh⟩; obtain rfl := hh.symm) | (go_at_call 40; refine (CQ.out _).mono ?_))
              rintro e w7 ⟨he, hb7⟩
              obtain rfl : e = .returned (.tuple #[.string (bs x.1), .string (bs x.2), .bool true]) := he
              have hzs : mb ≤ (w5.setCell ⟨mb, 0, none⟩ (.int .i64 (k : Int))).heap.size := by have := lt_of_block (block_set HM5.out (i := 0) (.int .i64 (k : Int))); omega
              have HB7 := hide ((below_set HR5.out (Nat.le_refl _) (i := 0) (.int .i64 (k : Int))).trans (hb7.mono hzs))
              have HM7 := hide (block_below (block_set HM5.out (i := 0) (.int .i64 (k : Int))) hb7)
              have n07 : w7.frozen? ⟨mb, 0, none⟩ = false := block_free HM7.out 0
              have n27 : w7.frozen? ⟨mb, 2, none⟩ = false := block_free HM7.out 2
              have m07 : w7.cell? ⟨mb, 0, none⟩ = some (.int .i64 (k : Int)) := (block_cell HM7.out 0).trans rfl
              have m17 : w7.cell? ⟨mb, 1, none⟩ = some (.bool no) := (block_cell HM7.out 1).trans rfl
              have m27 : w7.cell? ⟨mb, 2, none⟩ = some (.string ⟨#[]⟩) := (block_cell HM7.out 2).trans rfl
              clear hb7
              have HRF8 := hide (HRX.out (w7.setCell ⟨mb, 2, none⟩ (.string (bs x.1))) (below_set HB7.out (Nat.le_refl _) _))
              have HM8 := hide (show (w7.setCell ⟨mb, 2, none⟩ (.string (bs x.1))).heap[mb]? = some (.cells #[.int .i64 (k : Int), .bool no, .string (bs x.1)] 53 (0, 0)) from block_set HM7.out _)
              have b0 : (w7.setCell ⟨mb, 2, none⟩ (.string (bs x.1))).cell? ⟨b, 0, none⟩ = some (.slice A ms.length c) := (block_cell HRF8.out.bb 0).trans rfl
              have b1 : (w7.setCell ⟨mb, 2, none⟩ (.string (bs x.1))).cell? ⟨b, 1, none⟩ = some (.slice none 0 0) := (block_cell HRF8.out.bb 1).trans rfl
              have y0 : (w7.setCell ⟨mb, 2, none⟩ (.string (bs x.1))).frozen? ⟨b, 0, none⟩ = false := block_free HRF8.out.bb 0
              have y1 : (w7.setCell ⟨mb, 2, none⟩ (.string (bs x.1))).frozen? ⟨b, 1, none⟩ = false := block_free HRF8.out.bb 1
              have r0 : (w7.setCell ⟨mb, 2, none⟩ (.string (bs x.1))).frozen? ⟨w.heap.size, 0, none⟩ = false := block_free HRF8.out.rz 0
              have r1 : (w7.setCell ⟨mb, 2, none⟩ (.string (bs x.1))).frozen? ⟨w.heap.size, 1, none⟩ = false := block_free HRF8.out.rz 1
              have s0 : (w7.setCell ⟨mb, 2, none⟩ (.string (bs x.1))).cell? ⟨w.heap.size, 0, none⟩ = some (.slice none 0 0) := (block_cell HRF8.out.rz 0).trans rfl
              have s1 : (w7.setCell ⟨mb, 2, none⟩ (.string (bs x.1))).cell? ⟨w.heap.size, 1, none⟩ = some (.slice none 0 0) := (block_cell HRF8.out.rz 1).trans rfl
              have m08 : (w7.setCell ⟨mb, 2, none⟩ (.string (bs x.1))).cell? ⟨mb, 0, none⟩ = some (.int .i64 (k : Int)) := (block_cell HM8.out 0).trans rfl
              have m18 : (w7.setCell ⟨mb, 2, none⟩ (.string (bs x.1))).cell? ⟨mb, 1, none⟩ = some (.bool no) := (block_cell HM8.out 1).trans rfl
              have m28 : (w7.setCell ⟨mb, 2, none⟩ (.string (bs x.1))).cell? ⟨mb, 2, none⟩ = some (.string (bs x.1)) := (block_cell HM8.out 2).trans rfl
              have hz8 := HRF8.out.be.size
              have hk0 : ((k : Int) == 0) = false := beq_eq_false_iff_ne.2 (by omega)
              have hk0' : ¬ (k : Int) = 0 := by omega
              cases hp2 : cutP [32] x.2 with
              | none =>
                have E := hide (show rdRule t.data.toList = none by rw [ER.out, EM2.out, hp2])
                have CS := hide (fun W => cpF (bs x.2) ⟨#[32]⟩ (by rw [bs_list]; exact hp2) W)
                clear hp2
                go_wp2_with (go_at_call 38; refine (CS.out _).mono ?_; rintro e w6 ⟨rfl, hh⟩; obtain rfl := hh.symm)
                obtain ⟨wf, hwf⟩ : ∃ wf, ((w7.setCell ⟨mb, 2, none⟩ (.string (bs x.1))).setCell ⟨w.heap.size, 0, none⟩ (.slice A ms.length c)).setCell ⟨w.heap.size, 1, none⟩ (.slice none 0 0) = wf := ⟨_, rfl⟩
                have HFF := hide (HRF8.out.ret (Nat.le_refl _) (.slice A ms.length c) (.slice none 0 0) hwf)
                have z0 := (block_cell HFF.out.2.2.2 0).trans (show _ = some _ from rfl)
                have z1 := (block_cell HFF.out.2.2.2 1).trans (show _ = some _ from rfl)
                rw [hwf]
                clear hwf
                go_wp2_with (fail)
                refine bodyPost_ret (by simp [results, Tryd.results16, go_sem, z0, z1]; try rfl) rfl ?_
                exact ⟨HFF.out.1, .inl ⟨E.out, _, _, _, _, _, _, rfl⟩⟩
              | some r' =>
                have EN := hide (EM2.out.trans (show _ = rdMs f' r' (ms ++ [⟨(k : Int), no, bs x.1⟩]) by rw [hp2]))
                have CS := hide (fun W => cpT (bs x.2) ⟨#[32]⟩ (by rw [bs_list]; exact hp2) W)
                have hrl2 := cutP_len hp2
                simp only [List.length_singleton] at hrl2
                clear hp2
                go_wp2_with (first | (go_at_call 38; refine (CS.out _).mono ?_; rintro e w6 ⟨rfl, hh⟩; obtain rfl := hh.symm) | (at_builtin; refine wpList_append_own_at _ rfl (.tmp 81) (.tmp 83) 41 rfl w.heap.size 53 i0 (.agg #[.int .i64 0, .bool false, .string ByteArray.empty]) 3 32 (by exact und_match) hi0 iz0 iz1 iz2 rfl (by decide) (.slice A ms.length c) ms.length (ms.flatMap Mt.cs) rfl (HRF8.out.r1.alloc _) ⟨(w7.setCell ⟨mb, 2, none⟩ (.string (bs x.1))).heap.size, 0, none⟩ 1 1 [.int .i64 (k : Int), .bool no, .string (bs x.1)] (by first | rfl | go_simp) rfl (cells_at _ [.int .i64 (k : Int), .bool no, .string (bs x.1)] _ _ (by first | rfl | go_simp)) (by intro u hu; simp at hu; rcases hu with rfl | rfl | rfl <;> rfl) (by unfold maxLen; omega) (by omega) (by simp at hz8 ⊢; omega) ?_; intro v8 w8 hown8 hg8 _ hat8; obtain ⟨A8, c8, rfl⟩ := own_sl hown8; have HRFA := hide ((HRF8.out.below (show Below (w7.setCell ⟨mb, 2, none⟩ (.string (bs x.1))).heap.size (w7.setCell ⟨mb, 2, none⟩ (.string (bs x.1))) ((w7.setCell ⟨mb, 2, none⟩ (.string (bs x.1))).alloc _) from (Below.refl _ _).alloc (Nat.le_refl _) _)).grow1 (m := ⟨(k : Int), no, bs x.1⟩) hg8 hown8); have b08 : w8.cell? ⟨b, 0, none⟩ = some (.slice A ms.length c) := (block_cell HRFA.out.bb 0).trans rfl; have y08 : w8.frozen? ⟨b, 0, none⟩ = false := block_free HRFA.out.bb 0; clear hown8 hg8 hat8))
                go_roundw
                case rel => exact ⟨bs r', ms ++ [⟨(k : Int), no, bs x.1⟩], A8, c8, f', rfl, by rw [List.length_append]; exact HRFA.out.set1 hlb hrb _, by rw [bs_list]; exact EN.out, by rw [bs_size]; omega, by rw [bs_size, List.length_append]; simp only [List.length_singleton]; omega, fun m' hm' => (by
                  rcases List.mem_append.1 hm' with h | h
                  · exact HGL.out _ h
                  · rw [List.mem_singleton.1 h]; show (bs x.1).size ≤ _; rw [bs_size]; omega)⟩
                case measure => show (bs r').size < s.size; rw [bs_size]; omega
        · obtain rfl : k = 6 := by omega
          obtain rfl : g = 1 := by omega
          cases hc : cutP (wM 6) l1 with
          | none =>
            have E := hide (show rdRule t.data.toList = none by rw [ER.out, EM.out, HRD.out, hon, rdOn_miss hc]; rfl)
            have CO := hide (fun W => cpF (bs l1) ⟨#[111, 119, 110]⟩ (by rw [bs_list]; exact hc) W)
            have HRFO := hide (HRX.out wr HRK.out)
            clear hon hc
            have b0 : wr.cell? ⟨b, 0, none⟩ = some (.slice A ms.length c) := (block_cell HRFO.out.bb 0).trans rfl
            have b1 : wr.cell? ⟨b, 1, none⟩ = some (.slice none 0 0) := (block_cell HRFO.out.bb 1).trans rfl
            have y0 : wr.frozen? ⟨b, 0, none⟩ = false := block_free HRFO.out.bb 0
            have y1 : wr.frozen? ⟨b, 1, none⟩ = false := block_free HRFO.out.bb 1
            have r0 : wr.frozen? ⟨w.heap.size, 0, none⟩ = false := block_free HRFO.out.rz 0
            have r1 : wr.frozen? ⟨w.heap.size, 1, none⟩ = false := block_free HRFO.out.rz 1
            have s0 : wr.cell? ⟨w.heap.size, 0, none⟩ = some (.slice none 0 0) := (block_cell HRFO.out.rz 0).trans rfl
            have s1 : wr.cell? ⟨w.heap.size, 1, none⟩ = some (.slice none 0 0) := (block_cell HRFO.out.rz 1).trans rfl
            go_wp2_with (go_at_call 38; refine (CO.out _).mono ?_; rintro e w6 ⟨rfl, hh⟩; obtain rfl := hh.symm; clear CO)
            obtain ⟨wf, hwf⟩ : ∃ wf, (wr.setCell ⟨w.heap.size, 0, none⟩ (.slice A ms.length c)).setCell ⟨w.heap.size, 1, none⟩ (.slice none 0 0) = wf := ⟨_, rfl⟩
            have HFF := hide (HRFO.out.ret (Nat.le_refl _) (.slice A ms.length c) (.slice none 0 0) hwf)
            have z0 := (block_cell HFF.out.2.2.2 0).trans (show _ = some _ from rfl)
            have z1 := (block_cell HFF.out.2.2.2 1).trans (show _ = some _ from rfl)
            rw [hwf]
            clear hwf
            go_wp2_with (fail)
            refine bodyPost_ret (by simp [results, Tryd.results16, go_sem, z0, z1]; try rfl) rfl ?_
            exact ⟨HFF.out.1, .inl ⟨E.out, _, _, _, _, _, _, rfl⟩⟩
          | some r =>
            have CO := hide (fun W => cpT (bs l1) ⟨#[111, 119, 110]⟩ (by rw [bs_list]; exact hc) W)
            have EM2 := hide (show rdMs (t.data.toList.length + 1) t.data.toList [] = match cutP [32] r with
                | none => none
                | some r' => rdMs f' r' (ms ++ [⟨6, no, ⟨#[]⟩⟩]) by rw [EM.out, HRD.out, hon, rdOn_hit hc]; simp)
            have hrl := cutP_len hc
            have n06 : wr.frozen? ⟨mb, 0, none⟩ = false := block_free HMK.out 0
            have m16 : wr.cell? ⟨mb, 1, none⟩ = some (.bool no) := (block_cell HMK.out 1).trans rfl
            have m26 : wr.cell? ⟨mb, 2, none⟩ = some (.string ⟨#[]⟩) := (block_cell HMK.out 2).trans rfl
            have HRFO := hide (HRX.out (wr.setCell ⟨mb, 0, none⟩ (.int .i64 6)) (below_set HRK.out (Nat.le_refl _) _))
            have HM8 := hide (show (wr.setCell ⟨mb, 0, none⟩ (.int .i64 6)).heap[mb]? = some (.cells #[.int .i64 6, .bool no, .string ⟨#[]⟩] 53 (0, 0)) from block_set HMK.out _)
            have b0 : (wr.setCell ⟨mb, 0, none⟩ (.int .i64 6)).cell? ⟨b, 0, none⟩ = some (.slice A ms.length c) := (block_cell HRFO.out.bb 0).trans rfl
            have b1 : (wr.setCell ⟨mb, 0, none⟩ (.int .i64 6)).cell? ⟨b, 1, none⟩ = some (.slice none 0 0) := (block_cell HRFO.out.bb 1).trans rfl
            have y0 : (wr.setCell ⟨mb, 0, none⟩ (.int .i64 6)).frozen? ⟨b, 0, none⟩ = false := block_free HRFO.out.bb 0
            have y1 : (wr.setCell ⟨mb, 0, none⟩ (.int .i64 6)).frozen? ⟨b, 1, none⟩ = false := block_free HRFO.out.bb 1
            have r0 : (wr.setCell ⟨mb, 0, none⟩ (.int .i64 6)).frozen? ⟨w.heap.size, 0, none⟩ = false := block_free HRFO.out.rz 0
            have r1 : (wr.setCell ⟨mb, 0, none⟩ (.int .i64 6)).frozen? ⟨w.heap.size, 1, none⟩ = false := block_free HRFO.out.rz 1
            have s0 : (wr.setCell ⟨mb, 0, none⟩ (.int .i64 6)).cell? ⟨w.heap.size, 0, none⟩ = some (.slice none 0 0) := (block_cell HRFO.out.rz 0).trans rfl
            have s1 : (wr.setCell ⟨mb, 0, none⟩ (.int .i64 6)).cell? ⟨w.heap.size, 1, none⟩ = some (.slice none 0 0) := (block_cell HRFO.out.rz 1).trans rfl
            have m08 : (wr.setCell ⟨mb, 0, none⟩ (.int .i64 6)).cell? ⟨mb, 0, none⟩ = some (.int .i64 6) := (block_cell HM8.out 0).trans rfl
            have m18 : (wr.setCell ⟨mb, 0, none⟩ (.int .i64 6)).cell? ⟨mb, 1, none⟩ = some (.bool no) := (block_cell HM8.out 1).trans rfl
            have m28 : (wr.setCell ⟨mb, 0, none⟩ (.int .i64 6)).cell? ⟨mb, 2, none⟩ = some (.string ⟨#[]⟩) := (block_cell HM8.out 2).trans rfl
            have hzO := HRFO.out.be.size
            clear hon hc
            go_wp2_with (go_at_call 38; refine (CO.out _).mono ?_; rintro e w6 ⟨rfl, hh⟩; obtain rfl := hh.symm; clear CO)
            cases hp2 : cutP [32] r with
            | none =>
              have E := hide (show rdRule t.data.toList = none by rw [ER.out, EM2.out, hp2])
              have CS := hide (fun W => cpF (bs r) ⟨#[32]⟩ (by rw [bs_list]; exact hp2) W)
              clear hp2
              go_wp2_with (go_at_call 38; refine (CS.out _).mono ?_; rintro e w6 ⟨rfl, hh⟩; obtain rfl := hh.symm)
              obtain ⟨wf, hwf⟩ : ∃ wf, ((wr.setCell ⟨mb, 0, none⟩ (.int .i64 6)).setCell ⟨w.heap.size, 0, none⟩ (.slice A ms.length c)).setCell ⟨w.heap.size, 1, none⟩ (.slice none 0 0) = wf := ⟨_, rfl⟩
              have HFF := hide (HRFO.out.ret (Nat.le_refl _) (.slice A ms.length c) (.slice none 0 0) hwf)
              have z0 := (block_cell HFF.out.2.2.2 0).trans (show _ = some _ from rfl)
              have z1 := (block_cell HFF.out.2.2.2 1).trans (show _ = some _ from rfl)
              rw [hwf]
              clear hwf
              go_wp2_with (fail)
              refine bodyPost_ret (by simp [results, Tryd.results16, go_sem, z0, z1]; try rfl) rfl ?_
              exact ⟨HFF.out.1, .inl ⟨E.out, _, _, _, _, _, _, rfl⟩⟩
            | some r' =>
              have EN := hide (EM2.out.trans (show _ = rdMs f' r' (ms ++ [⟨6, no, ⟨#[]⟩⟩]) by rw [hp2]))
              have CS := hide (fun W => cpT (bs r) ⟨#[32]⟩ (by rw [bs_list]; exact hp2) W)
              have hrl2 := cutP_len hp2
              simp only [List.length_singleton] at hrl2
              clear hp2
              go_wp2_with (first | (go_at_call 38; refine (CS.out _).mono ?_; rintro e w6 ⟨rfl, hh⟩; obtain rfl := hh.symm) | (at_builtin; refine wpList_append_own_at _ rfl (.tmp 81) (.tmp 83) 41 rfl w.heap.size 53 i0 (.agg #[.int .i64 0, .bool false, .string ByteArray.empty]) 3 32 (by exact und_match) hi0 iz0 iz1 iz2 rfl (by decide) (.slice A ms.length c) ms.length (ms.flatMap Mt.cs) rfl (HRFO.out.r1.alloc _) ⟨(wr.setCell ⟨mb, 0, none⟩ (.int .i64 6)).heap.size, 0, none⟩ 1 1 [.int .i64 6, .bool no, .string (⟨#[]⟩)] (by first | rfl | go_simp) rfl (cells_at _ [.int .i64 6, .bool no, .string (⟨#[]⟩)] _ _ (by first | rfl | go_simp)) (by intro u hu; simp at hu; rcases hu with rfl | rfl | rfl <;> rfl) (by unfold maxLen; omega) (by omega) (by simp at hzO ⊢; omega) ?_; intro v8 w8 hown8 hg8 _ hat8; obtain ⟨A8, c8, rfl⟩ := own_sl hown8; have HRFA := hide ((HRFO.out.below (show Below (wr.setCell ⟨mb, 0, none⟩ (.int .i64 6)).heap.size (wr.setCell ⟨mb, 0, none⟩ (.int .i64 6)) ((wr.setCell ⟨mb, 0, none⟩ (.int .i64 6)).alloc _) from (Below.refl _ _).alloc (Nat.le_refl _) _)).grow1 (m := ⟨6, no, ⟨#[]⟩⟩) hg8 hown8); have b08 : w8.cell? ⟨b, 0, none⟩ = some (.slice A ms.length c) := (block_cell HRFA.out.bb 0).trans rfl; have y08 : w8.frozen? ⟨b, 0, none⟩ = false := block_free HRFA.out.bb 0; clear hown8 hg8 hat8))
              go_roundw
              case rel => exact ⟨bs r', ms ++ [⟨6, no, ⟨#[]⟩⟩], A8, c8, f', rfl, by rw [List.length_append]; exact HRFA.out.set1 hlb hrb _, by rw [bs_list]; exact EN.out, by rw [bs_size]; omega, by rw [bs_size, List.length_append]; simp only [List.length_singleton]; omega, fun m' hm' => (by
                rcases List.mem_append.1 hm' with h | h
                · exact HGL.out _ h
                · rw [List.mem_singleton.1 h]; show (⟨#[]⟩ : ByteArray).size ≤ _; exact Nat.zero_le _)⟩
              case measure => show (bs r').size < s.size; rw [bs_size]; omega
end Go.Proofs.YtomihkflhhhpjaaDoor
