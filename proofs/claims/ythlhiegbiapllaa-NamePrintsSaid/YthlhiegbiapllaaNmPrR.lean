/- Walks of the reference's printTypes, printName, printType. -/
import Derived.Test.YthlhiegbiapllaaNmJoin
import Derived.Test.YthlhiegbiapllaaNmPrL
import Derived.Test.YthlhiegbiapllaaNmSame
namespace Go.Proofs.Ythlhiegbiapllaa
open Go.RowKit
set_option linter.unusedVariables false
theorem info_strS : (Try.prog.info? 9).map (fun i => (i.zero, i.size, i.bytes)) = some (some (.string ByteArray.empty), 1, 16) := by kernel_rfl
def prB (f : Nat) (t : Ty) : ByteArray := ⟨(prT f t).toArray⟩
def prP (f : Nat) (p : Part) : ByteArray := ⟨(prPart (prT f) p).toArray⟩
theorem bytes_eq {x : ByteArray} {l : List UInt8} (h : x.data.toList = l) : x = ⟨l.toArray⟩ := by
  obtain ⟨⟨a⟩⟩ := x
  simp at h
  rw [h]
theorem str_size {x : ByteArray} {l : List UInt8} (h : x.data.toList = l) : x.size = l.length := by rw [← h]; simp
theorem join_tys (f : Nat) (l : List Ty) : joinTwo 44 32 (l.map (prB f)) = prTys (prT f) l := by
  cases l with
  | nil => rfl
  | cons t r => simp [joinTwo, prTys, sepL, prB, List.flatMap_map]
theorem join_name (f : Nat) (l : List Part) : joinL 46 (l.map (prP f)) = prName (prT f) l := by
  cases l with
  | nil => rfl
  | cons t r => simp [joinL, prName, sepL, prP, List.flatMap_map]
theorem sumL_tys (f : Nat) (l : List Ty) (h : GoodTys f l) : sumL (l.map (prB f)) ≤ 1400 * cntTys f l := by
  have : sumL (l.map (prB f)) = sumN (fun t => (prT f t).length) l := by simp [sumL, sumN, prB, Function.comp_def, ByteArray.size]
  rw [this]
  unfold cntTys
  rw [← sumN_mul]
  exact sumN_le (fun t ht => by have := prT_len f t (h t ht); omega)
theorem prPart_len {f : Nat} {p : Part} (h1 : p.1.size ≤ 60) (h2 : GoodTys f p.2) : (prPart (prT f) p).length ≤ 62 + 1400 * cntTys f p.2 := by
  have h3 := prTys_len (l := p.2) (fun x hx => prT_len f x (h2 x hx))
  unfold prTys at h3
  unfold prPart
  have hs : p.1.data.toList.length = p.1.size := by simp
  split <;> simp only [List.length_append, List.length_cons, List.length_nil] <;> omega
theorem sumL_name (f : Nat) (l : List Part) (h : GoodParts f l) : sumL (l.map (prP f)) ≤ 62 * l.length + 1400 * cntParts f l := by
  have : sumL (l.map (prP f)) = sumN (fun t => (prPart (prT f) t).length) l := by simp [sumL, sumN, prP, Function.comp_def, ByteArray.size]
  rw [this]
  unfold cntParts
  rw [← sumN_mul, ← sumN_add]
  exact sumN_le (fun p hp => prPart_len (h p hp).1 (h p hp).2.2)
theorem SlP.first {α : Type} {w : World} {B sz n i : Nat} {R : α → List Value → Prop} {A : Option Addr} {l : List α} (h : SlP w B sz R A n l) (hi : i ≤ n) : SlP w B sz R A i (l.take i) := by
  refine ⟨by rw [List.length_take, h.len]; omega, fun h0 => ?_⟩
  obtain ⟨b, o, e, hlt, hc⟩ := h.cells (by omega)
  refine ⟨b, o, e, hlt, fun k a ha => hc k a ?_⟩
  rw [List.getElem?_take] at ha
  split at ha
  · exact ha
  · cases ha
theorem own_slice' {w : World} {base sz n : Nat} {e : TypeId} {v : Value} {xs : List Value} (h : w.ownsRow base e sz v n xs) : ∃ a c, v = .slice a n c := by
  rcases h.2 with ⟨rfl, rfl⟩ | ⟨g, cap, cur, rfl, _⟩
  · exact ⟨_, _, rfl⟩
  · exact ⟨_, _, rfl⟩
theorem own_cap {w : World} {base sz n c : Nat} {e : TypeId} {A : Option Addr} {xs : List Value} (h : w.ownsRow base e sz (.slice A n c) n xs) : c ≤ maxLen := by
  rcases h.2 with ⟨h1, _⟩ | ⟨g, cap, cur, h1, _, _, _, hm, _⟩
  · simp only [Value.slice.injEq] at h1
    rw [h1.2.2]; exact Nat.zero_le _
  · simp only [Value.slice.injEq] at h1
    rw [h1.2.2]; exact hm
theorem own_grow' {B sz n : Nat} {S : TypeId} {w0 wp w1 : World} {v : Value} {xs : List Value} {o : Obj} (HB : Below B w0 wp) (hB : B ≤ wp.heap.size) (HO : wp.ownsRow B S sz v n xs) (hg : (wp.alloc o).grownBy w1 v.ownBlock) : Below B w0 w1 :=
  (HB.alloc hB o).grown hg (by simp; omega) (fun j hj => (HO.lt j hj).1)
def rTyOk (f : Nat) : Prop := ∀ (k : Nat) (t : Ty) (cs : List Value) (w : World), TyIn w w.heap.size k t cs → Good f t → cnt f t ≤ 500 →
  Calls Try.prog 70 #[.agg cs.toArray] w fun e w' => (∃ s : ByteArray, e = .returned (.tuple #[.string s, .bool (!wd f t)]) ∧ s.size + 2 ≤ 1400 * cnt f t ∧ (wd f t = false → s = prB f t)) ∧ Below w.heap.size w w'
def rTysOk (f : Nat) : Prop := ∀ (k : Nat) (A : Option Addr) (n cap : Nat) (l : List Ty) (w : World), n ≤ cap → cap ≤ maxLen → n ≤ 21 → Tys w w.heap.size k A n l → GoodTys f l → cntTys f l ≤ 500 →
  Calls Try.prog 45 #[.slice A n cap] w fun e w' => (∃ s : ByteArray, e = .returned (.tuple #[.string s, .bool (!wdTys f l)]) ∧ s.size ≤ 1400 * cntTys f l ∧ (wdTys f l = false → s = ⟨(prTys (prT f) l).toArray⟩)) ∧ Below w.heap.size w w'
def rNameOk (f : Nat) : Prop := ∀ (k : Nat) (A : Option Addr) (n cap : Nat) (l : List Part) (w : World), n ≤ cap → cap ≤ maxLen → n ≤ 20 → Parts w w.heap.size k A n l → GoodParts f l → cntParts f l ≤ 500 →
  Calls Try.prog 44 #[.slice A n cap] w fun e w' => (∃ s : ByteArray, e = .returned (.tuple #[.string s, .bool (!wdParts f l)]) ∧ s.size ≤ 1280 + 1400 * cntParts f l ∧ (wdParts f l = false → s = ⟨(prName (prT f) l).toArray⟩)) ∧ Below w.heap.size w w'
theorem wdTys_hit {f : Nat} {l : List Ty} {j : Nat} {t : Ty} (h : l[j]? = some t) (hw : wd f t = true) : wdTys f l = true := List.any_eq_true.2 ⟨t, List.mem_of_getElem? h, hw⟩
theorem wdTys_snoc {f : Nat} {l : List Ty} {j : Nat} {t : Ty} (h0 : wdTys f (l.take j) = false) (h : l[j]? = some t) (hw : wd f t = false) : wdTys f (l.take (j + 1)) = false := by
  rw [take_succ_get h]; unfold wdTys at h0 ⊢; rw [List.any_append, h0]; simp [hw]
theorem wdParts_hit {f : Nat} {l : List Part} {j : Nat} {p : Part} (h : l[j]? = some p) (hw : wdTys f p.2 = true) : wdParts f l = true := List.any_eq_true.2 ⟨p, List.mem_of_getElem? h, hw⟩
theorem wdParts_snoc {f : Nat} {l : List Part} {j : Nat} {p : Part} (h0 : wdParts f (l.take j) = false) (h : l[j]? = some p) (hw : wdTys f p.2 = false) : wdParts f (l.take (j + 1)) = false := by
  rw [take_succ_get h]; unfold wdParts at h0 ⊢; rw [List.any_append, h0]; simp [hw]
theorem cntTys_mem {f : Nat} {l : List Part} {p : Part} (h : p ∈ l) : cntTys f p.2 ≤ cntParts f l := by
  unfold cntParts
  induction l with
  | nil => cases h
  | cons a l ih =>
    rw [sumN_cons]
    rcases List.mem_cons.1 h with rfl | h
    · omega
    · have := ih h; omega
set_option maxRecDepth 100000 in
set_option maxHeartbeats 8000000 in
theorem rTys_of {f : Nat} (H : rTyOk f) : rTysOk f := by
  intro k A n cap l w hnc hcm hn hl hg hc5
  unfold maxLen at hcm
  obtain ⟨i0, hi0, iz0, iz1, iz2⟩ := info_parts info_strS
  have HL := hide hl.len
  have HSL := hide hl
  have HG := hide hg
  have HH := hide H
  have HSM := hide (sumL_tys f l hg)
  have HC5 := hide hc5
  have HCM := hide (fun t (ht : t ∈ l) => Nat.le_trans (cnt_mem (f := f) ht) hc5)
  clear hl hg H
  go_enter Try.func45, Try.ntmps45
  go_wp2_with (fail)
  go_loopw [4, 11] (fun v i wr => ∃ j : Nat, j ≤ n ∧ i = .int .i64 j ∧ wr.ownsRow w.heap.size 9 1 v j (((l.take j).map (prB f)).flatMap cs) ∧ wdTys f (l.take j) = false ∧ Below w.heap.size w wr) (fun _ i _ => n - (intOf i).toNat)
  case atStart => exact ⟨0, Nat.zero_le _, rfl, World.ownsRow_nil _ _ _ _, rfl, Below.refl _ _⟩
  case round =>
    obtain ⟨j, hj, rfl, hown, hwd, hB⟩ := hrel
    have hz := hB.size
    have HOW := hide hown
    have HWD := hide hwd
    clear hwd
    by_cases hlt : j < n
    · obtain ⟨b, o, t, cs', rfl, hb, ht, hin, hcs⟩ := (tys_up HSL.out hB).at_ hlt
      have HT := hide ht
      have hm := List.mem_of_getElem? ht
      have HO := hide (fun ob : Obj => HH.out k t cs' (wr.alloc ob) (hin.up ((Below.refl _ _).alloc (Nat.le_refl _) ob)) (HG.out t hm) (HCM.out t hm))
      cases k with
      | zero => exact hin.elim
      | succ k =>
      obtain ⟨A1, n1, cap1, A2, n2, cap2, rfl, _⟩ := hin
      have c0 : wr.cell? ⟨b, o + j * 3, none⟩ = some (.int .i64 t.kind) := by simpa using hcs 0 _ rfl
      have c1 : wr.cell? ⟨b, o + j * 3 + 1, none⟩ = some (.slice A1 n1 cap1) := hcs 1 _ rfl
      have c2 : wr.cell? ⟨b, o + j * 3 + 2, none⟩ = some (.slice A2 n2 cap2) := hcs 2 _ rfl
      have HBA := hide (fun ob : Obj => hB.alloc hz ob)
      have HOA := hide (fun ob : Obj => hown.alloc ob)
      clear hcs ht hm hown
      cases hw : wd f t
      · rw [hw] at HO
        have HTK := hide (show ((l.take (j + 1)).map (prB f)).flatMap cs = ((l.take j).map (prB f)).flatMap cs ++ [.string (prB f t)] by rw [take_succ_get HT.out]; simp [cs])
        have HWN := hide (wdTys_snoc HWD.out HT.out hw)
        clear hw
        go_wp2_with (first | (go_at_call 70; refine (HO.out _).mono ?_; rintro e w2 ⟨⟨s, rfl, _, hs⟩, hw2⟩; obtain rfl := hs rfl; have hB2 : Below w.heap.size w w2 := (HBA.out _).trans (hw2.mono (by simp; omega)); have hz2 := hB2.size; have HO2 := hide (own_below (HOA.out _) hw2); clear hw2 hs) | (at_builtin; refine wpList_append_own _ rfl (.tmp 22) (.tmp 24) 97 rfl w.heap.size 9 i0 (.string ByteArray.empty) 1 16 Try.underlying97 hi0 iz0 iz1 iz2 rfl (by decide) _ j _ rfl (HO2.out.alloc _) ⟨w2.heap.size, 0, none⟩ 1 1 [.string (prB f t)] rfl rfl (cells_at _ [.string (prB f t)] _ _ (by first | rfl | simp)) (by intro u hu; simp at hu; subst hu; rfl) (by unfold maxLen; omega) (by omega) (by simp; try omega) ?_; intro v1 w1 hown1 hg1 _))
        have hB3 := own_grow' hB2 hz2 HO2.out hg1
        have HO3 := hide hown1
        clear hown1 hg1
        (try go_wp2_with (fail))
        go_roundw
        case rel => exact ⟨j + 1, by omega, by go_num, by rw [HTK.out]; exact HO3.out, HWN.out, hB3⟩
        case measure => simp [intOf]; omega
      · rw [hw] at HO
        have E := hide (show wdTys f l = true from wdTys_hit HT.out hw)
        clear hw
        go_wp2_with (go_at_call 70; refine (HO.out _).mono ?_; rintro e w2 ⟨⟨s, rfl, _, hs⟩, hw2⟩; have hB2 : Below w.heap.size w w2 := (HBA.out _).trans (hw2.mono (by simp; omega)); clear hw2 hs)
        go_ret2
        exact ⟨⟨⟨#[]⟩, by rw [E.out]; rfl, Nat.zero_le _, by rw [E.out]; exact fun h => by cases h⟩, hB2⟩
    · obtain rfl : j = n := by omega
      have htk : l.take j = l := take_len l (by rw [HL.out]; exact Nat.le_refl _)
      rw [htk] at hown
      have E := hide (show wdTys f l = false by have := HWD.out; rw [htk] at this; exact this)
      obtain ⟨A9, c9, rfl, hsl, hc9, hm9⟩ := sl_of_own (f := cs) (l := l.map (prB f)) (fun _ => rfl) (by rw [List.length_map]; exact HL.out) hown
      have hsm := HSM.out
      have HJ := hide (show Calls Try.prog 69 #[.slice A9 j c9, .string ⟨#[44, 32]⟩] wr fun e w' => e = .returned (.string ⟨(prTys (prT f) l).toArray⟩) ∧ Below wr.heap.size wr w' by
        have := Join_two A9 j c9 (l.map (prB f)) 44 32 wr hc9 (own_cap hown) (by omega) hsl
        rwa [join_tys] at this)
      have HSZ := hide (show (prTys (prT f) l).length ≤ 1400 * cntTys f l from prTys_len (fun x hx => prT_len f x (HG.out x hx)))
      clear hsl hown htk
      go_wp2_with (fail)
      refine HJ.out.mono ?_
      rintro e w2 ⟨rfl, hw2⟩
      have hB2 := hB.trans (hw2.mono hz)
      go_wp2_with (fail)
      go_ret2
      exact ⟨⟨_, by rw [E.out]; rfl, by rw [str_size (l := prTys (prT f) l) rfl]; exact HSZ.out, fun _ => rfl⟩, hB2⟩
set_option maxRecDepth 100000 in
set_option maxHeartbeats 8000000 in
theorem rName_of {f : Nat} (H : rTysOk f) : rNameOk f := by
  intro k A n cap l w hnc hcm hn hl hg hc5
  unfold maxLen at hcm
  obtain ⟨i0, hi0, iz0, iz1, iz2⟩ := info_parts info_strS
  have HL := hide hl.len
  have HSL := hide hl
  have HG := hide hg
  have HH := hide H
  have HSM := hide (sumL_name f l hg)
  have HCM := hide (fun p (hp : p ∈ l) => Nat.le_trans (cntTys_mem (f := f) hp) hc5)
  clear hl hg H
  go_enter Try.func44, Try.ntmps44
  go_wp2_with (fail)
  go_loopw [4, 12] (fun v i wr => ∃ j : Nat, j ≤ n ∧ i = .int .i64 j ∧ wr.ownsRow w.heap.size 9 1 v j (((l.take j).map (prP f)).flatMap cs) ∧ wdParts f (l.take j) = false ∧ Below w.heap.size w wr) (fun _ i _ => n - (intOf i).toNat)
  case atStart => exact ⟨0, Nat.zero_le _, rfl, World.ownsRow_nil _ _ _ _, rfl, Below.refl _ _⟩
  case round =>
    obtain ⟨j, hj, rfl, hown, hwd, hB⟩ := hrel
    have hz := hB.size
    have HOW := hide hown
    have HWD := hide hwd
    clear hwd
    by_cases hlt : j < n
    · obtain ⟨b, o, p, cs', rfl, hb, hp, hin, hcs⟩ := (parts_up HSL.out hB).at_ hlt
      have HP := hide hp
      have hm := List.mem_of_getElem? hp
      obtain ⟨g1, g2, g3⟩ := HG.out p hm
      have hcp := HCM.out p hm
      obtain ⟨A1, n1, cap1, rfl, hps, hn1, hc1, hts⟩ := hin
      obtain ⟨tx, ar⟩ := p
      simp only at g1 g2 g3 hcp hts
      have hal := hts.len
      have c0 : wr.cell? ⟨b, o + j * 2, none⟩ = some (.string tx) := by simpa using hcs 0 _ rfl
      have c1 : wr.cell? ⟨b, o + j * 2 + 1, none⟩ = some (.slice A1 n1 cap1) := hcs 1 _ rfl
      have HO := hide (fun ob : Obj => HH.out k A1 n1 cap1 ar (wr.alloc ob) hn1 hc1 (by omega) (tys_up hts ((Below.refl _ _).alloc (Nat.le_refl _) ob)) g3 hcp)
      have HBA := hide (fun ob : Obj => hB.alloc hz ob)
      have HOA := hide (fun ob : Obj => hown.alloc ob)
      have HPL := hide (prTys_len (f := f) (l := ar) (fun x hx => prT_len f x (g3 x hx)))
      unfold maxLen at hps hc1
      have HAL := hide hal
      clear hcs hts hp hm hown hal g3
      by_cases hz1 : n1 = 0
      · subst hz1
        have har : ar = [] := List.length_eq_zero_iff.1 HAL.out
        have HPP := hide (show prP f (tx, ar) = tx by rw [bytes_eq (x := tx) (l := tx.data.toList) rfl]; unfold prP prPart; rw [if_pos (by rw [har]; rfl)]; simp)
        have HTK := hide (show ((l.take (j + 1)).map (prP f)).flatMap cs = ((l.take j).map (prP f)).flatMap cs ++ [.string tx] by rw [take_succ_get HP.out]; simp [cs, HPP.out])
        have HWN := hide (wdParts_snoc HWD.out HP.out (by show wdTys f ar = false; rw [har]; rfl))
        have HO2 := hide (HOA.out (.cells #[.string tx, .slice A1 0 cap1] 55))
        have hB2 := HBA.out (.cells #[.string tx, .slice A1 0 cap1] 55)
        have hz2 := hB2.size
        clear har
        go_wp2_with (at_builtin; refine wpList_append_own _ rfl (.tmp 35) (.tmp 37) 97 rfl w.heap.size 9 i0 (.string ByteArray.empty) 1 16 Try.underlying97 hi0 iz0 iz1 iz2 rfl (by decide) _ j _ rfl (HO2.out.alloc _) ⟨wr.heap.size + 1, 0, none⟩ 1 1 [.string tx] rfl rfl (cells_at _ [.string tx] _ _ (by first | rfl | simp)) (by intro u hu; simp at hu; subst hu; rfl) (by unfold maxLen; omega) (by omega) (by simp; try omega) ?_; intro v1 w1 hown1 hg1 _)
        have hB3 := own_grow' hB2 hz2 HO2.out hg1
        have HO3 := hide hown1
        clear hown1 hg1
        (try go_wp2_with (fail))
        go_roundw
        case rel => exact ⟨j + 1, by omega, by go_num, by rw [HTK.out]; exact HO3.out, HWN.out, hB3⟩
        case measure => simp [intOf]; omega
      · have hzp : 0 < n1 := by omega
        have hzp1 : (0 : Int) < (n1 : Int) := by omega
        cases hw : wdTys f ar
        · rw [hw] at HO
          obtain ⟨ab, hab⟩ : ∃ ab : ByteArray, ⟨(prTys (prT f) ar).toArray⟩ = ab := ⟨_, rfl⟩
          have habs : ab.size ≤ 700000 := by rw [str_size (l := prTys (prT f) ar) (by rw [← hab])]; have := HPL.out; omega
          rw [hab] at HO
          have HPP := hide (show prP f (tx, ar) = tx ++ (⟨#[60]⟩ ++ ab ++ ⟨#[62]⟩) by
            rw [bytes_eq (x := tx ++ (⟨#[60]⟩ ++ ab ++ ⟨#[62]⟩)) (l := prPart (prT f) (tx, ar)) (by
              unfold prPart
              rw [if_neg (by show ¬ ar.length = 0; rw [HAL.out]; exact hz1), ← hab]
              simp [ByteArray.data_append, prTys])]
            rfl)
          have HTK := hide (show ((l.take (j + 1)).map (prP f)).flatMap cs = ((l.take j).map (prP f)).flatMap cs ++ [.string (tx ++ (⟨#[60]⟩ ++ ab ++ ⟨#[62]⟩))] by rw [take_succ_get HP.out]; simp [cs, HPP.out])
          have HWN := hide (wdParts_snoc HWD.out HP.out hw)
          clear hw hab hz1
          go_wp2_with (first | (go_at_call 45; refine (HO.out _).mono ?_; rintro e w2 ⟨⟨s, rfl, _, hs⟩, hw2⟩; obtain rfl := (hs rfl).symm; have hB2 : Below w.heap.size w w2 := (HBA.out _).trans (hw2.mono (by simp; omega)); have hz2 := hB2.size; have HO2 := hide (own_below (HOA.out _) hw2); clear hw2 hs) | (at_builtin; refine wpList_append_own _ rfl (.tmp 35) (.tmp 37) 97 rfl w.heap.size 9 i0 (.string ByteArray.empty) 1 16 Try.underlying97 hi0 iz0 iz1 iz2 rfl (by decide) _ j _ rfl (HO2.out.alloc _) ⟨w2.heap.size, 0, none⟩ 1 1 [.string (tx ++ (⟨#[60]⟩ ++ ab ++ ⟨#[62]⟩))] rfl rfl (cells_at _ [.string (tx ++ (⟨#[60]⟩ ++ ab ++ ⟨#[62]⟩))] _ _ (by first | rfl | simp)) (by intro u hu; simp at hu; subst hu; rfl) (by unfold maxLen; omega) (by omega) (by simp; try omega) ?_; intro v1 w1 hown1 hg1 _))
          have hB3 := own_grow' hB2 hz2 HO2.out hg1
          have HO3 := hide hown1
          clear hown1 hg1
          (try go_wp2_with (fail))
          go_roundw
          case rel => exact ⟨j + 1, by omega, by go_num, by rw [HTK.out]; exact HO3.out, HWN.out, hB3⟩
          case measure => simp [intOf]; omega
        · rw [hw] at HO
          have E := hide (show wdParts f l = true from wdParts_hit HP.out hw)
          clear hw
          go_wp2_with (go_at_call 45; refine (HO.out _).mono ?_; rintro e w2 ⟨⟨s, rfl, _, hs⟩, hw2⟩; have hB2 : Below w.heap.size w w2 := (HBA.out _).trans (hw2.mono (by simp; omega)); clear hw2 hs)
          go_ret2
          exact ⟨⟨⟨#[]⟩, by rw [E.out]; rfl, Nat.zero_le _, by rw [E.out]; exact fun h => by cases h⟩, hB2⟩
    · obtain rfl : j = n := by omega
      have htk : l.take j = l := take_len l (by rw [HL.out]; exact Nat.le_refl _)
      rw [htk] at hown
      have E := hide (show wdParts f l = false by have := HWD.out; rw [htk] at this; exact this)
      obtain ⟨A9, c9, rfl, hsl, hc9, hm9⟩ := sl_of_own (f := cs) (l := l.map (prP f)) (fun _ => rfl) (by rw [List.length_map]; exact HL.out) hown
      have hsm := HSM.out
      rw [HL.out] at hsm
      have HJ := hide (show Calls Try.prog 69 #[.slice A9 j c9, .string ⟨#[46]⟩] wr fun e w' => e = .returned (.string ⟨(prName (prT f) l).toArray⟩) ∧ Below wr.heap.size wr w' by
        have := Join_any A9 j c9 (l.map (prP f)) 46 wr hc9 (own_cap hown) (by omega) hsl
        rwa [join_name] at this)
      have HSZ := hide (show (prName (prT f) l).length ≤ 1280 + 1400 * cntParts f l from prName_len (fun p hp => ⟨(HG.out p hp).1, fun x hx => prT_len f x ((HG.out p hp).2.2 x hx)⟩) (by rw [HL.out]; exact hn))
      clear hsl hown htk
      go_wp2_with (fail)
      refine HJ.out.mono ?_
      rintro e w2 ⟨rfl, hw2⟩
      have hB2 := hB.trans (hw2.mono hz)
      go_wp2_with (fail)
      go_ret2
      exact ⟨⟨_, by rw [E.out]; rfl, by rw [str_size (l := prName (prT f) l) rfl]; exact HSZ.out, fun _ => rfl⟩, hB2⟩
end Go.Proofs.Ythlhiegbiapllaa
