/- Walks of the mangler's name, list, one (printed by gen_mm.py). -/
import Derived.Test.YtocpmbpckbjepaaDoorNmKey
import Derived.Test.YtocpmbpckbjepaaDoorNmMgS
import Derived.Test.YtocpmbpckbjepaaDoorNmGA
import Derived.Maps.OwnOps
import Derived.Maps.OwnSet
namespace Go.Proofs.YtocpmbpckbjepaaDoor
open Go.RowKit
set_option linter.unusedVariables false
set_option linter.unusedSimpArgs false
/-- All blocks but b, mb, and but rows of bytes, are as they were. -/
def KeptX (b mb : Nat) (w w' : World) : Prop := ∀ k o, w.heap[k]? = some o → (∀ cs fr, o ≠ .cells cs 5 fr) → k ≠ b → k ≠ mb → w'.heap[k]? = some o
theorem KeptX.refl (b mb : Nat) (w : World) : KeptX b mb w w := fun _ _ h _ _ _ => h
theorem KeptX.trans {b mb : Nat} {w w1 w2 : World} (h : KeptX b mb w w1) (h' : KeptX b mb w1 w2) : KeptX b mb w w2 := fun k o e h1 h2 h3 => h' k o (h k o e h1 h2 h3) h1 h2 h3
theorem KeptX.of_m {b mb : Nat} {w w' : World} (h : KeptM b w w') : KeptX b mb w w' := fun k o e h1 h2 _ => h k o e h1 h2
theorem KeptX.of_below {b mb : Nat} {w w' : World} (h : Below w.heap.size w w') : KeptX b mb w w' := fun k o e _ _ _ => block_below e h
theorem KeptX.cells {b mb k : Nat} {w w' : World} {cs : Array Value} {ty : TypeId} {fr : Nat × Nat} (h : KeptX b mb w w') (e : w.heap[k]? = some (.cells cs ty fr)) (ht : ty ≠ 5) (hb : k ≠ b) (hm : k ≠ mb) : w'.heap[k]? = some (.cells cs ty fr) :=
  h k _ e (fun cs' fr' e' => ht (by injection e')) hb hm
/-- The mangler in memory. -/
structure MgS (B b mb : Nat) (L : List UInt8) (d : List Ty) (w : World) : Prop where
  bld : MBld B b (Lib.byteCells L) (.map (some mb)) w
  map : w.ownsMap Tryd.prog 9 (plainElem Tryd.prog 3) mb d.length (idxD (kys d))
  hB : B ≤ mb
  ne : mb ≠ b
structure MgR (B b mb : Nat) (L : List UInt8) (d : List Ty) (w w' : World) : Prop where
  st : MgS B b mb L d w'
  be : Below B w w'
  kept : KeptX b mb w w'
theorem mapM_kept {mb n b : Nat} {D : DataW Unit} {w w' : World} (h : w.ownsMap Tryd.prog 9 (plainElem Tryd.prog 3) mb n D) (hk : KeptM b w w') (hne : mb ≠ b) : w'.ownsMap Tryd.prog 9 (plainElem Tryd.prog 3) mb n D := by
  obtain ⟨es, ck, h1, h2⟩ := h
  exact ⟨es, ck, hk _ _ h1 (by intro cs fr e; cases e) hne, h2⟩
theorem mapM_below {mb n : Nat} {D : DataW Unit} {w w' : World} (h : w.ownsMap Tryd.prog 9 (plainElem Tryd.prog 3) mb n D) (hk : Below w.heap.size w w') : w'.ownsMap Tryd.prog 9 (plainElem Tryd.prog 3) mb n D := by
  obtain ⟨es, ck, h1, h2⟩ := h
  exact ⟨es, ck, block_below h1 hk, h2⟩
theorem MgS.below {B b mb : Nat} {L : List UInt8} {d : List Ty} {w w' : World} (h : MgS B b mb L d w) (hb : Below w.heap.size w w') : MgS B b mb L d w' := ⟨mbld_below h.bld hb, mapM_below h.map hb, h.hB, h.ne⟩
theorem MgR.trans {B b mb : Nat} {L L' : List UInt8} {d d' : List Ty} {w w1 w2 : World} (h : MgR B b mb L d w w1) (h' : MgR B b mb L' d' w1 w2) : MgR B b mb L' d' w w2 := ⟨h'.st, h.be.trans h'.be, h.kept.trans h'.kept⟩
theorem MgR.below {B b mb : Nat} {L : List UInt8} {d : List Ty} {w w1 w2 : World} (h : MgR B b mb L d w w1) (hB : B ≤ w.heap.size) (h' : Below w1.heap.size w1 w2) : MgR B b mb L d w w2 := ⟨h.st.below h', h.be.trans (h'.mono (Nat.le_trans hB h.be.size)), h.kept.trans (KeptX.of_below h')⟩
theorem MgR.refl {B b mb : Nat} {L : List UInt8} {d : List Ty} {w : World} (h : MgS B b mb L d w) : MgR B b mb L d w w := ⟨h, Below.refl _ _, KeptX.refl _ _ _⟩
/-- A string written. -/
theorem mg_write {B b mb : Nat} {L : List UInt8} {d : List Ty} {w : World} (h : MgS B b mb L d w) (s : ByteArray) (hB : B ≤ w.heap.size) (hl : L.length + s.size ≤ 140737488355328) :
    Calls Tryd.prog 17 #[.pointer (some ⟨b, 0, none⟩), .string s] w fun e w' => e = .returned (.tuple #[.int .i64 s.size, .nilIface]) ∧ MgR B b mb (L ++ s.data.toList) d w w' := by
  refine (mwrite_bytes B b L _ s w h.bld hB hl).mono ?_
  rintro e w' ⟨rfl, h1, h2, h3⟩
  exact ⟨rfl, ⟨h1, mapM_kept h.map h3 h.ne, h.hB, h.ne⟩, h2, KeptX.of_m h3⟩
theorem MgS.lt {B b mb : Nat} {L : List UInt8} {d : List Ty} {w : World} (h : MgS B b mb L d w) : b < w.heap.size ∧ mb < w.heap.size := ⟨h.bld.lt.2, World.ownsMap.lt h.map⟩
def mOneOk (f : Nat) : Prop := ∀ (k : Nat) (t : Ty) (cs : List Value) (B b mb : Nat) (L : List UInt8) (d : List Ty) (w : World), TyIn w B k t cs → Good f t ∧ Txt f t → f ≤ 12 → DOk d → d.length + cnt f t ≤ 999 → cnt f t ≤ 500 → MgS B b mb L d w → Tab10 B w → B ≤ w.heap.size → L.length + 4000000 * f ≤ 100000000 →
  Calls Tryd.prog 43 #[.pointer (some ⟨b, 0, none⟩), .agg cs.toArray] w fun e w' => e = .returned (.tuple #[]) ∧ MgR B b mb (L ++ (mgT f t d).1) (mgT f t d).2 w w'
def mListOk (f : Nat) : Prop := ∀ (k : Nat) (A : Option Addr) (n cap : Nat) (l : List Ty) (s s' : ByteArray) (B b mb : Nat) (L : List UInt8) (d : List Ty) (w : World), n ≤ cap → cap ≤ maxLen → n ≤ 21 → s.size ≤ 1 → s'.size ≤ 1 → Tys w B k A n l → (∀ t ∈ l, Good f t ∧ Txt f t) → f ≤ 12 → DOk d → d.length + cntTys f l ≤ 999 → cntTys f l ≤ 500 → MgS B b mb L d w → Tab10 B w → B ≤ w.heap.size → L.length + 4000000 * f + 1000000 ≤ 100000000 →
  Calls Tryd.prog 19 #[.pointer (some ⟨b, 0, none⟩), .slice A n cap, .string s, .string s'] w fun e w' => e = .returned (.tuple #[]) ∧ MgR B b mb (L ++ s.data.toList ++ (mgFold (mgT f) l d).1 ++ s'.data.toList) (mgFold (mgT f) l d).2 w w'
def mNameOk (f : Nat) : Prop := ∀ (k : Nat) (A : Option Addr) (n cap : Nat) (l : List Part) (B b mb : Nat) (L : List UInt8) (d : List Ty) (w : World), n ≤ cap → cap ≤ maxLen → n ≤ 20 → Parts w B k A n l → (∀ p ∈ l, textE p.1 = 0 ∧ p.1.size ≤ 60 ∧ p.2.length ≤ 20 ∧ ∀ x ∈ p.2, Good f x ∧ Txt f x) → f ≤ 12 → DOk d → d.length + cntParts f l ≤ 999 → cntParts f l ≤ 500 → MgS B b mb L d w → Tab10 B w → B ≤ w.heap.size → L.length + 4000000 * f + 3000000 ≤ 100000000 →
  Calls Tryd.prog 18 #[.pointer (some ⟨b, 0, none⟩), .slice A n cap] w fun e w' => e = .returned (.tuple #[]) ∧ MgR B b mb (L ++ (mgName (mgT f) l d).1) (mgName (mgT f) l d).2 w w'
theorem mOne_zero : mOneOk 0 := fun _ _ _ _ _ _ _ _ _ _ h => h.1.elim
/-- Lists taken. -/
theorem fold_take {α : Type} {g : α → List Ty → List UInt8 × List Ty} {l : List α} {j : Nat} {a : α} (h : l[j]? = some a) (d : List Ty) : mgFold g (l.take (j + 1)) d = ((mgFold g (l.take j) d).1 ++ (g a (mgFold g (l.take j) d).2).1, (g a (mgFold g (l.take j) d).2).2) := by
  rw [take_succ_get h, mgFold_snoc]
theorem sumN_take {α : Type} (c : α → Nat) (l : List α) (j : Nat) : sumN c (l.take j) ≤ sumN c l := by
  have h : ∀ a b : List α, sumN c (a ++ b) = sumN c a + sumN c b := fun a b => by simp [sumN]
  have h2 := h (l.take j) (l.drop j)
  rw [List.take_append_drop] at h2
  omega
theorem sumN_split {α : Type} (c : α → Nat) {l : List α} {j : Nat} {a : α} (h : l[j]? = some a) : sumN c (l.take j) + c a ≤ sumN c l := by
  have := sumN_take c l (j + 1)
  rw [take_succ_get h] at this
  simpa [sumN] using this
set_option maxRecDepth 100000 in
set_option maxHeartbeats 8000000 in
theorem mList_of {f : Nat} (H : mOneOk f) : mListOk f := by
  intro k A n cap l s s' B b mb L d w hnc hcm hn hs1 hs1' hl hg hf12 hd hdc hc5 hst htb hBw hLL
  unfold maxLen at hcm
  have HL := hide hl.len
  have HSL := hide hl
  have HG := hide hg
  have HH := hide H
  have HTB := hide htb
  have hsl : s.data.toList.length ≤ 1 := by rw [Array.length_toList]; exact hs1
  have hsl' : s'.data.toList.length ≤ 1 := by rw [Array.length_toList]; exact hs1'
  have HGR := hide (fun j => fold_grew (c := cnt f) (S := fun y x => Sub y x) (fun t d ht hd => mgT_grew f t d hf12 ht hd) (l.take j) d (fun t ht => hg t (List.mem_of_mem_take ht)) hd)
  have HLN := hide (fun j => mgTys_len hf12 (fun t d ht hd hn => mgT_len f t d hf12 ht hd hn) (l := l.take j) (d := d) (fun t ht => hg t (List.mem_of_mem_take ht)) hd (by have := cntTys_take f l j; omega))
  have HSP := hide (fun (j : Nat) (a : Ty) (h : l[j]? = some a) => sumN_split (cnt f) h)
  have HC5 := hide (show sumN (cnt f) l ≤ 500 from hc5)
  have HDC := hide (show d.length + sumN (cnt f) l ≤ 999 from hdc)
  have HST := hide hst
  clear hl hg H htb hd hst
  go_enter Tryd.func19, Tryd.ntmps19
  go_wp2_with (go_at_call 17; refine (mg_write HST.out s hBw (by omega)).mono ?_; rintro e w1 ⟨rfl, hr1⟩; have HR1 := hide hr1; clear hr1)
  go_loopw [17] (fun i wr => ∃ j : Nat, j ≤ n ∧ i = .int .i64 j ∧ MgR B b mb (L ++ s.data.toList ++ (mgFold (mgT f) (l.take j) d).1) (mgFold (mgT f) (l.take j) d).2 w wr) (fun i _ => n - (intOf i).toNat)
  case atStart => exact ⟨0, Nat.zero_le _, rfl, by simpa [mgFold] using HR1.out⟩
  case round =>
    obtain ⟨j, hj, rfl, hR⟩ := hrel
    have hz := Nat.le_trans hBw hR.be.size
    have HR := hide hR
    have hlj := HLN.out j
    have hcj := cntTys_take f l j
    by_cases hlt : j < n
    · obtain ⟨o, q, t, cs, rfl, hq, ht, hin, hcs⟩ := (tys_below HSL.out hR.be).at_ hlt
      have hm := List.mem_of_getElem? ht
      have hgr := HGR.out j
      have hsp := HSP.out j t ht
      have HFT := hide (fold_take (g := mgT f) ht d)
      obtain ⟨d1, hd1⟩ : ∃ x, (mgFold (mgT f) (l.take j) d).2 = x := ⟨_, rfl⟩
      obtain ⟨L1, hL1⟩ : ∃ L1, L ++ s.data.toList ++ (mgFold (mgT f) (l.take j) d).1 = L1 := ⟨_, rfl⟩
      have hl1 : L1.length ≤ L.length + 700001 := by rw [← hL1, List.length_append, List.length_append]; omega
      have HST2 := hide (show L ++ s.data.toList ++ (mgFold (mgT f) (l.take (j + 1)) d).1 = L1 ++ (mgT f t d1).1 ∧ (mgFold (mgT f) (l.take (j + 1)) d).2 = (mgT f t d1).2 by rw [HFT.out, ← hL1, hd1]; simp)
      rw [hL1, hd1] at HR
      rw [hd1] at hgr
      have hdl := hgr.len
      have HO := hide (fun (W : World) (h : Below B wr W) h4 h5 h6 => HH.out k t cs B b mb L1 d1 W (hin.below h) (HG.out t hm) hf12 hgr.ok (by have := HDC.out; omega) (by have := HC5.out; omega) h4 h5 h6 (by omega))
      cases k with
      | zero => exact hin.elim
      | succ k =>
      obtain ⟨A1, n1, cap1, A2, n2, cap2, rfl, _⟩ := hin
      have c0 : wr.cell? ⟨o, q + j * 3, none⟩ = some (.int .i64 t.kind) := by simpa using hcs 0 _ rfl
      have c1 : wr.cell? ⟨o, q + j * 3 + 1, none⟩ = some (.slice A1 n1 cap1) := hcs 1 _ rfl
      have c2 : wr.cell? ⟨o, q + j * 3 + 2, none⟩ = some (.slice A2 n2 cap2) := hcs 2 _ rfl
      have HA := hide ((Below.refl wr.heap.size wr).alloc (Nat.le_refl _) (.cells #[.int .i64 t.kind, .slice A1 n1 cap1, .slice A2 n2 cap2] 75))
      have HR2 := hide (HR.out.below hBw HA.out)
      have HC := hide (HO.out _ (HA.out.mono hz) HR2.out.st (HTB.out.below HR2.out.be) (by simp; omega))
      clear hcs ht hm hL1 hlj hR HO hd1 hgr hsp
      go_wp2_with (go_at_call 43; refine HC.out.mono ?_; rintro e w2 ⟨rfl, hr2⟩; have HR3 := hide (HR2.out.trans hr2); clear hr2)
      go_roundw
      case rel => exact ⟨j + 1, by omega, by go_num, by rw [HST2.out.1, HST2.out.2]; exact HR3.out⟩
      case measure => simp [intOf]; omega
    · obtain rfl : j = n := by omega
      have htk : l.take j = l := take_len l (by rw [HL.out]; exact Nat.le_refl _)
      rw [htk] at HR hlj
      clear htk hR
      go_wp2_with (go_at_call 17; refine (mg_write HR.out.st s' hz (by simp only [List.length_append]; omega)).mono ?_; rintro e w1 ⟨rfl, hr1⟩; have HR1 := hide (HR.out.trans hr1); clear hr1)
      go_end0
      exact ⟨rfl, HR1.out⟩
set_option maxRecDepth 100000 in
set_option maxHeartbeats 8000000 in
theorem mName_of {f : Nat} (HT : mListOk f) : mNameOk f := by
  intro k A n cap l B b mb L d w hnc hcm hn hl hg hf12 hd hdc hc5 hst htb hBw hLL
  unfold maxLen at hcm
  have HLN := hide hl.len
  have HSL := hide hl
  have HG := hide hg
  have HTB := hide htb
  have hnn := hl.len
  have HGR := hide (fun j => fold_grew (c := fun p => cntTys f p.2) (S := fun p x => ∃ y ∈ p.2, Sub y x) (G := fun p => textE p.1 = 0 ∧ p.1.size ≤ 60 ∧ ∀ x ∈ p.2, Good f x ∧ Txt f x) (fun p d hp hd => mgParts_grew hf12 p d hp hd) (l.take j) d (fun p hp => ⟨(hg p (List.mem_of_mem_take hp)).1, (hg p (List.mem_of_mem_take hp)).2.1, (hg p (List.mem_of_mem_take hp)).2.2.2⟩) hd)
  have HNL := hide (fun j => Nat.le_trans (mgParts_len hf12 (fun t d ht hd hn => mgT_len f t d hf12 ht hd hn) (l := l.take j) (d := d) (fun p hp => ⟨(hg p (List.mem_of_mem_take hp)).1, (hg p (List.mem_of_mem_take hp)).2.1, (hg p (List.mem_of_mem_take hp)).2.2.2⟩) hd (by have := cntParts_take f l j; omega)) (Nat.add_le_add (Nat.mul_le_mul_left 64 (show (l.take j).length ≤ 20 by rw [List.length_take]; omega)) (Nat.mul_le_mul_left 1400 (Nat.le_trans (cntParts_take f l j) hc5))))
  have HSP := hide (fun (j : Nat) (p : Part) (h : l[j]? = some p) => sumN_split (fun p : Part => cntTys f p.2) h)
  have HC5 := hide (show sumN (fun p : Part => cntTys f p.2) l ≤ 500 from hc5)
  have HDC := hide (show d.length + sumN (fun p : Part => cntTys f p.2) l ≤ 999 from hdc)
  have HST := hide hst
  have hs69 : (⟨#[69]⟩ : ByteArray).size = 1 := rfl
  have hs78 : (⟨#[78]⟩ : ByteArray).size = 1 := rfl
  have HMN := hide (show L ++ (mgName (mgT f) l d).1 = L ++ (⟨#[78]⟩ : ByteArray).data.toList ++ (mgFold (mgPart (mgT f)) l d).1 ++ (⟨#[69]⟩ : ByteArray).data.toList ∧ (mgName (mgT f) l d).2 = (mgFold (mgPart (mgT f)) l d).2 from ⟨by unfold mgName; simp, rfl⟩)
  rw [HMN.out.1, HMN.out.2]
  clear hl hg htb hd hst
  go_enter Tryd.func18, Tryd.ntmps18
  go_wp2_with (go_at_call 17; refine (mg_write HST.out ⟨#[78]⟩ hBw (by omega)).mono ?_; rintro e w1 ⟨rfl, hr1⟩; have HR1 := hide hr1; clear hr1)
  go_loopw [12] (fun i wr => ∃ j : Nat, j ≤ n ∧ i = .int .i64 j ∧ MgR B b mb (L ++ (⟨#[78]⟩ : ByteArray).data.toList ++ (mgFold (mgPart (mgT f)) (l.take j) d).1) (mgFold (mgPart (mgT f)) (l.take j) d).2 w wr) (fun i _ => n - (intOf i).toNat)
  case atStart => exact ⟨0, Nat.zero_le _, rfl, by simpa [mgFold] using HR1.out⟩
  case round =>
    obtain ⟨j, hj, rfl, hR⟩ := hrel
    have hz := Nat.le_trans hBw hR.be.size
    have hlj := HNL.out j
    by_cases hlt : j < n
    · obtain ⟨o, q, p, cs, rfl, hq, hp, hin, hcs⟩ := (parts_below HSL.out hR.be).at_ hlt
      obtain ⟨PA, pn, pc, rfl, hps, hpnc, hpcm, hpl⟩ := hin
      have hm := List.mem_of_getElem? hp
      obtain ⟨hpt, hp60, hp20, hpg⟩ := HG.out p hm
      have hsp := HSP.out j p hp
      have hgr := HGR.out j
      have hpln := hpl.len
      have HFT := hide (fold_take (g := mgPart (mgT f)) hp d)
      obtain ⟨d1, hd1⟩ : ∃ x, (mgFold (mgPart (mgT f)) (l.take j) d).2 = x := ⟨_, rfl⟩
      obtain ⟨L1, hL1⟩ : ∃ L1, L ++ (⟨#[78]⟩ : ByteArray).data.toList ++ (mgFold (mgPart (mgT f)) (l.take j) d).1 = L1 := ⟨_, rfl⟩
      have hl1 : L1.length ≤ L.length + 702000 := by rw [← hL1, List.length_append, List.length_append]; show L.length + 1 + _ ≤ _; omega
      have HST2 := hide (show L ++ (⟨#[78]⟩ : ByteArray).data.toList ++ (mgFold (mgPart (mgT f)) (l.take (j + 1)) d).1 = L1 ++ (mgPart (mgT f) p d1).1 ∧ (mgFold (mgPart (mgT f)) (l.take (j + 1)) d).2 = (mgPart (mgT f) p d1).2 by rw [HFT.out, ← hL1, hd1]; simp)
      rw [hL1, hd1] at hR
      rw [hd1] at hgr
      have hdl := hgr.len
      have HDO := hide hgr.ok
      have c0 : wr.cell? ⟨o, q + j * 2, none⟩ = some (.string p.1) := by simpa using hcs 0 _ rfl
      have c1 : wr.cell? ⟨o, q + j * 2 + 1, none⟩ = some (.slice PA pn pc) := hcs 1 _ rfl
      have HPA := hide ((Below.refl wr.heap.size wr).alloc (Nat.le_refl _) (.cells #[.string p.1, .slice PA pn pc] 47))
      have HPX := hide (heap_alloc_new wr (.cells #[.string p.1, .slice PA pn pc] 47))
      have HR2 := hide (hR.below hBw (HPA.out.trans (below_drewN (Below.refl _ _) 1)))
      have HBA := hide ((HPA.out.mono hz).trans (below_drewN (Below.refl B _) 1))
      have HPL := hide hpl
      have hne2 : wr.heap.size ≠ b := fun e => by have := hR.st.lt; omega
      have hne3 : wr.heap.size ≠ mb := fun e => by have := hR.st.lt; omega
      have e0 : (wr.alloc (.cells #[.string p.1, .slice PA pn pc] 47)).cell? ⟨wr.heap.size, 0, none⟩ = some (.string p.1) := block_cell HPX.out 0
      have hzr := hR.be.size
      have HPG := hide hpg
      clear hcs hm hL1 hlj hR hp hpl hpg hgr hd1
      go_wp2_with (fail)
      obtain ⟨wa, hwa⟩ : ∃ x, wr.alloc (.cells #[.string p.1, .slice PA pn pc] 47) = x := ⟨_, rfl⟩
      rw [hwa] at HPX HPA e0 HR2 HBA ⊢
      have hza : wr.heap.size ≤ wa.heap.size := HPA.out.size
      clear hwa
      have HI := hide (itoa_len p.1 wa.drew hp60 (HTB.out.below HR2.out.be))
      obtain ⟨lz, hlz⟩ : ∃ x : ByteArray, ⟨(lenL p.1).toArray⟩ = x := ⟨_, rfl⟩
      have HLZ := hide (show lz.data.toList = lenL p.1 by rw [← hlz])
      have hlz2 : lz.size ≤ 2 := by rw [← hlz]; simpa [ByteArray.size] using lenL_len hp60
      rw [hlz] at HI
      have nb1 : ¬ 9223372036854775807 < lz.size + p.1.size := by omega
      clear hlz
      refine wp_region_chain (fun W => W.cell? ⟨wr.heap.size, 0, none⟩ = some (.string p.1)) 10 (by as_aux_lemma => kernel_rfl) (N := 11) (by as_aux_lemma => kernel_rfl) ?_; intro hsh
      have HS : wa.drew.cell? ⟨wr.heap.size, 0, none⟩ = some (.string p.1) := e0
      refine wpAnyC_take0 (i := 0) (k := 10) (v := ?_) (d := some 16) rfl (by rfl) (by as_aux_lemma => kernel_rfl) (by as_aux_lemma => kernel_rfl) (by as_aux_lemma => kernel_rfl) hsh (by decide) (by intro _ _ _ h; exact h) (by assumption) (Or.inl ⟨by rfl, ?hy⟩) ?_; (case hy => (intro W _; go_simp; (try with_reducible rfl))); clear hsh; intro hsh
      refine wpAnyC_take0 (i := 1) (k := 10) (v := ?_) (d := some 17) rfl (by rfl) (by as_aux_lemma => kernel_rfl) (by as_aux_lemma => kernel_rfl) (by as_aux_lemma => kernel_rfl) hsh (by decide) (by intro _ _ _ h; exact h) (by assumption) (Or.inl ⟨by rfl, ?hy⟩) ?_; (case hy => (intro W _; go_simp; (try with_reducible rfl))); clear hsh; intro hsh
      refine wpAnyC_take0 (i := 2) (k := 10) (v := ?_) (d := some 18) rfl (by rfl) (by as_aux_lemma => kernel_rfl) (by as_aux_lemma => kernel_rfl) (by as_aux_lemma => kernel_rfl) hsh (by decide) (by intro _ _ _ h; exact h) (by assumption) (Or.inl ⟨by rfl, ?hy⟩) ?_; (case hy => (intro W _; go_simp; (try with_reducible rfl))); clear hsh; intro hsh
      refine wpAnyC_take0 (i := 3) (k := 10) (v := ?_) (d := some 19) rfl (by rfl) (by as_aux_lemma => kernel_rfl) (by as_aux_lemma => kernel_rfl) (by as_aux_lemma => kernel_rfl) hsh (by decide) (by intro _ _ _ h; exact h) (by assumption) (Or.inl ⟨by rfl, ?hy⟩) ?_; (case hy => (intro W _; go_simp; (try with_reducible rfl))); clear hsh; intro hsh
      refine wpAnyC_take (i := 4) (k := 10) (f := 40) (v := ?_) (d := some 20) rfl (by rfl) (by as_aux_lemma => kernel_rfl) (by as_aux_lemma => kernel_rfl) (by as_aux_lemma => kernel_rfl) hsh (by decide) (by as_aux_lemma => kernel_rfl) (by intro _ _ _ h; exact h) (by assumption) (Or.inl ⟨by rfl, ?hy⟩) ?_; (case hy => (rintro W y0; go_simp; (try with_reducible rfl))); clear hsh; intro hsh
      refine wpAnyC_take0 (i := 5) (k := 10) (v := ?_) (d := some 21) rfl (by rfl) (by as_aux_lemma => kernel_rfl) (by as_aux_lemma => kernel_rfl) (by as_aux_lemma => kernel_rfl) hsh (by decide) (by intro _ _ _ h; exact h) (by assumption) (Or.inl ⟨by rfl, ?hy⟩) ?_; (case hy => (intro W _; go_simp; (try with_reducible rfl))); clear hsh; intro hsh
      refine wpAnyC_take0 (i := 7) (k := 10) (v := ?_) (d := some 23) rfl (by rfl) (by as_aux_lemma => kernel_rfl) (by as_aux_lemma => kernel_rfl) (by as_aux_lemma => kernel_rfl) hsh (by decide) (by intro _ _ _ h; exact h) (by assumption) (Or.inl ⟨by rfl, ?hy⟩) ?_; (case hy => (intro W _; go_simp; (try with_reducible rfl))); clear hsh; intro hsh
      refine wpAnyC_take (i := 8) (k := 10) (f := 40) (v := ?_) (d := some 24) rfl (by rfl) (by as_aux_lemma => kernel_rfl) (by as_aux_lemma => kernel_rfl) (by as_aux_lemma => kernel_rfl) hsh (by decide) (by as_aux_lemma => kernel_rfl) (by intro _ _ _ h; exact h) (by assumption) (Or.inl ⟨by rfl, ?hy⟩) ?_; (case hy => (rintro W y0; go_simp; (try with_reducible rfl))); clear hsh; intro hsh
      refine wpAnyC_ready (rs := [6]) (by as_aux_lemma => kernel_rfl) (by simp) ?_; refine AllC.cons (i := 6) rfl (by as_aux_lemma => kernel_rfl) hsh (fun K hK => ?_) AllC.nil
      go_simp
      go_at_call 42
      refine HI.out.mono ?_
      rintro e w2 ⟨rfl, hw2⟩
      have HPX2 := hide (block_below (show wa.drew.heap[wr.heap.size]? = _ from HPX.out) hw2)
      have HR3 := hide (HR2.out.below hBw hw2)
      have HBB := hide (HBA.out.trans (hw2.mono (Nat.le_trans hBw HR2.out.be.size)))
      have hz2 := hw2.size
      try go_simp
      refine hK _ _ (fun _ => block_cell HPX2.out 0) ?_
      clear hK K hsh HS hw2 HI
      intro hsh
      have HS : w2.cell? ⟨wr.heap.size, 0, none⟩ = some (.string p.1) := block_cell HPX2.out 0
      refine wpAnyC_take0 (i := 9) (k := 10) (v := ?_) (d := some 25) rfl (by rfl) (by as_aux_lemma => kernel_rfl) (by as_aux_lemma => kernel_rfl) (by as_aux_lemma => kernel_rfl) hsh (by decide) (by intro _ _ _ h; exact h) (by assumption) (Or.inl ⟨by rfl, ?hy⟩) ?_; (case hy => (intro W _; go_simp; (try with_reducible rfl))); clear hsh; intro hsh
      refine wpAnyC_ready (rs := [10]) (by as_aux_lemma => kernel_rfl) (by simp) ?_; refine AllC.cons (i := 10) rfl (by as_aux_lemma => kernel_rfl) hsh (fun K hK => ?_) AllC.nil
      go_simp
      go_at_call 17
      refine (mg_write HR3.out.st (lz ++ p.1) (Nat.le_trans hBw HR3.out.be.size) (by rw [ByteArray.size_append]; omega)).mono ?_
      rintro e w3 ⟨rfl, hr3⟩
      rw [app_toL, HLZ.out] at hr3
      have HPX3 := hide (hr3.kept.cells HPX2.out (by decide) hne2 hne3)
      have HR4 := hide (HR3.out.trans hr3)
      have HBC := hide (HBB.out.trans hr3.be)
      try go_simp
      refine hK _ _ (fun h => absurd (h.symm.trans (by kernel_rfl)) (show ¬ (false = true) by decide)) ?_
      clear hK K hsh HS hr3
      intro hsh
      refine wpAnyC_done (by as_aux_lemma => kernel_rfl) ?_; clear hsh
      have y1 : w3.cell? ⟨wr.heap.size, 1, none⟩ = some (.slice PA pn pc) := block_cell HPX3.out 1
      by_cases hp0 : pn = 0
      · subst hp0
        have hpe : p.2 = [] := List.length_eq_zero_iff.1 hpln
        have HKP := hide (show L1 ++ (mgPart (mgT f) p d1).1 = L1 ++ (lenL p.1 ++ p.1.data.toList) ∧ (mgPart (mgT f) p d1).2 = d1 from ⟨by unfold mgPart; rw [if_pos hpln]; simp, by unfold mgPart; rw [hpe]; rfl⟩)
        go_wp2_with (fail)
        go_roundw
        case rel => exact ⟨j + 1, by omega, by go_num, by rw [HST2.out.1, HST2.out.2, HKP.out.1, HKP.out.2]; exact HR4.out⟩
        case measure => simp [intOf]; omega
      · have hpp : 0 < pn := by omega
        have hpp2 : (0 : Int) < (pn : Int) := by omega
        have HKP := hide (show L1 ++ (mgPart (mgT f) p d1).1 = L1 ++ (lenL p.1 ++ p.1.data.toList) ++ (⟨#[73]⟩ : ByteArray).data.toList ++ (mgFold (mgT f) p.2 d1).1 ++ (⟨#[69]⟩ : ByteArray).data.toList by unfold mgPart; rw [if_neg (by omega)]; simp)
        have hll := lenL_len hp60
        have htl : p.1.data.toList.length ≤ 60 := by rw [Array.length_toList]; exact hp60
        have HC := hide (HT k PA pn pc p.2 ⟨#[73]⟩ ⟨#[69]⟩ B b mb (L1 ++ (lenL p.1 ++ p.1.data.toList)) d1 w3 hpnc hpcm (by omega) (by decide) (by decide) (tys_below HPL.out HBC.out) HPG.out hf12 HDO.out (by have := HDC.out; omega) (by have := HC5.out; omega) HR4.out.st (HTB.out.below HR4.out.be) (Nat.le_trans hBw HR4.out.be.size) (by simp only [List.length_append]; omega))
        clear HLZ
        go_wp2_with (go_at_call 19; refine HC.out.mono ?_; rintro e w4 ⟨rfl, hr4⟩; have HR5 := hide (HR4.out.trans hr4); clear hr4)
        go_roundw
        case rel => exact ⟨j + 1, by omega, by go_num, by rw [HST2.out.1, HST2.out.2, HKP.out]; exact HR5.out⟩
        case measure => simp [intOf]; omega
    · obtain rfl : j = n := by omega
      have htk : l.take j = l := take_len _ (by rw [HLN.out]; exact Nat.le_refl _)
      rw [htk] at hR hlj
      have HR := hide hR
      clear hR htk
      go_wp2_with (go_at_call 17; refine (mg_write HR.out.st ⟨#[69]⟩ hz (by simp only [List.length_append, List.length_singleton]; omega)).mono ?_; rintro e w2 ⟨rfl, hr1⟩; have HR2 := hide (HR.out.trans hr1); clear hr1)
      go_end0
      exact ⟨rfl, HR2.out⟩
theorem own_otherM' {w : World} {base sz n mb m : Nat} {e : TypeId} {v : Value} {xs : List Value} {D : DataW Unit} (h : w.ownsRow base e sz v n xs) (hm : w.ownsMap Tryd.prog 9 (plainElem Tryd.prog 3) mb m D) : v.ownBlock ≠ some mb := by
  rcases h.2 with ⟨rfl, _⟩ | ⟨g, cap, cur, rfl, _, hg, _⟩
  · simp [Value.ownBlock]
  · intro e
    simp [Value.ownBlock] at e
    subst e
    obtain ⟨es, ck, h1, _⟩ := hm
    rw [h1] at hg
    cases hg
theorem law_str : Go.Maps.Keyed Tryd.prog 9 := Go.Maps.string_keyed Tryd.underlying9
theorem key_of (s : ByteArray) (h : s.size ≤ maxLen) : keyOf Tryd.prog 9 (.string s) = some (.string s.data.toList) := Go.WideMaps.keyOf_string_mk Tryd.underlying9 h
theorem zero_intM (w : World) : (zeroValue 3).run Tryd.prog w = .ok (.int .i64 0) w := by kernel_rfl
theorem tidy_idx (ks : List (List UInt8)) : Maps.Tidy (idxD ks) :=
  snoc_ind (P := fun ks => Maps.Tidy (idxD ks)) Maps.tidy_empty (fun l x ih => by rw [idxD_snoc]; exact ih.put (show WideAt.IsKeyLit (Lit.string x) from trivial) _) ks
theorem idx_size (ks : List (List UInt8)) (hn : ks.Nodup) : Maps.size (idxD ks) = ks.length := by
  revert hn
  refine snoc_ind (P := fun ks => ks.Nodup → Maps.size (idxD ks) = ks.length) (fun _ => rfl) (fun l x ih hn => ?_) ks
  rw [List.nodup_append] at hn
  rw [idxD_snoc, Maps.size_put (tidy_idx l), idxD_has]
  have hx : l.contains x = false := by
    rw [Bool.eq_false_iff]
    intro h
    exact hn.2.2 x (List.contains_iff_mem.1 h) x (by simp) rfl
  rw [hx, if_neg (by decide), ih hn.1, List.length_append, List.length_singleton]
theorem cnt_up : ∀ {f : Nat} {t : Ty}, Good f t → cnt (f + 1) t = cnt f t
  | 0, _, h => h.elim
  | f + 1, t, h => by
    have e1 : cntTys (f + 1) t.of = cntTys f t.of := by
      unfold cntTys sumN
      rw [List.map_congr_left fun x hx => cnt_up (h.2.2.2.2.2 x hx)]
    have e2 : cntParts (f + 1) t.name = cntParts f t.name := by
      unfold cntParts
      have : ∀ p ∈ t.name, cntTys (f + 1) p.2 = cntTys f p.2 := fun p hp => by
        unfold cntTys sumN
        rw [List.map_congr_left fun x hx => cnt_up ((h.2.2.2.2.1 p hp).2.2 x hx)]
      unfold sumN
      rw [List.map_congr_left this]
    rw [cnt_eq, cnt_eq, e1, e2]
theorem cnt_12 {f : Nat} {t : Ty} (h : Good f t) (hf : f ≤ 12) : cnt 12 t = cnt f t :=
  (up_to (Q := fun k => cnt k t = cnt f t ∧ Good k t) (fun k hk => ⟨(cnt_up hk.2).trans hk.1, good_up hk.2⟩) ⟨rfl, h⟩ hf).1
theorem Tab10.mono {B B' : Nat} {w : World} (h : Tab10 B w) (hB : B ≤ B') : Tab10 B' w := ⟨h.1, fun g hg => Nat.lt_of_lt_of_le (h.2 g hg) hB⟩
/-- The map has one more. -/
theorem MgR.put {B b mb : Nat} {L : List UInt8} {d : List Ty} {w w1 w2 : World} {t : Ty} (h : MgR B b mb L d w w1) (ho : w2.ownsMap Tryd.prog 9 (plainElem Tryd.prog 3) mb (d.length + 1) ((idxD (kys d)).put (.string (ky t)) (.lit (.int .i64 (d.length : Nat))))) (hg : w1.grownBy w2 (some mb)) (hB : B ≤ w.heap.size) : MgR B b mb L (d ++ [t]) w w2 := by
  have hlt := h.st.lt
  have hne := h.st.ne
  refine ⟨⟨?_, ?_, h.st.hB, hne⟩, h.be.grown hg (Nat.le_trans hB h.be.size) (fun k hk => by cases hk; exact h.st.hB), fun k o e h1 h2 h3 => ?_⟩
  · have keep : ∀ p, MAt B b p (Lib.byteCells L) (.map (some mb)) w1 → MAt B b p (Lib.byteCells L) (.map (some mb)) w2 := fun p ⟨h1, v, h2, h3⟩ =>
      ⟨h1, v, (hg.block b hlt.1 (fun e => hne (Option.some.inj e).symm)).trans h2, h3.kept hg (.inr (own_otherM' h3 h.st.map))⟩
    rcases h.st.bld with h1 | h1
    · exact .inl (keep _ h1)
    · exact .inr (keep _ h1)
  · rw [List.length_append, List.length_singleton, show kys (d ++ [t]) = kys d ++ [ky t] by simp [kys], idxD_snoc, show (kys d).length = d.length by simp [kys]]
    exact ho
  · have e1 := h.kept k o e h1 h2 h3
    exact (hg.block k (lt_of_block e1) (fun e => h3 (Option.some.inj e))).trans e1
set_option maxRecDepth 100000 in
set_option maxHeartbeats 8000000 in
theorem mOne_succ {f : Nat} (HN : mNameOk f) (HT : mListOk f) : mOneOk (f + 1) := by
  intro k t cs B b mb L d w hin hgt hf12 hd hdc hc5 hst htb hBw hLL
  rw [Nat.mul_add_one, ← Nat.add_assoc] at hLL
  obtain ⟨hg, htx⟩ := hgt
  have hg12 := (ky_12 hg hf12).2
  have hc12 := cnt_12 hg hf12
  have hfine : Fine t := ⟨hg12, txt_12 htx hf12⟩
  have hgrd := body_new hf12 ⟨hg, htx⟩ hd
  cases k with
  | zero => exact hin.elim
  | succ k =>
  have hin0 := hin
  obtain ⟨A, n, c, A2, n2, cp2, rfl, hn, hm, hn2, hm2, hl, hl2⟩ := hin
  have HA := hide ((Below.refl w.heap.size w).alloc (Nat.le_refl _) (.cells #[.int .i64 t.kind, .slice A n c, .slice A2 n2 cp2] 75))
  have HX := hide (heap_alloc_new w (.cells #[.int .i64 t.kind, .slice A n c, .slice A2 n2 cp2] 75))
  have HR0 := hide ((MgR.refl hst).below hBw HA.out)
  have hltS := hst.lt
  have hneb : w.heap.size ≠ b := fun e => by omega
  have hnem : w.heap.size ≠ mb := fun e => by omega
  have CK := hide (key_any (k + 1) t _ (w.alloc (.cells #[.int .i64 t.kind, .slice A n c, .slice A2 n2 cp2] 75)) ((hin0.below (HA.out.mono hBw)).more (Nat.le_trans hBw HA.out.size)) hg12 (by omega) ((htb.below HR0.out.be).mono (Nat.le_trans hBw HA.out.size)))
  obtain ⟨kb, hkb⟩ : ∃ kb : ByteArray, ⟨(ky t).toArray⟩ = kb := ⟨_, rfl⟩
  have HKB := hide (show kb.data.toList = ky t by rw [← hkb])
  have hkbs : kb.size ≤ maxLen := by
    have h1 := ky_len 12 t hg12
    have h2 : kb.size = (ky t).length := by rw [← hkb]; rfl
    unfold ky at h2
    unfold maxLen
    omega
  have HKY := hide (key_of kb hkbs)
  rw [HKB.out] at HKY
  rw [hkb] at CK
  have HST0 := hide hst
  have HTB := hide htb
  have HL1 := hide hl
  have HL2 := hide hl2
  have HF := hide hfine
  have HD := hide hd
  have HLN := hide hl.len
  have HLO := hide hl2.len
  obtain ⟨⟨hk1, hk4⟩, h1, h2, h3, h4, h5⟩ := hg
  obtain ⟨t1, t2⟩ := htx
  rw [cnt_eq] at hdc hc5
  obtain ⟨K, hKd⟩ : ∃ K, t.kind = K := ⟨_, rfl⟩
  rw [hKd] at hk1 hk4 h1 h2 h3 HA HX HR0 CK ⊢
  have HKD := hide hKd
  clear hl hl2 hst htb hin0 hkb hfine hd hg12 hc12 hKd
  cases hp : plc d t with
  | some kx =>
    obtain ⟨hkx, _⟩ := plc_some hp
    have hkl := (List.getElem?_eq_some_iff.1 hkx).1
    have HMG := hide (show L ++ (mgT (f + 1) t d).1 = L ++ ((⟨#[83]⟩ : ByteArray).data.toList ++ toldL (kx : Int) ++ (⟨#[95]⟩ : ByteArray).data.toList) ∧ (mgT (f + 1) t d).2 = d from ⟨by rw [mgT, hp]; simp, by rw [mgT, hp]⟩)
    rw [HMG.out.1, HMG.out.2]
    have HHAS := hide (show Maps.has (idxD (kys d)) (.string (ky t)) = true by rw [idxD_has, List.contains_iff_mem]; exact (kys_mem HD.out HF.out).2 (List.mem_of_getElem? hkx))
    have HAT := hide (show ∀ c : Int, (idxD (kys d)).atKey (.string (ky t)) (.lit (.int .i64 0)) = .lit (.int .i64 c) → c = (kx : Int) from fun c h => by
      rw [idxD_at _ _ _ (kys_nodup HD.out) kx (kys_at hkx)] at h
      injection h with h; injection h with h1 h2; exact h2.symm)
    have hdl : d.length ≤ 999 := by omega
    have HI := hide (fun W (h : Tab10 B W) => Itoa_any (kx : Int) W (by omega) (by omega) h.1)
    obtain ⟨lz, hlz⟩ : ∃ x : ByteArray, ⟨(toldL (kx : Int)).toArray⟩ = x := ⟨_, rfl⟩
    have HLZ := hide (show lz.data.toList = toldL (kx : Int) by rw [← hlz])
    have hlz3 : lz.size ≤ 3 := by
      have : (toldL (kx : Int)).length ≤ 3 := digs_len 10 (by decide) 3 _ (by omega) (by decide)
      rw [← hlz]; simpa [ByteArray.size] using this
    rw [hlz] at HI
    have s83 : (⟨#[83]⟩ : ByteArray).size = 1 := rfl
    have s95 : (⟨#[95]⟩ : ByteArray).size = 1 := rfl
    have nb1 : ¬ 9223372036854775807 < 1 + lz.size := by omega
    have hq1 : ((⟨#[83]⟩ : ByteArray) ++ lz).size = 1 + lz.size := by rw [ByteArray.size_append, s83]
    have nb2 : ¬ 9223372036854775807 < 1 + lz.size + 1 := by omega
    clear hlz h1 h2 h3 h4 h5 t1 t2 hp hkx hgrd HMG
    go_enter Tryd.func43, Tryd.ntmps43
    go_wp2_with (first | (go_at_call 68; refine CK.out.mono ?_; rintro e w1 ⟨rfl, hw1⟩; have HR1 := hide (HR0.out.below hBw hw1); have m1 : w1.cell? ⟨b, 2, none⟩ = some (.map (some mb)) := HR1.out.st.bld.map; clear hw1) | (at_lookup; refine Go.wpList_lookup_own_ok_int _ rfl _ _ 49 rfl 9 3 .i64 law_str Tryd.underlying49 Tryd.underlying3 (zero_intM _) mb _ _ rfl HR1.out.st.map (.string kb) _ rfl HKY.out ?_; intro c hat hwc; obtain rfl := HAT.out c hat; rw [HHAS.out]))
    have HS0 : w1.drew.cell? ⟨b, 2, none⟩ = some (.map (some mb)) := m1
    have HR2 := hide (HR1.out.below hBw (below_drewN (Below.refl w1.heap.size w1) 1))
    have HI2 := hide (HI.out w1.drew (HTB.out.below HR2.out.be))
    refine wp_region_chain (fun W => W.cell? ⟨b, 2, none⟩ = some (.map (some mb))) 7 (by as_aux_lemma => kernel_rfl) (N := 8) (by as_aux_lemma => kernel_rfl) ?_; intro hsh
    have HS : w1.drew.cell? ⟨b, 2, none⟩ = some (.map (some mb)) := HS0
    refine wpAnyC_take0 (i := 0) (k := 7) (v := ?_) (d := some 19) rfl (by rfl) (by as_aux_lemma => kernel_rfl) (by as_aux_lemma => kernel_rfl) (by as_aux_lemma => kernel_rfl) hsh (by decide) (by intro _ _ _ h; exact h) (by assumption) (Or.inl ⟨by rfl, ?hy⟩) ?_; (case hy => (intro W _; go_simp; (try with_reducible rfl))); clear hsh; intro hsh
    refine wpAnyC_take0 (i := 1) (k := 7) (v := ?_) (d := some 20) rfl (by rfl) (by as_aux_lemma => kernel_rfl) (by as_aux_lemma => kernel_rfl) (by as_aux_lemma => kernel_rfl) hsh (by decide) (by intro _ _ _ h; exact h) (by assumption) (Or.inl ⟨by rfl, ?hy⟩) ?_; (case hy => (intro W _; go_simp; (try with_reducible rfl))); clear hsh; intro hsh
    refine wpAnyC_take0 (i := 2) (k := 7) (v := ?_) (d := some 21) rfl (by rfl) (by as_aux_lemma => kernel_rfl) (by as_aux_lemma => kernel_rfl) (by as_aux_lemma => kernel_rfl) hsh (by decide) (by intro _ _ _ h; exact h) (by assumption) (Or.inl ⟨by rfl, ?hy⟩) ?_; (case hy => (intro W _; go_simp; (try with_reducible rfl))); clear hsh; intro hsh
    refine wpAnyC_take0 (i := 3) (k := 7) (v := ?_) (d := some 22) rfl (by rfl) (by as_aux_lemma => kernel_rfl) (by as_aux_lemma => kernel_rfl) (by as_aux_lemma => kernel_rfl) hsh (by decide) (by intro _ _ _ h; exact h) (by assumption) (Or.inl ⟨by rfl, ?hy⟩) ?_; (case hy => (intro W _; go_simp; (try with_reducible rfl))); clear hsh; intro hsh
    refine wpAnyC_ready (rs := [4]) (by as_aux_lemma => kernel_rfl) (by simp) ?_; refine AllC.cons (i := 4) rfl (by as_aux_lemma => kernel_rfl) hsh (fun K hK => ?_) AllC.nil
    go_simp
    go_at_call 42
    refine HI2.out.mono ?_
    rintro e w2 ⟨rfl, hw2⟩
    have HR3 := hide (HR2.out.below hBw hw2)
    try go_simp
    refine hK _ _ (fun _ => HR3.out.st.bld.map) ?_
    clear hK K hsh HS hw2 HI HI2 HS0
    intro hsh
    have HS : w2.cell? ⟨b, 2, none⟩ = some (.map (some mb)) := HR3.out.st.bld.map
    refine wpAnyC_take0 (i := 5) (k := 7) (v := ?_) (d := some 24) rfl (by rfl) (by as_aux_lemma => kernel_rfl) (by as_aux_lemma => kernel_rfl) (by as_aux_lemma => kernel_rfl) hsh (by decide) (by intro _ _ _ h; exact h) (by assumption) (Or.inl ⟨by rfl, ?hy⟩) ?_; (case hy => (intro W _; go_simp; (try with_reducible rfl))); clear hsh; intro hsh
    refine wpAnyC_take0 (i := 6) (k := 7) (v := ?_) (d := some 25) rfl (by rfl) (by as_aux_lemma => kernel_rfl) (by as_aux_lemma => kernel_rfl) (by as_aux_lemma => kernel_rfl) hsh (by decide) (by intro _ _ _ h; exact h) (by assumption) (Or.inl ⟨by rfl, ?hy⟩) ?_; (case hy => (intro W _; go_simp; (try with_reducible rfl))); clear hsh; intro hsh
    refine wpAnyC_ready (rs := [7]) (by as_aux_lemma => kernel_rfl) (by simp) ?_; refine AllC.cons (i := 7) rfl (by as_aux_lemma => kernel_rfl) hsh (fun K hK => ?_) AllC.nil
    go_simp
    go_at_call 17
    refine (mg_write HR3.out.st ((⟨#[83]⟩ : ByteArray) ++ lz ++ (⟨#[95]⟩ : ByteArray)) (Nat.le_trans hBw HR3.out.be.size) (by rw [ByteArray.size_append, hq1]; omega)).mono ?_
    rintro e w3 ⟨rfl, hr3⟩
    rw [app_toL, app_toL, HLZ.out] at hr3
    have HR4 := hide (HR3.out.trans hr3)
    try go_simp
    refine hK _ _ (fun h => absurd (h.symm.trans (by kernel_rfl)) (show ¬ (false = true) by decide)) ?_
    clear hK K hsh HS hr3
    intro hsh
    refine wpAnyC_done (by as_aux_lemma => kernel_rfl) ?_; clear hsh
    go_wp2_with (fail)
    first | go_end0 | refine bodyPost_ret (results_none rfl _ _ _) rfl ?_
    exact ⟨rfl, HR4.out⟩
  | none =>
    obtain ⟨hnt, hdb, hdl⟩ := hgrd hp
    have HNT := hide hnt
    have HDB := hide hdb
    have HMG := hide (show L ++ (mgT (f + 1) t d).1 = L ++ (mgBody (mgT f) t d).1 ∧ (mgT (f + 1) t d).2 = (mgBody (mgT f) t d).2 ++ [t] from ⟨by rw [mgT, hp], by rw [mgT, hp]⟩)
    rw [HMG.out.1, HMG.out.2]
    rw [cnt_eq] at hdl
    have HHAS := hide (show Maps.has (idxD (kys d)) (.string (ky t)) = false by
      rw [idxD_has, Bool.eq_false_iff]; exact fun h => plc_none hp ((kys_mem HD.out HF.out).1 (List.contains_iff_mem.1 h)))
    have HSZ := hide (idx_size (kys (mgBody (mgT f) t d).2) (kys_nodup hdb))
    have HKL := hide (show (kys (mgBody (mgT f) t d).2).length = (mgBody (mgT f) t d).2.length by simp [kys])
    clear hp hgrd hnt hdb HMG
    have hBa : B ≤ (w.alloc (.cells #[.int .i64 K, .slice A n c, .slice A2 n2 cp2] 75)).heap.size := Nat.le_trans hBw HA.out.size
    rcases (show K = 1 ∨ K = 2 ∨ K = 3 ∨ K = 4 by omega) with rfl | rfl | rfl | rfl
    · obtain ⟨ho, hp1, hp2⟩ := h1 rfl
      have hcn : cntParts f t.name ≤ 500 ∧ d.length + cntParts f t.name ≤ 999 := ⟨by omega, by omega⟩
      have HPG := hide (fun p (hp : p ∈ t.name) => (⟨(t1 p hp).1, (h4 p hp).1, (h4 p hp).2.1, fun x hx => ⟨(h4 p hp).2.2 x hx, (t1 p hp).2 x hx⟩⟩ : textE p.1 = 0 ∧ p.1.size ≤ 60 ∧ p.2.length ≤ 20 ∧ ∀ x ∈ p.2, Good f x ∧ Txt f x))
      have hn20 : n ≤ 20 := by rw [← HLN.out]; exact hp2
      clear h1 h2 h3 h4 h5 t1 t2
      have HBD := hide (show L ++ (mgName (mgT f) t.name d).1 = L ++ (mgBody (mgT f) t d).1 ∧ (mgName (mgT f) t.name d).2 = (mgBody (mgT f) t d).2 from by unfold mgBody; rw [if_pos HKD.out]; exact ⟨rfl, rfl⟩)
      go_enter Tryd.func43, Tryd.ntmps43
      go_wp2_with (first | (go_at_call 68; refine CK.out.mono ?_; rintro e w1 ⟨rfl, hw1⟩; have HR1 := hide (HR0.out.below hBw hw1); have HX1 := hide (block_below HX.out hw1); have m1 : w1.cell? ⟨b, 2, none⟩ = some (.map (some mb)) := HR1.out.st.bld.map; have x0 : w1.cell? ⟨w.heap.size, 0, none⟩ = some (.int .i64 1) := block_cell HX1.out 0; have x1 : w1.cell? ⟨w.heap.size, 1, none⟩ = some (.slice A n c) := block_cell HX1.out 1; have x2 : w1.cell? ⟨w.heap.size, 2, none⟩ = some (.slice A2 n2 cp2) := block_cell HX1.out 2; clear hw1) | (at_lookup; refine Go.wpList_lookup_own_ok_int _ rfl _ _ 49 rfl 9 3 .i64 law_str Tryd.underlying49 Tryd.underlying3 (zero_intM _) mb _ _ rfl HR1.out.st.map (.string kb) _ rfl HKY.out ?_; intro c' hat hwc; rw [HHAS.out]; clear hat hwc) | (go_at_call 18; refine (HN k A n c t.name B b mb L d w1 hn hm hn20 (parts_below HL1.out HR1.out.be) HPG.out (by omega) HD.out hcn.2 hcn.1 HR1.out.st (HTB.out.below HR1.out.be) (Nat.le_trans hBw HR1.out.be.size) (by omega)).mono ?_; rintro e w2 ⟨rfl, hr2⟩; have HR2 := hide (HR1.out.trans hr2); clear hr2))
      rw [HBD.out.1, HBD.out.2] at HR2
      obtain ⟨d2, hd2⟩ : ∃ x, (mgBody (mgT f) t d).2 = x := ⟨_, rfl⟩
      rw [hd2] at HR2 HSZ HKL HNT HDB hdl
      have hsz : Maps.size (idxD (kys d2)) = d2.length := HSZ.out.trans HKL.out
      have m2 : w2.cell? ⟨b, 2, none⟩ = some (.map (some mb)) := HR2.out.st.bld.map
      have HR3 := hide (HR2.out.below hBw (below_drewN (Below.refl w2.heap.size w2) 1))
      have hwf : (Lit.int .i64 (d2.length : Int)).wf = true := by
        rw [Lit.wf]
        simp only [Bool.and_eq_true, decide_eq_true_eq]
        exact ⟨show (-9223372036854775808 : Int) ≤ _ by omega, show _ ≤ (9223372036854775807 : Int) by omega⟩
      refine wp_region_chain (fun W => W.cell? ⟨b, 2, none⟩ = some (.map (some mb)) ∧ W.ownsMap Tryd.prog 9 (plainElem Tryd.prog 3) mb d2.length (idxD (kys d2))) 10 (by as_aux_lemma => kernel_rfl) (N := 11) (by as_aux_lemma => kernel_rfl) ?_; intro hsh
      have HS : w2.drew.cell? ⟨b, 2, none⟩ = some (.map (some mb)) ∧ w2.drew.ownsMap Tryd.prog 9 (plainElem Tryd.prog 3) mb d2.length (idxD (kys d2)) := ⟨m2, HR3.out.st.map⟩
      refine wpAnyC_take0 (i := 0) (k := 10) (v := ?_) (d := some 51) rfl (by rfl) (by as_aux_lemma => kernel_rfl) (by as_aux_lemma => kernel_rfl) (by as_aux_lemma => kernel_rfl) hsh (by decide) (by intro _ _ _ h; exact h) (by assumption) (Or.inl ⟨by rfl, ?hy⟩) ?_; (case hy => (intro W _; go_simp; (try with_reducible rfl))); clear hsh; intro hsh
      refine wpAnyC_take0 (i := 1) (k := 10) (v := ?_) (d := some 52) rfl (by rfl) (by as_aux_lemma => kernel_rfl) (by as_aux_lemma => kernel_rfl) (by as_aux_lemma => kernel_rfl) hsh (by decide) (by intro _ _ _ h; exact h) (by assumption) (Or.inl ⟨by rfl, ?hy⟩) ?_; (case hy => (intro W _; go_simp; (try with_reducible rfl))); clear hsh; intro hsh
      refine wpAnyC_take0 (i := 2) (k := 10) (v := ?_) (d := some 53) rfl (by rfl) (by as_aux_lemma => kernel_rfl) (by as_aux_lemma => kernel_rfl) (by as_aux_lemma => kernel_rfl) hsh (by decide) (by intro _ _ _ h; exact h) (by assumption) (Or.inl ⟨by rfl, ?hy⟩) ?_; (case hy => (intro W _; go_simp; (try with_reducible rfl))); clear hsh; intro hsh
      refine wpAnyC_take (i := 3) (k := 10) (f := 40) (v := ?_) (d := some 54) rfl (by rfl) (by as_aux_lemma => kernel_rfl) (by as_aux_lemma => kernel_rfl) (by as_aux_lemma => kernel_rfl) hsh (by decide) (by as_aux_lemma => kernel_rfl) (by intro _ _ _ h; exact h) (by assumption) (Or.inl ⟨by rfl, ?hy⟩) ?_; (case hy => (rintro W ⟨y0, y1⟩; go_simp; (try with_reducible rfl))); clear hsh; intro hsh
      refine wpAnyC_take0 (i := 4) (k := 10) (v := ?_) (d := some 55) rfl (by rfl) (by as_aux_lemma => kernel_rfl) (by as_aux_lemma => kernel_rfl) (by as_aux_lemma => kernel_rfl) hsh (by decide) (by intro _ _ _ h; exact h) (by assumption) (Or.inl ⟨by rfl, ?hy⟩) ?_; (case hy => (intro W _; go_simp; (try with_reducible rfl))); clear hsh; intro hsh
      refine wpAnyC_take0 (i := 5) (k := 10) (v := ?_) (d := some 56) rfl (by rfl) (by as_aux_lemma => kernel_rfl) (by as_aux_lemma => kernel_rfl) (by as_aux_lemma => kernel_rfl) hsh (by decide) (by intro _ _ _ h; exact h) (by assumption) (Or.inl ⟨by rfl, ?hy⟩) ?_; (case hy => (intro W _; go_simp; (try with_reducible rfl))); clear hsh; intro hsh
      refine wpAnyC_take0 (i := 6) (k := 10) (v := ?_) (d := some 57) rfl (by rfl) (by as_aux_lemma => kernel_rfl) (by as_aux_lemma => kernel_rfl) (by as_aux_lemma => kernel_rfl) hsh (by decide) (by intro _ _ _ h; exact h) (by assumption) (Or.inl ⟨by rfl, ?hy⟩) ?_; (case hy => (intro W _; go_simp; (try with_reducible rfl))); clear hsh; intro hsh
      refine wpAnyC_take0 (i := 7) (k := 10) (v := ?_) (d := some 58) rfl (by rfl) (by as_aux_lemma => kernel_rfl) (by as_aux_lemma => kernel_rfl) (by as_aux_lemma => kernel_rfl) hsh (by decide) (by intro _ _ _ h; exact h) (by assumption) (Or.inl ⟨by rfl, ?hy⟩) ?_; (case hy => (intro W _; go_simp; (try with_reducible rfl))); clear hsh; intro hsh
      refine wpAnyC_take (i := 8) (k := 10) (f := 40) (v := ?_) (d := some 59) rfl (by rfl) (by as_aux_lemma => kernel_rfl) (by as_aux_lemma => kernel_rfl) (by as_aux_lemma => kernel_rfl) hsh (by decide) (by as_aux_lemma => kernel_rfl) (by intro _ _ _ h; exact h) (by assumption) (Or.inl ⟨by rfl, ?hy⟩) ?_; (case hy => (rintro W ⟨y0, y1⟩; go_simp; (try with_reducible rfl))); clear hsh; intro hsh
      refine wpAnyC_take (i := 9) (k := 10) (f := 40) (v := ?_) (d := some 60) rfl (by rfl) (by as_aux_lemma => kernel_rfl) (by as_aux_lemma => kernel_rfl) (by as_aux_lemma => kernel_rfl) hsh (by decide) (by as_aux_lemma => kernel_rfl) (by intro _ _ _ h; exact h) (by assumption) (Or.inl ⟨by rfl, ?hy⟩) ?_; (case hy => (rintro W ⟨y0, y1⟩; have hln := World.ownsMap.len y1 Tryd.underlying49 3; rw [hsz] at hln; go_simp; (try with_reducible rfl))); clear hsh; intro hsh
      refine wpAnyC_tail (by as_aux_lemma => kernel_rfl) (by simp) (by as_aux_lemma => kernel_rfl) ?_; simp only [List.drop_succ_cons, List.drop_zero]; clear hsh
      go_simp
      go_wp2_with (at_mapUpdate; refine wpList_mapUpdate_own _ rfl _ _ _ 49 rfl 9 3 law_str Tryd.underlying49 _ mb d2.length _ rfl HR3.out.st.map (by unfold maxLen; omega) _ _ _ rfl rfl HKY.out _ [] (Go.plainElem_int Tryd.underlying3 hwf) ?_; intro w4 hown4 hg4; have HR4 := hide (MgR.put (t := t) HR3.out hown4 hg4 hBw); clear hown4 hg4)
      go_end0
      exact ⟨rfl, HR4.out⟩
    · obtain ⟨hno, hp1, hp2⟩ := h2 (by decide)
      have hcn : cntTys f t.of ≤ 500 ∧ d.length + cntTys f t.of ≤ 999 := ⟨by omega, by omega⟩
      have HTG := hide (fun x (hx : x ∈ t.of) => (⟨h5 x hx, t2 x hx⟩ : Good f x ∧ Txt f x))
      have hn21 : n2 ≤ 21 := by rw [← HLO.out]; exact hp2
      clear h1 h2 h3 h4 h5 t1 t2
      have HBD := hide (show L ++ (⟨#[82]⟩ : ByteArray).data.toList ++ (mgFold (mgT f) t.of d).1 ++ (⟨#[]⟩ : ByteArray).data.toList = L ++ (mgBody (mgT f) t d).1 ∧ (mgFold (mgT f) t.of d).2 = (mgBody (mgT f) t d).2 from by unfold mgBody; rw [HKD.out]; simp)
      go_enter Tryd.func43, Tryd.ntmps43
      go_wp2_with (first | (go_at_call 68; refine CK.out.mono ?_; rintro e w1 ⟨rfl, hw1⟩; have HR1 := hide (HR0.out.below hBw hw1); have HX1 := hide (block_below HX.out hw1); have m1 : w1.cell? ⟨b, 2, none⟩ = some (.map (some mb)) := HR1.out.st.bld.map; have x0 : w1.cell? ⟨w.heap.size, 0, none⟩ = some (.int .i64 2) := block_cell HX1.out 0; have x1 : w1.cell? ⟨w.heap.size, 1, none⟩ = some (.slice A n c) := block_cell HX1.out 1; have x2 : w1.cell? ⟨w.heap.size, 2, none⟩ = some (.slice A2 n2 cp2) := block_cell HX1.out 2; clear hw1) | (at_lookup; refine Go.wpList_lookup_own_ok_int _ rfl _ _ 49 rfl 9 3 .i64 law_str Tryd.underlying49 Tryd.underlying3 (zero_intM _) mb _ _ rfl HR1.out.st.map (.string kb) _ rfl HKY.out ?_; intro c' hat hwc; rw [HHAS.out]; clear hat hwc) | (go_at_call 19; refine (HT k A2 n2 cp2 t.of ⟨#[82]⟩ ⟨#[]⟩ B b mb L d w1 hn2 hm2 hn21 (by decide) (by decide) (tys_below HL2.out HR1.out.be) HTG.out (by omega) HD.out hcn.2 hcn.1 HR1.out.st (HTB.out.below HR1.out.be) (Nat.le_trans hBw HR1.out.be.size) (by omega)).mono ?_; rintro e w2 ⟨rfl, hr2⟩; have HR2 := hide (HR1.out.trans hr2); clear hr2))
      rw [HBD.out.1, HBD.out.2] at HR2
      obtain ⟨d2, hd2⟩ : ∃ x, (mgBody (mgT f) t d).2 = x := ⟨_, rfl⟩
      rw [hd2] at HR2 HSZ HKL HNT HDB hdl
      have hsz : Maps.size (idxD (kys d2)) = d2.length := HSZ.out.trans HKL.out
      have m2 : w2.cell? ⟨b, 2, none⟩ = some (.map (some mb)) := HR2.out.st.bld.map
      have HR3 := hide (HR2.out.below hBw (below_drewN (Below.refl w2.heap.size w2) 1))
      have hwf : (Lit.int .i64 (d2.length : Int)).wf = true := by
        rw [Lit.wf]
        simp only [Bool.and_eq_true, decide_eq_true_eq]
        exact ⟨show (-9223372036854775808 : Int) ≤ _ by omega, show _ ≤ (9223372036854775807 : Int) by omega⟩
      refine wp_region_chain (fun W => W.cell? ⟨b, 2, none⟩ = some (.map (some mb)) ∧ W.ownsMap Tryd.prog 9 (plainElem Tryd.prog 3) mb d2.length (idxD (kys d2))) 10 (by as_aux_lemma => kernel_rfl) (N := 11) (by as_aux_lemma => kernel_rfl) ?_; intro hsh
      have HS : w2.drew.cell? ⟨b, 2, none⟩ = some (.map (some mb)) ∧ w2.drew.ownsMap Tryd.prog 9 (plainElem Tryd.prog 3) mb d2.length (idxD (kys d2)) := ⟨m2, HR3.out.st.map⟩
      refine wpAnyC_take0 (i := 0) (k := 10) (v := ?_) (d := some 51) rfl (by rfl) (by as_aux_lemma => kernel_rfl) (by as_aux_lemma => kernel_rfl) (by as_aux_lemma => kernel_rfl) hsh (by decide) (by intro _ _ _ h; exact h) (by assumption) (Or.inl ⟨by rfl, ?hy⟩) ?_; (case hy => (intro W _; go_simp; (try with_reducible rfl))); clear hsh; intro hsh
      refine wpAnyC_take0 (i := 1) (k := 10) (v := ?_) (d := some 52) rfl (by rfl) (by as_aux_lemma => kernel_rfl) (by as_aux_lemma => kernel_rfl) (by as_aux_lemma => kernel_rfl) hsh (by decide) (by intro _ _ _ h; exact h) (by assumption) (Or.inl ⟨by rfl, ?hy⟩) ?_; (case hy => (intro W _; go_simp; (try with_reducible rfl))); clear hsh; intro hsh
      refine wpAnyC_take0 (i := 2) (k := 10) (v := ?_) (d := some 53) rfl (by rfl) (by as_aux_lemma => kernel_rfl) (by as_aux_lemma => kernel_rfl) (by as_aux_lemma => kernel_rfl) hsh (by decide) (by intro _ _ _ h; exact h) (by assumption) (Or.inl ⟨by rfl, ?hy⟩) ?_; (case hy => (intro W _; go_simp; (try with_reducible rfl))); clear hsh; intro hsh
      refine wpAnyC_take (i := 3) (k := 10) (f := 40) (v := ?_) (d := some 54) rfl (by rfl) (by as_aux_lemma => kernel_rfl) (by as_aux_lemma => kernel_rfl) (by as_aux_lemma => kernel_rfl) hsh (by decide) (by as_aux_lemma => kernel_rfl) (by intro _ _ _ h; exact h) (by assumption) (Or.inl ⟨by rfl, ?hy⟩) ?_; (case hy => (rintro W ⟨y0, y1⟩; go_simp; (try with_reducible rfl))); clear hsh; intro hsh
      refine wpAnyC_take0 (i := 4) (k := 10) (v := ?_) (d := some 55) rfl (by rfl) (by as_aux_lemma => kernel_rfl) (by as_aux_lemma => kernel_rfl) (by as_aux_lemma => kernel_rfl) hsh (by decide) (by intro _ _ _ h; exact h) (by assumption) (Or.inl ⟨by rfl, ?hy⟩) ?_; (case hy => (intro W _; go_simp; (try with_reducible rfl))); clear hsh; intro hsh
      refine wpAnyC_take0 (i := 5) (k := 10) (v := ?_) (d := some 56) rfl (by rfl) (by as_aux_lemma => kernel_rfl) (by as_aux_lemma => kernel_rfl) (by as_aux_lemma => kernel_rfl) hsh (by decide) (by intro _ _ _ h; exact h) (by assumption) (Or.inl ⟨by rfl, ?hy⟩) ?_; (case hy => (intro W _; go_simp; (try with_reducible rfl))); clear hsh; intro hsh
      refine wpAnyC_take0 (i := 6) (k := 10) (v := ?_) (d := some 57) rfl (by rfl) (by as_aux_lemma => kernel_rfl) (by as_aux_lemma => kernel_rfl) (by as_aux_lemma => kernel_rfl) hsh (by decide) (by intro _ _ _ h; exact h) (by assumption) (Or.inl ⟨by rfl, ?hy⟩) ?_; (case hy => (intro W _; go_simp; (try with_reducible rfl))); clear hsh; intro hsh
      refine wpAnyC_take0 (i := 7) (k := 10) (v := ?_) (d := some 58) rfl (by rfl) (by as_aux_lemma => kernel_rfl) (by as_aux_lemma => kernel_rfl) (by as_aux_lemma => kernel_rfl) hsh (by decide) (by intro _ _ _ h; exact h) (by assumption) (Or.inl ⟨by rfl, ?hy⟩) ?_; (case hy => (intro W _; go_simp; (try with_reducible rfl))); clear hsh; intro hsh
      refine wpAnyC_take (i := 8) (k := 10) (f := 40) (v := ?_) (d := some 59) rfl (by rfl) (by as_aux_lemma => kernel_rfl) (by as_aux_lemma => kernel_rfl) (by as_aux_lemma => kernel_rfl) hsh (by decide) (by as_aux_lemma => kernel_rfl) (by intro _ _ _ h; exact h) (by assumption) (Or.inl ⟨by rfl, ?hy⟩) ?_; (case hy => (rintro W ⟨y0, y1⟩; go_simp; (try with_reducible rfl))); clear hsh; intro hsh
      refine wpAnyC_take (i := 9) (k := 10) (f := 40) (v := ?_) (d := some 60) rfl (by rfl) (by as_aux_lemma => kernel_rfl) (by as_aux_lemma => kernel_rfl) (by as_aux_lemma => kernel_rfl) hsh (by decide) (by as_aux_lemma => kernel_rfl) (by intro _ _ _ h; exact h) (by assumption) (Or.inl ⟨by rfl, ?hy⟩) ?_; (case hy => (rintro W ⟨y0, y1⟩; have hln := World.ownsMap.len y1 Tryd.underlying49 3; rw [hsz] at hln; go_simp; (try with_reducible rfl))); clear hsh; intro hsh
      refine wpAnyC_tail (by as_aux_lemma => kernel_rfl) (by simp) (by as_aux_lemma => kernel_rfl) ?_; simp only [List.drop_succ_cons, List.drop_zero]; clear hsh
      go_simp
      go_wp2_with (at_mapUpdate; refine wpList_mapUpdate_own _ rfl _ _ _ 49 rfl 9 3 law_str Tryd.underlying49 _ mb d2.length _ rfl HR3.out.st.map (by unfold maxLen; omega) _ _ _ rfl rfl HKY.out _ [] (Go.plainElem_int Tryd.underlying3 hwf) ?_; intro w4 hown4 hg4; have HR4 := hide (MgR.put (t := t) HR3.out hown4 hg4 hBw); clear hown4 hg4)
      go_end0
      exact ⟨rfl, HR4.out⟩
    · obtain ⟨hno, hp1, hp2⟩ := h2 (by decide)
      have hcn : cntTys f t.of ≤ 500 ∧ d.length + cntTys f t.of ≤ 999 := ⟨by omega, by omega⟩
      have HTG := hide (fun x (hx : x ∈ t.of) => (⟨h5 x hx, t2 x hx⟩ : Good f x ∧ Txt f x))
      have hn21 : n2 ≤ 21 := by rw [← HLO.out]; exact hp2
      clear h1 h2 h3 h4 h5 t1 t2
      have HBD := hide (show L ++ (⟨#[76]⟩ : ByteArray).data.toList ++ (mgFold (mgT f) t.of d).1 ++ (⟨#[]⟩ : ByteArray).data.toList = L ++ (mgBody (mgT f) t d).1 ∧ (mgFold (mgT f) t.of d).2 = (mgBody (mgT f) t d).2 from by unfold mgBody; rw [HKD.out]; simp)
      go_enter Tryd.func43, Tryd.ntmps43
      go_wp2_with (first | (go_at_call 68; refine CK.out.mono ?_; rintro e w1 ⟨rfl, hw1⟩; have HR1 := hide (HR0.out.below hBw hw1); have HX1 := hide (block_below HX.out hw1); have m1 : w1.cell? ⟨b, 2, none⟩ = some (.map (some mb)) := HR1.out.st.bld.map; have x0 : w1.cell? ⟨w.heap.size, 0, none⟩ = some (.int .i64 3) := block_cell HX1.out 0; have x1 : w1.cell? ⟨w.heap.size, 1, none⟩ = some (.slice A n c) := block_cell HX1.out 1; have x2 : w1.cell? ⟨w.heap.size, 2, none⟩ = some (.slice A2 n2 cp2) := block_cell HX1.out 2; clear hw1) | (at_lookup; refine Go.wpList_lookup_own_ok_int _ rfl _ _ 49 rfl 9 3 .i64 law_str Tryd.underlying49 Tryd.underlying3 (zero_intM _) mb _ _ rfl HR1.out.st.map (.string kb) _ rfl HKY.out ?_; intro c' hat hwc; rw [HHAS.out]; clear hat hwc) | (go_at_call 19; refine (HT k A2 n2 cp2 t.of ⟨#[76]⟩ ⟨#[]⟩ B b mb L d w1 hn2 hm2 hn21 (by decide) (by decide) (tys_below HL2.out HR1.out.be) HTG.out (by omega) HD.out hcn.2 hcn.1 HR1.out.st (HTB.out.below HR1.out.be) (Nat.le_trans hBw HR1.out.be.size) (by omega)).mono ?_; rintro e w2 ⟨rfl, hr2⟩; have HR2 := hide (HR1.out.trans hr2); clear hr2))
      rw [HBD.out.1, HBD.out.2] at HR2
      obtain ⟨d2, hd2⟩ : ∃ x, (mgBody (mgT f) t d).2 = x := ⟨_, rfl⟩
      rw [hd2] at HR2 HSZ HKL HNT HDB hdl
      have hsz : Maps.size (idxD (kys d2)) = d2.length := HSZ.out.trans HKL.out
      have m2 : w2.cell? ⟨b, 2, none⟩ = some (.map (some mb)) := HR2.out.st.bld.map
      have HR3 := hide (HR2.out.below hBw (below_drewN (Below.refl w2.heap.size w2) 1))
      have hwf : (Lit.int .i64 (d2.length : Int)).wf = true := by
        rw [Lit.wf]
        simp only [Bool.and_eq_true, decide_eq_true_eq]
        exact ⟨show (-9223372036854775808 : Int) ≤ _ by omega, show _ ≤ (9223372036854775807 : Int) by omega⟩
      refine wp_region_chain (fun W => W.cell? ⟨b, 2, none⟩ = some (.map (some mb)) ∧ W.ownsMap Tryd.prog 9 (plainElem Tryd.prog 3) mb d2.length (idxD (kys d2))) 10 (by as_aux_lemma => kernel_rfl) (N := 11) (by as_aux_lemma => kernel_rfl) ?_; intro hsh
      have HS : w2.drew.cell? ⟨b, 2, none⟩ = some (.map (some mb)) ∧ w2.drew.ownsMap Tryd.prog 9 (plainElem Tryd.prog 3) mb d2.length (idxD (kys d2)) := ⟨m2, HR3.out.st.map⟩
      refine wpAnyC_take0 (i := 0) (k := 10) (v := ?_) (d := some 51) rfl (by rfl) (by as_aux_lemma => kernel_rfl) (by as_aux_lemma => kernel_rfl) (by as_aux_lemma => kernel_rfl) hsh (by decide) (by intro _ _ _ h; exact h) (by assumption) (Or.inl ⟨by rfl, ?hy⟩) ?_; (case hy => (intro W _; go_simp; (try with_reducible rfl))); clear hsh; intro hsh
      refine wpAnyC_take0 (i := 1) (k := 10) (v := ?_) (d := some 52) rfl (by rfl) (by as_aux_lemma => kernel_rfl) (by as_aux_lemma => kernel_rfl) (by as_aux_lemma => kernel_rfl) hsh (by decide) (by intro _ _ _ h; exact h) (by assumption) (Or.inl ⟨by rfl, ?hy⟩) ?_; (case hy => (intro W _; go_simp; (try with_reducible rfl))); clear hsh; intro hsh
      refine wpAnyC_take0 (i := 2) (k := 10) (v := ?_) (d := some 53) rfl (by rfl) (by as_aux_lemma => kernel_rfl) (by as_aux_lemma => kernel_rfl) (by as_aux_lemma => kernel_rfl) hsh (by decide) (by intro _ _ _ h; exact h) (by assumption) (Or.inl ⟨by rfl, ?hy⟩) ?_; (case hy => (intro W _; go_simp; (try with_reducible rfl))); clear hsh; intro hsh
      refine wpAnyC_take (i := 3) (k := 10) (f := 40) (v := ?_) (d := some 54) rfl (by rfl) (by as_aux_lemma => kernel_rfl) (by as_aux_lemma => kernel_rfl) (by as_aux_lemma => kernel_rfl) hsh (by decide) (by as_aux_lemma => kernel_rfl) (by intro _ _ _ h; exact h) (by assumption) (Or.inl ⟨by rfl, ?hy⟩) ?_; (case hy => (rintro W ⟨y0, y1⟩; go_simp; (try with_reducible rfl))); clear hsh; intro hsh
      refine wpAnyC_take0 (i := 4) (k := 10) (v := ?_) (d := some 55) rfl (by rfl) (by as_aux_lemma => kernel_rfl) (by as_aux_lemma => kernel_rfl) (by as_aux_lemma => kernel_rfl) hsh (by decide) (by intro _ _ _ h; exact h) (by assumption) (Or.inl ⟨by rfl, ?hy⟩) ?_; (case hy => (intro W _; go_simp; (try with_reducible rfl))); clear hsh; intro hsh
      refine wpAnyC_take0 (i := 5) (k := 10) (v := ?_) (d := some 56) rfl (by rfl) (by as_aux_lemma => kernel_rfl) (by as_aux_lemma => kernel_rfl) (by as_aux_lemma => kernel_rfl) hsh (by decide) (by intro _ _ _ h; exact h) (by assumption) (Or.inl ⟨by rfl, ?hy⟩) ?_; (case hy => (intro W _; go_simp; (try with_reducible rfl))); clear hsh; intro hsh
      refine wpAnyC_take0 (i := 6) (k := 10) (v := ?_) (d := some 57) rfl (by rfl) (by as_aux_lemma => kernel_rfl) (by as_aux_lemma => kernel_rfl) (by as_aux_lemma => kernel_rfl) hsh (by decide) (by intro _ _ _ h; exact h) (by assumption) (Or.inl ⟨by rfl, ?hy⟩) ?_; (case hy => (intro W _; go_simp; (try with_reducible rfl))); clear hsh; intro hsh
      refine wpAnyC_take0 (i := 7) (k := 10) (v := ?_) (d := some 58) rfl (by rfl) (by as_aux_lemma => kernel_rfl) (by as_aux_lemma => kernel_rfl) (by as_aux_lemma => kernel_rfl) hsh (by decide) (by intro _ _ _ h; exact h) (by assumption) (Or.inl ⟨by rfl, ?hy⟩) ?_; (case hy => (intro W _; go_simp; (try with_reducible rfl))); clear hsh; intro hsh
      refine wpAnyC_take (i := 8) (k := 10) (f := 40) (v := ?_) (d := some 59) rfl (by rfl) (by as_aux_lemma => kernel_rfl) (by as_aux_lemma => kernel_rfl) (by as_aux_lemma => kernel_rfl) hsh (by decide) (by as_aux_lemma => kernel_rfl) (by intro _ _ _ h; exact h) (by assumption) (Or.inl ⟨by rfl, ?hy⟩) ?_; (case hy => (rintro W ⟨y0, y1⟩; go_simp; (try with_reducible rfl))); clear hsh; intro hsh
      refine wpAnyC_take (i := 9) (k := 10) (f := 40) (v := ?_) (d := some 60) rfl (by rfl) (by as_aux_lemma => kernel_rfl) (by as_aux_lemma => kernel_rfl) (by as_aux_lemma => kernel_rfl) hsh (by decide) (by as_aux_lemma => kernel_rfl) (by intro _ _ _ h; exact h) (by assumption) (Or.inl ⟨by rfl, ?hy⟩) ?_; (case hy => (rintro W ⟨y0, y1⟩; have hln := World.ownsMap.len y1 Tryd.underlying49 3; rw [hsz] at hln; go_simp; (try with_reducible rfl))); clear hsh; intro hsh
      refine wpAnyC_tail (by as_aux_lemma => kernel_rfl) (by simp) (by as_aux_lemma => kernel_rfl) ?_; simp only [List.drop_succ_cons, List.drop_zero]; clear hsh
      go_simp
      go_wp2_with (at_mapUpdate; refine wpList_mapUpdate_own _ rfl _ _ _ 49 rfl 9 3 law_str Tryd.underlying49 _ mb d2.length _ rfl HR3.out.st.map (by unfold maxLen; omega) _ _ _ rfl rfl HKY.out _ [] (Go.plainElem_int Tryd.underlying3 hwf) ?_; intro w4 hown4 hg4; have HR4 := hide (MgR.put (t := t) HR3.out hown4 hg4 hBw); clear hown4 hg4)
      go_end0
      exact ⟨rfl, HR4.out⟩
    · obtain ⟨hno, hp1, hp2⟩ := h2 (by decide)
      have hcn : cntTys f t.of ≤ 500 ∧ d.length + cntTys f t.of ≤ 999 := ⟨by omega, by omega⟩
      have HTG := hide (fun x (hx : x ∈ t.of) => (⟨h5 x hx, t2 x hx⟩ : Good f x ∧ Txt f x))
      have hn21 : n2 ≤ 21 := by rw [← HLO.out]; exact hp2
      clear h1 h2 h3 h4 h5 t1 t2
      have HBD := hide (show L ++ (⟨#[70]⟩ : ByteArray).data.toList ++ (mgFold (mgT f) t.of d).1 ++ (⟨#[69]⟩ : ByteArray).data.toList = L ++ (mgBody (mgT f) t d).1 ∧ (mgFold (mgT f) t.of d).2 = (mgBody (mgT f) t d).2 from by unfold mgBody; rw [HKD.out]; simp)
      go_enter Tryd.func43, Tryd.ntmps43
      go_wp2_with (first | (go_at_call 68; refine CK.out.mono ?_; rintro e w1 ⟨rfl, hw1⟩; have HR1 := hide (HR0.out.below hBw hw1); have HX1 := hide (block_below HX.out hw1); have m1 : w1.cell? ⟨b, 2, none⟩ = some (.map (some mb)) := HR1.out.st.bld.map; have x0 : w1.cell? ⟨w.heap.size, 0, none⟩ = some (.int .i64 4) := block_cell HX1.out 0; have x1 : w1.cell? ⟨w.heap.size, 1, none⟩ = some (.slice A n c) := block_cell HX1.out 1; have x2 : w1.cell? ⟨w.heap.size, 2, none⟩ = some (.slice A2 n2 cp2) := block_cell HX1.out 2; clear hw1) | (at_lookup; refine Go.wpList_lookup_own_ok_int _ rfl _ _ 49 rfl 9 3 .i64 law_str Tryd.underlying49 Tryd.underlying3 (zero_intM _) mb _ _ rfl HR1.out.st.map (.string kb) _ rfl HKY.out ?_; intro c' hat hwc; rw [HHAS.out]; clear hat hwc) | (go_at_call 19; refine (HT k A2 n2 cp2 t.of ⟨#[70]⟩ ⟨#[69]⟩ B b mb L d w1 hn2 hm2 hn21 (by decide) (by decide) (tys_below HL2.out HR1.out.be) HTG.out (by omega) HD.out hcn.2 hcn.1 HR1.out.st (HTB.out.below HR1.out.be) (Nat.le_trans hBw HR1.out.be.size) (by omega)).mono ?_; rintro e w2 ⟨rfl, hr2⟩; have HR2 := hide (HR1.out.trans hr2); clear hr2))
      rw [HBD.out.1, HBD.out.2] at HR2
      obtain ⟨d2, hd2⟩ : ∃ x, (mgBody (mgT f) t d).2 = x := ⟨_, rfl⟩
      rw [hd2] at HR2 HSZ HKL HNT HDB hdl
      have hsz : Maps.size (idxD (kys d2)) = d2.length := HSZ.out.trans HKL.out
      have m2 : w2.cell? ⟨b, 2, none⟩ = some (.map (some mb)) := HR2.out.st.bld.map
      have HR3 := hide (HR2.out.below hBw (below_drewN (Below.refl w2.heap.size w2) 1))
      have hwf : (Lit.int .i64 (d2.length : Int)).wf = true := by
        rw [Lit.wf]
        simp only [Bool.and_eq_true, decide_eq_true_eq]
        exact ⟨show (-9223372036854775808 : Int) ≤ _ by omega, show _ ≤ (9223372036854775807 : Int) by omega⟩
      refine wp_region_chain (fun W => W.cell? ⟨b, 2, none⟩ = some (.map (some mb)) ∧ W.ownsMap Tryd.prog 9 (plainElem Tryd.prog 3) mb d2.length (idxD (kys d2))) 10 (by as_aux_lemma => kernel_rfl) (N := 11) (by as_aux_lemma => kernel_rfl) ?_; intro hsh
      have HS : w2.drew.cell? ⟨b, 2, none⟩ = some (.map (some mb)) ∧ w2.drew.ownsMap Tryd.prog 9 (plainElem Tryd.prog 3) mb d2.length (idxD (kys d2)) := ⟨m2, HR3.out.st.map⟩
      refine wpAnyC_take0 (i := 0) (k := 10) (v := ?_) (d := some 51) rfl (by rfl) (by as_aux_lemma => kernel_rfl) (by as_aux_lemma => kernel_rfl) (by as_aux_lemma => kernel_rfl) hsh (by decide) (by intro _ _ _ h; exact h) (by assumption) (Or.inl ⟨by rfl, ?hy⟩) ?_; (case hy => (intro W _; go_simp; (try with_reducible rfl))); clear hsh; intro hsh
      refine wpAnyC_take0 (i := 1) (k := 10) (v := ?_) (d := some 52) rfl (by rfl) (by as_aux_lemma => kernel_rfl) (by as_aux_lemma => kernel_rfl) (by as_aux_lemma => kernel_rfl) hsh (by decide) (by intro _ _ _ h; exact h) (by assumption) (Or.inl ⟨by rfl, ?hy⟩) ?_; (case hy => (intro W _; go_simp; (try with_reducible rfl))); clear hsh; intro hsh
      refine wpAnyC_take0 (i := 2) (k := 10) (v := ?_) (d := some 53) rfl (by rfl) (by as_aux_lemma => kernel_rfl) (by as_aux_lemma => kernel_rfl) (by as_aux_lemma => kernel_rfl) hsh (by decide) (by intro _ _ _ h; exact h) (by assumption) (Or.inl ⟨by rfl, ?hy⟩) ?_; (case hy => (intro W _; go_simp; (try with_reducible rfl))); clear hsh; intro hsh
      refine wpAnyC_take (i := 3) (k := 10) (f := 40) (v := ?_) (d := some 54) rfl (by rfl) (by as_aux_lemma => kernel_rfl) (by as_aux_lemma => kernel_rfl) (by as_aux_lemma => kernel_rfl) hsh (by decide) (by as_aux_lemma => kernel_rfl) (by intro _ _ _ h; exact h) (by assumption) (Or.inl ⟨by rfl, ?hy⟩) ?_; (case hy => (rintro W ⟨y0, y1⟩; go_simp; (try with_reducible rfl))); clear hsh; intro hsh
      refine wpAnyC_take0 (i := 4) (k := 10) (v := ?_) (d := some 55) rfl (by rfl) (by as_aux_lemma => kernel_rfl) (by as_aux_lemma => kernel_rfl) (by as_aux_lemma => kernel_rfl) hsh (by decide) (by intro _ _ _ h; exact h) (by assumption) (Or.inl ⟨by rfl, ?hy⟩) ?_; (case hy => (intro W _; go_simp; (try with_reducible rfl))); clear hsh; intro hsh
      refine wpAnyC_take0 (i := 5) (k := 10) (v := ?_) (d := some 56) rfl (by rfl) (by as_aux_lemma => kernel_rfl) (by as_aux_lemma => kernel_rfl) (by as_aux_lemma => kernel_rfl) hsh (by decide) (by intro _ _ _ h; exact h) (by assumption) (Or.inl ⟨by rfl, ?hy⟩) ?_; (case hy => (intro W _; go_simp; (try with_reducible rfl))); clear hsh; intro hsh
      refine wpAnyC_take0 (i := 6) (k := 10) (v := ?_) (d := some 57) rfl (by rfl) (by as_aux_lemma => kernel_rfl) (by as_aux_lemma => kernel_rfl) (by as_aux_lemma => kernel_rfl) hsh (by decide) (by intro _ _ _ h; exact h) (by assumption) (Or.inl ⟨by rfl, ?hy⟩) ?_; (case hy => (intro W _; go_simp; (try with_reducible rfl))); clear hsh; intro hsh
      refine wpAnyC_take0 (i := 7) (k := 10) (v := ?_) (d := some 58) rfl (by rfl) (by as_aux_lemma => kernel_rfl) (by as_aux_lemma => kernel_rfl) (by as_aux_lemma => kernel_rfl) hsh (by decide) (by intro _ _ _ h; exact h) (by assumption) (Or.inl ⟨by rfl, ?hy⟩) ?_; (case hy => (intro W _; go_simp; (try with_reducible rfl))); clear hsh; intro hsh
      refine wpAnyC_take (i := 8) (k := 10) (f := 40) (v := ?_) (d := some 59) rfl (by rfl) (by as_aux_lemma => kernel_rfl) (by as_aux_lemma => kernel_rfl) (by as_aux_lemma => kernel_rfl) hsh (by decide) (by as_aux_lemma => kernel_rfl) (by intro _ _ _ h; exact h) (by assumption) (Or.inl ⟨by rfl, ?hy⟩) ?_; (case hy => (rintro W ⟨y0, y1⟩; go_simp; (try with_reducible rfl))); clear hsh; intro hsh
      refine wpAnyC_take (i := 9) (k := 10) (f := 40) (v := ?_) (d := some 60) rfl (by rfl) (by as_aux_lemma => kernel_rfl) (by as_aux_lemma => kernel_rfl) (by as_aux_lemma => kernel_rfl) hsh (by decide) (by as_aux_lemma => kernel_rfl) (by intro _ _ _ h; exact h) (by assumption) (Or.inl ⟨by rfl, ?hy⟩) ?_; (case hy => (rintro W ⟨y0, y1⟩; have hln := World.ownsMap.len y1 Tryd.underlying49 3; rw [hsz] at hln; go_simp; (try with_reducible rfl))); clear hsh; intro hsh
      refine wpAnyC_tail (by as_aux_lemma => kernel_rfl) (by simp) (by as_aux_lemma => kernel_rfl) ?_; simp only [List.drop_succ_cons, List.drop_zero]; clear hsh
      go_simp
      go_wp2_with (at_mapUpdate; refine wpList_mapUpdate_own _ rfl _ _ _ 49 rfl 9 3 law_str Tryd.underlying49 _ mb d2.length _ rfl HR3.out.st.map (by unfold maxLen; omega) _ _ _ rfl rfl HKY.out _ [] (Go.plainElem_int Tryd.underlying3 hwf) ?_; intro w4 hown4 hg4; have HR4 := hide (MgR.put (t := t) HR3.out hown4 hg4 hBw); clear hown4 hg4)
      go_end0
      exact ⟨rfl, HR4.out⟩
end Go.Proofs.YtocpmbpckbjepaaDoor
