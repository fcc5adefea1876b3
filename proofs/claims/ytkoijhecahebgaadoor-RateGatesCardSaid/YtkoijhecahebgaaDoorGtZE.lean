/- GtGi, GtLw, GtEqu: texts of one's own, in one file. -/
import Derived.Test.YtkoijhecahebgaaDoorGtZC
import Derived.Test.YtkoijhecahebgaaDoorGtTls
import Derived.Test.YtkoijhecahebgaaDoorGtLev
import Derived.Lib.SliceRun
/- The two gates' levels: plain law. -/
namespace Go.Proofs.YtkoijhecahebgaaDoor
set_option linter.unusedVariables false
set_option linter.unusedSimpArgs false
structure GI (Q : List Qt) (V W : List Lv) (g : Int) : Prop where
  len : V.length = Q.length
  ok : LvsOk Q V
  t : ∃ u, u ≤ g ∧ u ≤ 3155759999 ∧ (∀ x ∈ V, x.t ≤ u) ∧ W = poured u Q V
theorem list_eq {α : Type} {l m : List α} (h : l.length = m.length) (h2 : ∀ (i : Nat) x y, l[i]? = some x → m[i]? = some y → x = y) : l = m := by
  apply List.ext_getElem h
  intro i h3 h4
  exact h2 i _ _ (List.getElem?_eq_getElem h3) (List.getElem?_eq_getElem h4)
section
variable {Q : List Qt} {V W : List Lv} {g t : Int}
theorem GI.g_ (h : GI Q V W g) : ∀ x ∈ V, x.t ≤ g := fun x hx => by
  obtain ⟨u, h1, _, h2, _⟩ := h.t
  have := h2 x hx
  omega
theorem GI.wlen (h : GI Q V W g) : W.length = Q.length := by
  obtain ⟨u, h1, _, h2, rfl⟩ := h.t
  exact poured_len h.len
theorem GI.get (h : GI Q V W g) {i : Nat} {q : Qt} {x : Lv} (hq : Q[i]? = some q) (hx : V[i]? = some x) : ∃ u, u ≤ g ∧ x.t ≤ u ∧ W[i]? = some (pourL q u x) := by
  obtain ⟨u, h1, _, h2, rfl⟩ := h.t
  exact ⟨u, h1, h2 x (List.mem_of_getElem? hx), poured_at hq hx⟩
theorem at_lt {l : List Lv} {i n : Nat} (hl : l.length = n) (hi : i < n) : ∃ x, l[i]? = some x := ⟨_, List.getElem?_eq_getElem (by omega)⟩
theorem GI.wok (h : GI Q V W g) : LvsOk Q W := fun i q y hq hy => by
  have hi := (List.getElem?_eq_some_iff.1 hq).1
  obtain ⟨x, hx⟩ := at_lt h.len hi
  obtain ⟨u, h1, h3, h2, rfl⟩ := h.t
  rw [poured_at hq hx] at hy
  obtain rfl := Option.some.inj hy
  exact (h.ok i q x hq hx).pour (h2 x (List.mem_of_getElem? hx)) h3
theorem GI.wg (h : GI Q V W g) : ∀ y ∈ W, y.t ≤ g := fun y hy => by
  obtain ⟨i, hi⟩ := List.mem_iff_getElem?.1 hy
  have hil := (List.getElem?_eq_some_iff.1 hi).1
  rw [h.wlen] at hil
  obtain ⟨x, hx⟩ := at_lt h.len hil
  have hq : Q[i]? = some Q[i] := List.getElem?_eq_getElem hil
  obtain ⟨u, h1, h3, h4⟩ := h.get hq hx
  rw [h4] at hi
  obtain rfl := Option.some.inj hi
  exact h1
theorem GI.pour (h : GI Q V W g) (ht : g ≤ t) : poured t Q W = poured t Q V := by
  refine list_eq (by rw [poured_len h.wlen, poured_len h.len]) fun i x y hx hy => ?_
  have hil := (List.getElem?_eq_some_iff.1 hx).1
  rw [poured_len h.wlen] at hil
  obtain ⟨v, hv⟩ := at_lt h.len hil
  have hq : Q[i]? = some Q[i] := List.getElem?_eq_getElem hil
  obtain ⟨u, h1, h3, h4⟩ := h.get hq hv
  rw [poured_at hq h4] at hx
  rw [poured_at hq hv] at hy
  obtain rfl := Option.some.inj hx
  obtain rfl := Option.some.inj hy
  exact pour_pour (h.ok i _ v hq hv) h3 (by omega)
theorem GI.pourI (h : GI Q V W g) (ht : g ≤ t) (i : Fin Q.length) : Go.Proofs.YtkoijhecahebgaaDoor.pourI Q t W i = Go.Proofs.YtkoijhecahebgaaDoor.pourI Q t V i := by
  obtain ⟨v, hv⟩ := at_lt h.len i.isLt
  have hq : Q[i.val]? = some Q[i] := List.getElem?_eq_getElem i.isLt
  obtain ⟨u, h1, h3, h4⟩ := h.get hq hv
  unfold Go.Proofs.YtkoijhecahebgaaDoor.pourI
  rw [h4, hv]
  exact pour_pour (h.ok _ _ v hq hv) h3 (by omega)
theorem GI.limF (h : GI Q V W g) (ht : g ≤ t) (key : ByteArray) : Go.Proofs.YtkoijhecahebgaaDoor.limF Q W key t = Go.Proofs.YtkoijhecahebgaaDoor.limF Q V key t := by
  have e : noneLeft Q W t = noneLeft Q V t := funext fun i => by unfold noneLeft; rw [h.pourI ht]
  unfold Go.Proofs.YtkoijhecahebgaaDoor.limF
  rw [e]
theorem GI.askO (h : GI Q V W g) (ht : g ≤ t) (RT : List RtK) (TL : List Tl) (id key : ByteArray) :
    (Go.Proofs.YtkoijhecahebgaaDoor.askO Q RT W TL id key t).1 = (Go.Proofs.YtkoijhecahebgaaDoor.askO Q RT V TL id key t).1 ∧ (Go.Proofs.YtkoijhecahebgaaDoor.askO Q RT W TL id key t).2.2 = (Go.Proofs.YtkoijhecahebgaaDoor.askO Q RT V TL id key t).2.2 := by
  unfold Go.Proofs.YtkoijhecahebgaaDoor.askO
  rw [h.limF ht key]
  split
  · exact ⟨rfl, rfl⟩
  · split <;> exact ⟨rfl, rfl⟩
end
theorem limV_at {Q : List Qt} {V : List Lv} {t : Int} (hV : V.length = Q.length) : ∀ (m : Nat) (l : List (Fin Q.length)), l.length = m → l.Nodup → ∀ (i : Fin Q.length), (limV Q V t l)[i.val]? = if i ∈ l then some (pourI Q t V i).less else V[i.val]?
  | 0, l, hl, _, i => by
    rw [List.length_eq_zero_iff.1 hl]
    simp [limV]
  | m + 1, l, hl, hn, i => by
    have hne : l ≠ [] := by intro e; rw [e] at hl; simp at hl
    have e := (List.dropLast_concat_getLast hne).symm
    obtain ⟨d, hd⟩ : ∃ d, l.dropLast = d := ⟨_, rfl⟩
    obtain ⟨z, hz⟩ : ∃ z, l.getLast hne = z := ⟨_, rfl⟩
    rw [hd, hz] at e
    have hdl : d.length = m := by rw [← hd, List.length_dropLast]; omega
    rw [e] at hn ⊢
    rw [List.nodup_append] at hn
    have hzd : z ∉ d := fun h9 => hn.2.2 z h9 z (by simp) rfl
    have ih := limV_at (t := t) hV m d hdl hn.1
    rw [limV_snoc]
    have hp : pourI Q t (limV Q V t d) z = pourI Q t V z := by
      unfold pourI
      rw [ih z, if_neg hzd]
    rw [hp]
    by_cases hiz : i = z
    · subst hiz
      rw [List.getElem?_set_self (by rw [limV_len, hV]; exact i.isLt), if_pos (by simp)]
    · have hv : z.val ≠ i.val := fun h9 => hiz (Fin.ext h9.symm)
      rw [List.getElem?_set_ne hv, ih i]
      by_cases hid : i ∈ d
      · rw [if_pos hid, if_pos (by simp [hid])]
      · rw [if_neg hid, if_neg (by simp [hid, hiz])]
theorem fitIx_nodup (Q : List Qt) (key : ByteArray) (k : Nat) : (fitIx Q key k).Nodup := by
  unfold fitIx
  exact ((List.nodup_finRange _).sublist (List.take_sublist _ _)).filter _
theorem fitIx_mem {Q : List Qt} {key : ByteArray} {i : Fin Q.length} : i ∈ fitIx Q key Q.length ↔ fitsB key Q[i] = true := by
  have e : (List.finRange Q.length).take Q.length = List.finRange Q.length := List.take_of_length_le (by simp)
  unfold fitIx
  rw [e, List.mem_filter]
  exact ⟨fun h => h.2, fun h => ⟨List.mem_finRange i, h⟩⟩
/-- Behind a question both gates' levels go together again. -/
theorem GI.asked {Q : List Qt} {V W : List Lv} {g t : Int} (h : GI Q V W g) (ht : g ≤ t) (hm : t ≤ 3155759999) (RT : List RtK) (TL : List Tl) (id key : ByteArray) :
    GI Q (Go.Proofs.YtkoijhecahebgaaDoor.askO Q RT V TL id key t).2.1 (askVR Q RT W id key t) t := by
  unfold Go.Proofs.YtkoijhecahebgaaDoor.askO askVR
  rw [h.limF ht key]
  split
  · obtain ⟨u, h1, h2, h3, h4⟩ := h.t
    exact ⟨h.len, h.ok, u, by omega, h2, h3, h4⟩
  · cases hl : Go.Proofs.YtkoijhecahebgaaDoor.limF Q V key t with
    | some i => exact ⟨h.len, h.ok, t, Int.le_refl _, hm, fun x hx => by have := h.g_ x hx; omega, h.pour ht⟩
    | none =>
      have hno : ∀ i : Fin Q.length, fitsB key Q[i] = true → (Go.Proofs.YtkoijhecahebgaaDoor.pourI Q t V i).h ≠ 0 := fun i hf h0 => by
        unfold Go.Proofs.YtkoijhecahebgaaDoor.limF at hl
        rw [List.find?_eq_none] at hl
        exact hl i (fitIx_mem.2 hf) (by unfold noneLeft; rw [h0]; rfl)
      have hat := fun i => limV_at (t := t) h.len _ (fitIx Q key Q.length) rfl (fitIx_nodup Q key Q.length) i
      have hlen : (limV Q V t (fitIx Q key Q.length)).length = Q.length := by rw [limV_len]; exact h.len
      -- each place
      have hpl : ∀ (i : Nat) q x y, Q[i]? = some q → V[i]? = some x → (limV Q V t (fitIx Q key Q.length))[i]? = some y → (fitsB key q = true ∧ y = (pourL q t x).less ∧ (pourL q t x).h ≠ 0) ∨ (fitsB key q = false ∧ y = x) := fun i q x y hq hx hy => by
        have hi := (List.getElem?_eq_some_iff.1 hq).1
        have hqi : Q[(⟨i, hi⟩ : Fin Q.length)] = q := get_fin ⟨i, hi⟩ rfl hq
        have hpi : Go.Proofs.YtkoijhecahebgaaDoor.pourI Q t V ⟨i, hi⟩ = pourL q t x := by
          unfold Go.Proofs.YtkoijhecahebgaaDoor.pourI
          rw [hqi, hx]; rfl
        have h9 := hat ⟨i, hi⟩
        rw [hy, hpi] at h9
        by_cases hf : fitsB key q = true
        · rw [if_pos (fitIx_mem.2 (by rw [hqi]; exact hf))] at h9
          exact .inl ⟨hf, Option.some.inj h9, by rw [← hpi]; exact hno _ (by rw [hqi]; exact hf)⟩
        · rw [if_neg (fun h8 => hf (by rw [← hqi]; exact fitIx_mem.1 h8)), hx] at h9
          exact .inr ⟨by simpa using hf, Option.some.inj h9⟩
      have hok : LvsOk Q (limV Q V t (fitIx Q key Q.length)) := fun i q y hq hy => by
        have hi := (List.getElem?_eq_some_iff.1 hq).1
        obtain ⟨x, hx⟩ := at_lt h.len hi
        have hxo := h.ok i q x hq hx
        rcases hpl i q x y hq hx hy with ⟨_, rfl, h0⟩ | ⟨_, rfl⟩
        · exact (hxo.pour (by have := h.g_ x (List.mem_of_getElem? hx); omega) hm).less h0
        · exact hxo
      refine ⟨hlen, hok, t, Int.le_refl _, hm, fun y hy => ?_, ?_⟩
      · obtain ⟨i, hi⟩ := List.mem_iff_getElem?.1 hy
        have hil := (List.getElem?_eq_some_iff.1 hi).1
        rw [hlen] at hil
        obtain ⟨x, hx⟩ := at_lt h.len hil
        have hq : Q[i]? = some Q[i] := List.getElem?_eq_getElem hil
        rcases hpl i _ x y hq hx hi with ⟨_, rfl, _⟩ | ⟨_, rfl⟩
        · exact Int.le_refl _
        · have := h.g_ y (List.mem_of_getElem? hx); omega
      · show decV Q key Q.length (poured t Q W) = poured t Q (limV Q V t (fitIx Q key Q.length))
        rw [h.pour ht]
        refine list_eq (by rw [decV_len, poured_len h.len, poured_len hlen]) fun i a b ha hb => ?_
        have hil := (List.getElem?_eq_some_iff.1 hb).1
        rw [poured_len hlen] at hil
        obtain ⟨x, hx⟩ := at_lt h.len hil
        obtain ⟨y, hy⟩ := at_lt hlen hil
        have hq : Q[i]? = some Q[i] := List.getElem?_eq_getElem hil
        rw [decV_at Q.length _ i _ _ hq (poured_at hq hx)] at ha
        rw [poured_at hq hy] at hb
        obtain rfl := Option.some.inj ha
        obtain rfl := Option.some.inj hb
        rcases hpl i _ x y hq hx hy with ⟨hf, rfl, h0⟩ | ⟨hf, rfl⟩
        · rw [if_pos ⟨hil, hf⟩]
          have hlo := ((h.ok i _ x hq hx).pour (t := t) (by have := h.g_ x (List.mem_of_getElem? hx); omega) hm).less h0
          exact (pour_self hlo hlo.h1).symm
        · rw [if_neg (by rw [hf]; simp)]
theorem GI.start {Q : List Qt} {t : Int} (hb : ∀ q ∈ Q, bkErr q.s q.a q.e = 0) (h0 : 0 ≤ t) (h1 : t ≤ 3155759999) : GI Q (Q.map (fullL t)) (Q.map (fullL t)) t := by
  have hat : ∀ (i : Nat) q x, Q[i]? = some q → (Q.map (fullL t))[i]? = some x → x = fullL t q := fun i q x hq hx => by
    rw [List.getElem?_map, hq] at hx
    exact (Option.some.inj hx).symm
  have hok : LvsOk Q (Q.map (fullL t)) := fun i q x hq hx => by
    rw [hat i q x hq hx]
    exact LvOk.full (hb q (List.mem_of_getElem? hq)) h0 h1
  refine ⟨by simp, hok, t, Int.le_refl _, h1, fun x hx => ?_, ?_⟩
  · obtain ⟨q, _, rfl⟩ := List.mem_map.1 hx
    exact Int.le_refl _
  · refine list_eq (by rw [poured_len (by simp)]; simp) fun i x y hx hy => ?_
    have hil := (List.getElem?_eq_some_iff.1 hx).1
    rw [List.length_map] at hil
    have hq : Q[i]? = some Q[i] := List.getElem?_eq_getElem hil
    have e := hat i _ x hq hx
    rw [poured_at hq hx] at hy
    obtain rfl := Option.some.inj hy
    have h9 := hok i _ x hq hx
    rw [e] at h9 ⊢
    exact (pour_self h9 h9.h1).symm
end Go.Proofs.YtkoijhecahebgaaDoor

/- What the law of gates wants: what each gate keeps, its tallies, its rates. -/
namespace Go.Proofs.YtkoijhecahebgaaDoor
open Go.RowKit Go.Maps
set_option linter.unusedVariables false
set_option linter.unusedSimpArgs false
theorem Ask_gpK {B : Nat} {w : World} {p n qc lc rb tb m tn : Nat} {qA lA : Option Addr} {RD : DataW Unit} {Q : List Qt} {RT : List RtK} {g : Int} {V : List Lv} {TL : List Tl} (h : GP B w p n qc lc rb tb m tn qA lA RD Q RT g V TL) (t : Int) (id key : ByteArray)
    (hQ : Q.length = n) (hV : V.length = n) (hok : LvsOk Q V) (hn5 : n ≤ 50) (hBz : B ≤ w.heap.size) (hg : ∀ x ∈ V, x.t ≤ g) (hnm : ∀ q ∈ Q, q.name.size ≤ maxLen)
    (hRT : 0 ≤ getR key RT ∧ getR key RT ≤ 1000000) (htn : tn < 1000000) (hTc : ∀ x, 0 ≤ getT x TL ∧ getT x TL ≤ 1000000) (hid : id.size ≤ 200) (hke : keyErr key = 0) (hkl : key.size ≤ maxLen) (hE : momE t g = 0) :
    Calls Tryd.prog 11 #[.pointer (some ⟨p, 0, none⟩), .string id, .string key, .int .i64 t] w fun e w' => e = .returned (askV (askO Q RT V TL id key t).1) ∧
      GP B w' p n qc lc rb tb m (tn + 1) qA lA RD Q RT t (askO Q RT V TL id key t).2.1 (askO Q RT V TL id key t).2.2 ∧ Keep B (fun k => k = p ∨ k = tb ∨ (Value.slice lA n lc).ownBlock = some k) w w' := by
  obtain ⟨TD, hT, hTD⟩ := h.tal
  have hsl : Sl w w.heap.size Qt.cs 5 qA n Q := by
    obtain ⟨A, c, e, hs, _⟩ := sl_of_own (f := Qt.cs) (fun _ => rfl) hQ h.quo
    cases e
    exact hs
  have hbl : ∀ b o, qA = some ⟨b, o, none⟩ → (Value.slice qA n qc).ownBlock = some b := fun b o e => by rw [e]; rfl
  have hqp : 0 < n → ∀ b o, qA = some ⟨b, o, none⟩ → b ≠ p ∧ b ≠ tb := fun _ b o e => ⟨(h.qsep (hbl b o e)).1, (h.qsep (hbl b o e)).2.1⟩
  have hpl : ∀ k, (Value.slice lA n lc).ownBlock = some k → k ≠ p ∧ (0 < n → ∀ b o, qA = some ⟨b, o, none⟩ → b ≠ k) := fun k e => ⟨(h.lsep e).1, fun _ b o e2 e3 => (h.qsep (hbl b o e2)).2.2.2 (by rw [e3]; exact e)⟩
  by_cases c1 : hasR key RT = true ∧ sampledB id (getR key RT) = false
  · have e : askO Q RT V TL id key t = ((1, ⟨#[]⟩, 0), V, incT (key, 1, ⟨#[]⟩) TL) := by rw [askO, if_pos c1]
    rw [e]
    refine (Ask_smp p n qc lc B rb m tb tn qA lA g t id key Q V RT TL RD TD w hQ hV h.box hsl hqp h.lev hpl hok hn5 hBz h.pl h.tl hg hnm h.rat h.rds hRT hT hTD htn hTc hid hke hkl hE c1.1 c1.2).mono ?_
    rintro e w' ⟨rfl, ha⟩
    exact ⟨rfl, h.asked ha, ha.keep⟩
  · have hpass : hasR key RT = true → sampledB id (getR key RT) = true := fun h1 => by
      cases h2 : sampledB id (getR key RT) with
      | true => rfl
      | false => exact absurd ⟨h1, h2⟩ c1
    cases hl : limF Q V key t with
    | some i =>
      have e : askO Q RT V TL id key t = ((2, Q[i].name, 0), V, incT (key, 2, Q[i].name) TL) := by rw [askO, if_neg c1, hl]
      rw [e]
      refine (Ask_lim p n qc lc B rb m tb tn qA lA g t id key Q V RT TL RD TD w hQ hV h.box hsl hqp h.lev hpl hok hn5 hBz h.pl h.tl hg hnm h.rat h.rds hRT hT hTD htn hTc hid hke hkl hE hpass i.val i.isLt hl).mono ?_
      rintro e w' ⟨rfl, ha⟩
      exact ⟨rfl, h.asked ha, ha.keep⟩
    | none =>
      have e : askO Q RT V TL id key t = ((0, ⟨#[]⟩, if hasR key RT = true then 1000000000000 / getR key RT else 1000000), limV Q V t (fitIx Q key Q.length), incT (key, 0, ⟨#[]⟩) TL) := by rw [askO, if_neg c1, hl]
      rw [e]
      refine (Ask_kept p n qc lc B rb m tb tn qA lA g t id key Q V RT TL RD TD w hQ hV h.box hsl hqp h.lev hpl hok hn5 hBz h.pl h.tl hg hnm h.rat h.rds hRT hT hTD htn hTc hid hke hkl hE hpass hl).mono ?_
      rintro e w' ⟨rfl, ha⟩
      exact ⟨rfl, h.asked ha, ha.keep⟩
section
variable {B : Nat} {W W' : World} {p n qc lc rb tb m tn tc : Nat} {qA lA tA : Option Addr} {rv : Value} {RD : DataW Unit} {Q : List Qt} {RT : List RtK} {g t : Int} {V : List Lv} {TL : List Tl}
/-- The program's blocks. -/
def PB (p n qc lc rb tb : Nat) (qA lA : Option Addr) (k : Nat) : Prop := k = p ∨ k = rb ∨ k = tb ∨ (Value.slice qA n qc).ownBlock = some k ∨ (Value.slice lA n lc).ownBlock = some k
/-- The reference's blocks. -/
def RB (p n lc tl tc : Nat) (lA tA : Option Addr) (k : Nat) : Prop := k = p ∨ (Value.slice lA n lc).ownBlock = some k ∨ (Value.slice tA tl tc).ownBlock = some k
theorem GP.keep (h : GP B W p n qc lc rb tb m tn qA lA RD Q RT g V TL) (hk : ∀ k o, PB p n qc lc rb tb qA lA k → W.heap[k]? = some o → W'.heap[k]? = some o) : GP B W' p n qc lc rb tb m tn qA lA RD Q RT g V TL := by
  obtain ⟨D, h1, h2⟩ := h.tal
  obtain ⟨es, ck, ht⟩ := map_blk h1
  obtain ⟨es2, ck2, hr⟩ := map_blk h.rat
  exact ⟨hk p _ (.inl rfl) h.box, own_stay h.quo (fun k o e ho => hk k o (.inr (.inr (.inr (.inl e)))) ho), own_stay h.lev (fun k o e ho => hk k o (.inr (.inr (.inr (.inr e)))) ho),
    ownsMap_block h.rat ((hk rb _ (.inr (.inl rfl)) hr).trans hr.symm), h.rds, ⟨D, ownsMap_block h1 ((hk tb _ (.inr (.inr (.inl rfl))) ht).trans ht.symm), h2⟩, h.pl, h.rl, h.tl, h.ne⟩
theorem GRm.keep (h : GRm B W p n qc lc tc qA lA tA rv g V TL) (hk : ∀ k o, RB p n lc TL.length tc lA tA k → W.heap[k]? = some o → W'.heap[k]? = some o) : GRm B W' p n qc lc tc qA lA tA rv g V TL :=
  ⟨hk p _ (.inl rfl) h.box, own_stay h.lev (fun k o e ho => hk k o (.inr (.inl e)) ho), own_stay h.tal (fun k o e ho => hk k o (.inr (.inr e)) ho), h.pl⟩
theorem GP.lt (h : GP B W p n qc lc rb tb m tn qA lA RD Q RT g V TL) {k : Nat} (hk : PB p n qc lc rb tb qA lA k) : k < W.heap.size := by
  obtain ⟨D, h1, h2⟩ := h.tal
  rcases hk with rfl | rfl | rfl | e | e
  · exact lt_of_block h.box
  · exact h.rat.lt
  · exact h1.lt
  · exact (h.quo.lt k e).2
  · exact (h.lev.lt k e).2
theorem GRm.lt (h : GRm B W p n qc lc tc qA lA tA rv g V TL) {k : Nat} (hk : RB p n lc TL.length tc lA tA k) : k < W.heap.size := by
  rcases hk with rfl | e | e
  · exact lt_of_block h.box
  · exact (h.lev.lt k e).2
  · exact (h.tal.lt k e).2
end
/-- Tallies of i questions. -/
structure TI (TL : List Tl) (i : Nat) : Prop where
  nd : (TL.map Tl.tag).Nodup
  ok : ∀ x ∈ TL, TagOk x.tag
  len : TL.length ≤ i
  many : ∀ x ∈ TL, 0 ≤ x.many ∧ x.many ≤ i
theorem TI.empty : TI [] 0 := ⟨by simp, by simp, Nat.le_refl _, by simp⟩
theorem TI.more {TL : List Tl} {i k : Nat} (h : TI TL i) (hk : i ≤ k) : TI TL k := ⟨h.nd, h.ok, Nat.le_trans h.len hk, fun x hx => by have := h.many x hx; omega⟩
theorem incT_mem {t : Tag} {x : Tl} : ∀ {l : List Tl}, x ∈ incT t l → x ∈ l ∨ (x.tag = t ∧ (x.many = 1 ∨ ∃ y ∈ l, x.many = y.many + 1))
  | [], h => by
    rw [show incT t [] = [mkT t 1] from rfl, List.mem_singleton] at h
    subst h
    exact .inr ⟨rfl, .inl rfl⟩
  | y :: l, h => by
    unfold incT at h
    split at h
    · rcases List.mem_cons.1 h with rfl | h
      · exact .inr ⟨rfl, .inr ⟨y, List.mem_cons_self, rfl⟩⟩
      · exact .inl (List.mem_cons_of_mem _ h)
    · rcases List.mem_cons.1 h with rfl | h
      · exact .inl List.mem_cons_self
      · rcases incT_mem h with h1 | ⟨h1, h2 | ⟨z, hz, h2⟩⟩
        · exact .inl (List.mem_cons_of_mem _ h1)
        · exact .inr ⟨h1, .inl h2⟩
        · exact .inr ⟨h1, .inr ⟨z, List.mem_cons_of_mem _ hz, h2⟩⟩
theorem incT_len (t : Tag) : ∀ l : List Tl, (incT t l).length ≤ l.length + 1
  | [] => by simp [incT]
  | y :: l => by
    unfold incT
    split
    · simp
    · have := incT_len t l
      simp only [List.length_cons]; omega
theorem TI.inc {TL : List Tl} {i : Nat} (h : TI TL i) {t : Tag} (ht : TagOk t) : TI (incT t TL) (i + 1) := by
  refine ⟨incT_nodup h.nd, fun x hx => ?_, by have := incT_len t TL; have := h.len; omega, fun x hx => ?_⟩
  · rcases incT_mem hx with h1 | ⟨h1, _⟩
    · exact h.ok x h1
    · rw [h1]; exact ht
  · rcases incT_mem hx with h1 | ⟨h1, h2 | ⟨y, hy, h2⟩⟩
    · have := h.many x h1; omega
    · omega
    · have := h.many y hy; omega
theorem TI.get {TL : List Tl} {i : Nat} (h : TI TL i) (hi : i ≤ 1000) (t : Tag) : 0 ≤ getT t TL ∧ getT t TL ≤ 1000000 := by
  by_cases hm : t ∈ TL.map Tl.tag
  · obtain ⟨x, hx, rfl⟩ := List.mem_map.1 hm
    rw [getT_mem hx h.nd]
    have := h.many x hx
    omega
  · rw [getT_none hm]; omega
theorem TI.ask {TL : List Tl} {i : Nat} (h : TI TL i) {Q : List Qt} (hn : ∀ q ∈ Q, q.name.size ≤ maxLen) {key : ByteArray} (hk : key.size ≤ maxLen) (RT : List RtK) (V : List Lv) (id : ByteArray) (t : Int) : TI (askO Q RT V TL id key t).2.2 (i + 1) := by
  unfold askO
  split
  · exact h.inc (tag_ok hk (by decide) (by decide) (by decide))
  · split
    · rename_i j _
      exact h.inc (tag_ok hk (hn _ (List.getElem_mem _)) (by decide) (by decide))
    · exact h.inc (tag_ok hk (by decide) (by decide) (by decide))
theorem rt_one {l : List RtK} (h : rtErr l = 0) {i j : Nat} {x y : RtK} (hx : l[i]? = some x) (hy : l[j]? = some y) (e : x.key = y.key) : i = j := by
  have key : ∀ {i j : Nat} {x y : RtK}, l[i]? = some x → l[j]? = some y → x.key = y.key → ¬ i < j := fun {i j x y} hx hy e hij => by
    have h1 : rtErrAt l j = 0 := by
      unfold rtErr at h
      split at h
      · cases h
      · exact firstErr_all h j (List.getElem?_eq_some_iff.1 hy).1
    unfold rtErrAt at h1
    rw [hy] at h1
    dsimp only at h1
    split at h1
    · split at h1
      · cases h1
      · rename_i h2
        apply h2
        rw [List.contains_iff_mem]
        unfold rkOf
        exact List.mem_map.2 ⟨x, List.mem_of_getElem? (i := i) (by rw [List.getElem?_take, if_pos hij]; exact hx), by rw [e]⟩
    · rename_i h2; exact h2 h1
  rcases Nat.lt_trichotomy i j with h1 | h1 | h1
  · exact absurd h1 (key hx hy e)
  · exact h1
  · exact absurd h1 (key hy hx e.symm)
theorem getR_snoc (k : ByteArray) (l : List RtK) (x : RtK) : getR k (l ++ [x]) = if x.key = k then x.keep else getR k l := by
  unfold getR; rw [List.foldl_append]; rfl
theorem getR_of {k : ByteArray} {v : Int} : ∀ (m : Nat) (l : List RtK), l.length = m → (∀ (j : Nat) y, l[j]? = some y → y.key = k → y.keep = v) → (∃ y ∈ l, y.key = k) → getR k l = v
  | 0, l, hl, _, ⟨y, hy, _⟩ => by rw [List.length_eq_zero_iff.1 hl] at hy; cases hy
  | m + 1, l, hl, h, ⟨y, hy, hyk⟩ => by
    have hne : l ≠ [] := by intro e; rw [e] at hl; simp at hl
    have e := (List.dropLast_concat_getLast hne).symm
    obtain ⟨d, hd⟩ : ∃ d, l.dropLast = d := ⟨_, rfl⟩
    obtain ⟨z, hz⟩ : ∃ z, l.getLast hne = z := ⟨_, rfl⟩
    have hdl : d.length = m := by rw [← hd, List.length_dropLast]; omega
    rw [hd, hz] at e
    rw [e] at h hy ⊢
    rw [getR_snoc]
    by_cases hzk : z.key = k
    · rw [if_pos hzk]
      exact h d.length z (by simp) hzk
    · rw [if_neg hzk]
      refine getR_of m d hdl (fun j y hj hk => h j y (by rw [List.getElem?_append_left (List.getElem?_eq_some_iff.1 hj).1]; exact hj) hk) ⟨y, ?_, hyk⟩
      rcases List.mem_append.1 hy with h1 | h1
      · exact h1
      · rw [List.mem_singleton.1 h1] at hyk; exact absurd hyk hzk
theorem rt_un {l : List RtK} (h : rtErr l = 0) (k : Nat) (x : RtK) (hx : l[k]? = some x) : getR x.key l = x.keep ∧ 0 ≤ x.keep ∧ x.keep ≤ 1000000 := by
  refine ⟨getR_of _ l rfl (fun j y hj hk => ?_) ⟨x, List.mem_of_getElem? hx, rfl⟩, rt_keep h hx⟩
  have := rt_one h hj hx hk
  subst this
  rw [hx] at hj
  rw [Option.some.inj hj]
theorem getR_rng {l : List RtK} (h : rtErr l = 0) (k : ByteArray) : 0 ≤ getR k l ∧ getR k l ≤ 1000000 := by
  by_cases hm : ∃ y ∈ l, y.key = k
  · obtain ⟨y, hy, rfl⟩ := hm
    obtain ⟨j, hj⟩ := List.mem_iff_getElem?.1 hy
    have := rt_un h j y hj
    omega
  · have e : ∀ m : List RtK, (∀ y ∈ m, y.key ≠ k) → ∀ v, m.foldl (fun v x => if x.key = k then x.keep else v) v = v := fun m => by
      induction m with
      | nil => intro _ v; rfl
      | cons a m ih =>
        intro hh v
        rw [List.foldl_cons, if_neg (hh a List.mem_cons_self)]
        exact ih (fun y hy => hh y (List.mem_cons_of_mem _ hy)) v
    have : getR k l = 0 := e l (fun y hy hk => hm ⟨y, hy, hk⟩) 0
    omega
theorem rt_len {l : List RtK} (h : rtErr l = 0) : l.length ≤ 200 := by
  by_cases h2 : 200 < l.length
  · rw [rtErr, if_pos h2] at h; cases h
  · omega
theorem qt_ok {Q : List Qt} (h : qtErr Q = 0) : Q.length ≤ 50 ∧ ∀ q ∈ Q, bkErr q.s q.a q.e = 0 := by
  have hl : Q.length ≤ 50 := by
    by_cases h2 : 50 < Q.length
    · rw [qtErr, if_pos h2] at h; cases h
    · omega
  refine ⟨hl, fun q hq => ?_⟩
  obtain ⟨k, hk⟩ := List.mem_iff_getElem?.1 hq
  rw [qtErr, if_neg (by omega)] at h
  have h1 := firstErr_all h k (List.getElem?_eq_some_iff.1 hk).1
  rw [qtErrAt, hk] at h1
  dsimp only at h1
  split at h1
  · split at h1
    · cases h1
    · split at h1
      · exact h1
      · rename_i h2; exact absurd h1 h2
  · cases h1
end Go.Proofs.YtkoijhecahebgaaDoor

/- slices.Equal of levels and of tallies; Levels where it refuses. -/
namespace Go.Proofs.YtkoijhecahebgaaDoor
open Go.RowKit
set_option linter.unusedVariables false
set_option linter.unusedSimpArgs false
set_option maxRecDepth 100000 in
set_option maxHeartbeats 2000000 in
theorem Equal_tl (A : Option Addr) (n c : Nat) (A' : Option Addr) (c' : Nat) (l : List Tl) (w : World) (hn : n ≤ maxLen) (hl : Sl w w.heap.size Tl.cs 4 A n l) (hl' : Sl w w.heap.size Tl.cs 4 A' n l) :
    Calls Tryd.prog 17 #[.slice A n c, .slice A' n c'] w fun e w' => e = .returned (.bool true) ∧ Below w.heap.size w w' := by
  unfold maxLen at hn
  go_enter Tryd.func17, Tryd.ntmps17
  go_wp2_with (fail)
  go_loopw [13] (fun i wr => ∃ j : Nat, j ≤ n ∧ i = .int .i64 j ∧ Below w.heap.size w wr) (fun i _ => n - (intOf i).toNat)
  case atStart => exact ⟨0, Nat.zero_le _, rfl, Below.refl _ _⟩
  case round =>
    obtain ⟨j, hj, rfl, hB⟩ := hrel
    by_cases hlt : j < n
    · obtain ⟨bb, oo, x, rfl, hbb, hx, hc⟩ := (hl.below hB).at_ hlt
      obtain ⟨bb', oo', x', rfl, hbb', hx', hc'⟩ := (hl'.below hB).at_ hlt
      obtain rfl : x = x' := by rw [hx] at hx'; exact Option.some.inj hx'
      have c0 := hc 0 _ rfl
      have d0 := hc' 0 _ rfl
      have c1 := hc 1 _ rfl
      have d1 := hc' 1 _ rfl
      have c2 := hc 2 _ rfl
      have d2 := hc' 2 _ rfl
      have c3 := hc 3 _ rfl
      have d3 := hc' 3 _ rfl
      simp only [Nat.add_zero] at c0 d0
      clear hc hc' hx hx'
      go_wp2_with (go_quiet (fail))
      all_goals first
        | go_roundw
        | skip
      case rel => exact ⟨j + 1, by omega, by go_num, by first | exact hB | exact below_drewN hB _⟩
      case measure => simp [intOf]; omega
    · go_wp2_with (fail)
      go_ret
      exact ⟨rfl, hB⟩
set_option maxRecDepth 100000 in
set_option maxHeartbeats 2000000 in
theorem Equal_lv (A : Option Addr) (n c : Nat) (A' : Option Addr) (c' : Nat) (l : List Lv) (w : World) (hn : n ≤ maxLen) (hl : Sl w w.heap.size Lv.cs 3 A n l) (hl' : Sl w w.heap.size Lv.cs 3 A' n l) :
    Calls Tryd.prog 15 #[.slice A n c, .slice A' n c'] w fun e w' => e = .returned (.bool true) ∧ Below w.heap.size w w' := by
  unfold maxLen at hn
  go_enter Tryd.func15, Tryd.ntmps15
  go_wp2_with (fail)
  go_loopw [13] (fun i wr => ∃ j : Nat, j ≤ n ∧ i = .int .i64 j ∧ Below w.heap.size w wr) (fun i _ => n - (intOf i).toNat)
  case atStart => exact ⟨0, Nat.zero_le _, rfl, Below.refl _ _⟩
  case round =>
    obtain ⟨j, hj, rfl, hB⟩ := hrel
    by_cases hlt : j < n
    · obtain ⟨bb, oo, x, rfl, hbb, hx, hc⟩ := (hl.below hB).at_ hlt
      obtain ⟨bb', oo', x', rfl, hbb', hx', hc'⟩ := (hl'.below hB).at_ hlt
      obtain rfl : x = x' := by rw [hx] at hx'; exact Option.some.inj hx'
      have c0 := hc 0 _ rfl
      have d0 := hc' 0 _ rfl
      have c1 := hc 1 _ rfl
      have d1 := hc' 1 _ rfl
      have c2 := hc 2 _ rfl
      have d2 := hc' 2 _ rfl
      simp only [Nat.add_zero] at c0 d0
      clear hc hc' hx hx'
      go_wp2_with (go_quiet (fail))
      all_goals first
        | go_roundw
        | skip
      case rel => exact ⟨j + 1, by omega, by go_num, by first | exact hB | exact below_drewN hB _⟩
      case measure => simp [intOf]; omega
    · go_wp2_with (fail)
      go_ret
      exact ⟨rfl, hB⟩
theorem Levels_bad (p : Nat) (g t : Int) (w : World) (h3 : w.cell? ⟨p, 3, none⟩ = some (.int .i64 g)) (hE : momE t g ≠ 0) :
    Calls Tryd.prog 14 #[.pointer (some ⟨p, 0, none⟩), .int .i64 t] w fun e w' => e = .returned (.tuple #[.slice none 0 0, .int .i64 (momE t g)]) ∧ w = w' := by
  have C := hide (checkMoment_any p t g w h3)
  have hne : (momE t g == 0) = false := by simpa using hE
  obtain ⟨y, hy⟩ : ∃ y, momE t g = y := ⟨_, rfl⟩
  rw [hy] at C hne ⊢
  go_enter Tryd.func14, Tryd.ntmps14
  go_wp2_with (first | (go_at_call 35; refine (C.out).mono ?_; rintro e w' ⟨rfl, rfl⟩))
  refine bodyPost_ret (by simp [results, Tryd.results14, go_sem]; try rfl) rfl ?_
  exact ⟨rfl, rfl⟩
end Go.Proofs.YtkoijhecahebgaaDoor
