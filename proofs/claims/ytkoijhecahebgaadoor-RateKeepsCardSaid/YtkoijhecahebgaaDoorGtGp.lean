/- The program's gate in memory, and Ask over it. -/
import Derived.Test.YtkoijhecahebgaaDoorGtAsk
import Derived.Test.YtkoijhecahebgaaDoorGtAskL
import Derived.Test.YtkoijhecahebgaaDoorGtAskK
import Derived.Test.YtkoijhecahebgaaDoorGtNew
namespace Go.Proofs.YtkoijhecahebgaaDoor
open Go.RowKit Go.Maps
set_option linter.unusedVariables false
set_option linter.unusedSimpArgs false
structure GP (B : Nat) (W : World) (p n qc lc rb tb m tn : Nat) (qA lA : Option Addr) (RD : DataW Unit) (Q : List Qt) (RT : List RtK) (g : Int) (V : List Lv) (TL : List Tl) : Prop where
  box : W.heap[p]? = some (.cells #[.slice qA n qc, .slice lA n lc, .map (some rb), .int .i64 g, .map (some tb)] 64 (0, 0))
  quo : W.ownsRow B 58 5 (.slice qA n qc) n (Q.flatMap Qt.cs)
  lev : W.ownsRow B 46 3 (.slice lA n lc) n (V.flatMap Lv.cs)
  rat : W.ownsMap Tryd.prog 9 (plainElem Tryd.prog 3) rb m RD
  rds : MapR RD RT
  tal : ∃ D, W.ownsMap Tryd.prog 81 (plainElem Tryd.prog 3) tb tn D ∧ MapT D TL
  pl : B ≤ p
  rl : B ≤ rb
  tl : B ≤ tb
  ne : rb ≠ tb
section
variable {B : Nat} {W W' : World} {p n qc lc rb tb m tn : Nat} {qA lA : Option Addr} {RD : DataW Unit} {Q : List Qt} {RT : List RtK} {g t : Int} {V V' : List Lv} {TL TL' : List Tl}
theorem map_blk {w : World} {k b n : Nat} {e : TypeId} {D : DataW Unit} (h : w.ownsMap Tryd.prog k (plainElem Tryd.prog e) b n D) : ∃ es ck, w.heap[b]? = some (.map es ck) := by
  obtain ⟨es, ck, hh, _⟩ := (show _ from h)
  exact ⟨es, ck, hh⟩
theorem row_blk {w : World} {base sz n k : Nat} {e : TypeId} {v : Value} {xs : List Value} (h : w.ownsRow base e sz v n xs) (hk : v.ownBlock = some k) : ∃ cur, w.heap[k]? = some (.cells cur e (0, 0)) := by
  rcases h.2 with h1 | ⟨g, cap, cur, q1, q2, q3, q4⟩
  · rw [h1.1] at hk; cases hk
  · rw [q1] at hk
    obtain rfl : g = k := Option.some.inj hk
    exact ⟨cur, q3⟩
theorem GP.made {w : World} (h : Made w W Q RT t p n qc lc rb tb m qA lA RD) : GP w.heap.size W p n qc lc rb tb m 0 qA lA RD Q RT t (Q.map (fullL t)) [] :=
  ⟨h.box, h.quo, h.lev, h.rat, h.rds, ⟨_, h.tal, MapT.empty⟩, h.pl, h.rl, h.tl, h.ne⟩
theorem GP.below (h : GP B W p n qc lc rb tb m tn qA lA RD Q RT g V TL) (hb : Below W.heap.size W W') : GP B W' p n qc lc rb tb m tn qA lA RD Q RT g V TL := by
  obtain ⟨D, h1, h2⟩ := h.tal
  exact ⟨block_below h.box hb, own_below h.quo hb, own_below h.lev hb, h.rat.kept (grown_of_below hb) (by simp), h.rds, ⟨D, h1.kept (grown_of_below hb) (by simp), h2⟩, h.pl, h.rl, h.tl, h.ne⟩
theorem GP.qsep (h : GP B W p n qc lc rb tb m tn qA lA RD Q RT g V TL) {k : Nat} (hk : (Value.slice qA n qc).ownBlock = some k) : k ≠ p ∧ k ≠ tb ∧ k ≠ rb ∧ (Value.slice lA n lc).ownBlock ≠ some k := by
  obtain ⟨cur, hc⟩ := row_blk h.quo hk
  obtain ⟨D, h1, _⟩ := h.tal
  obtain ⟨es, ck, ht⟩ := map_blk h1
  obtain ⟨es2, ck2, hr⟩ := map_blk h.rat
  refine ⟨fun e => ?_, fun e => ?_, fun e => ?_, fun e => ?_⟩
  · rw [e, h.box] at hc; cases hc
  · rw [e, ht] at hc; cases hc
  · rw [e, hr] at hc; cases hc
  · obtain ⟨cur2, hc2⟩ := row_blk h.lev e
    rw [hc2] at hc; cases hc
theorem GP.lsep (h : GP B W p n qc lc rb tb m tn qA lA RD Q RT g V TL) {k : Nat} (hk : (Value.slice lA n lc).ownBlock = some k) : k ≠ p ∧ k ≠ tb ∧ k ≠ rb ∧ (Value.slice qA n qc).ownBlock ≠ some k := by
  obtain ⟨cur, hc⟩ := row_blk h.lev hk
  obtain ⟨D, h1, _⟩ := h.tal
  obtain ⟨es, ck, ht⟩ := map_blk h1
  obtain ⟨es2, ck2, hr⟩ := map_blk h.rat
  refine ⟨fun e => ?_, fun e => ?_, fun e => ?_, fun e => ?_⟩
  · rw [e, h.box] at hc; cases hc
  · rw [e, ht] at hc; cases hc
  · rw [e, hr] at hc; cases hc
  · exact (h.qsep e).2.2.2 hk
theorem GP.msep (h : GP B W p n qc lc rb tb m tn qA lA RD Q RT g V TL) : rb ≠ p ∧ tb ≠ p := by
  obtain ⟨D, h1, _⟩ := h.tal
  obtain ⟨es, ck, ht⟩ := map_blk h1
  obtain ⟨es2, ck2, hr⟩ := map_blk h.rat
  refine ⟨fun e => ?_, fun e => ?_⟩
  · rw [e, h.box] at hr; cases hr
  · rw [e, h.box] at ht; cases ht
theorem GP.asked (h : GP B W p n qc lc rb tb m tn qA lA RD Q RT g V TL) (a : Asked W W' B p n qc lc rb tb tn qA lA t V' TL') : GP B W' p n qc lc rb tb m (tn + 1) qA lA RD Q RT t V' TL' := by
  have hr : W'.heap[rb]? = W.heap[rb]? := by
    obtain ⟨es, ck, hh⟩ := map_blk h.rat
    rw [hh]
    exact a.keep.keep rb _ hh (fun e => by
      rcases e with e | e | e
      · exact h.msep.1 e
      · exact h.ne e
      · exact (h.lsep e).2.2.1 rfl)
  exact ⟨a.box, own_stay h.quo (fun k o e ho => a.keep.keep k o ho (fun e2 => by
      rcases e2 with e2 | e2 | e2
      · exact (h.qsep e).1 e2
      · exact (h.qsep e).2.1 e2
      · exact (h.qsep e).2.2.2 e2)), a.lev, ownsMap_block h.rat hr, h.rds, a.tal, h.pl, h.rl, h.tl, h.ne⟩
end
/-- What Ask answers (where it answers): why, name, weight; levels; tallies. -/
def askO (Q : List Qt) (RT : List RtK) (V : List Lv) (TL : List Tl) (id key : ByteArray) (t : Int) : (Int × ByteArray × Int) × List Lv × List Tl :=
  if hasR key RT = true ∧ sampledB id (getR key RT) = false then ((1, ⟨#[]⟩, 0), V, incT (key, 1, ⟨#[]⟩) TL)
  else match limF Q V key t with
    | some i => ((2, Q[i].name, 0), V, incT (key, 2, Q[i].name) TL)
    | none => ((0, ⟨#[]⟩, if hasR key RT = true then 1000000000000 / getR key RT else 1000000), limV Q V t (fitIx Q key Q.length), incT (key, 0, ⟨#[]⟩) TL)
def askV (o : Int × ByteArray × Int) : Value := .tuple #[.int .i64 o.1, .string o.2.1, .int .i64 o.2.2, .int .i64 0]
theorem Ask_gp {B : Nat} {w : World} {p n qc lc rb tb m tn : Nat} {qA lA : Option Addr} {RD : DataW Unit} {Q : List Qt} {RT : List RtK} {g : Int} {V : List Lv} {TL : List Tl} (h : GP B w p n qc lc rb tb m tn qA lA RD Q RT g V TL) (t : Int) (id key : ByteArray)
    (hQ : Q.length = n) (hV : V.length = n) (hok : LvsOk Q V) (hn5 : n ≤ 50) (hBz : B ≤ w.heap.size) (hg : ∀ x ∈ V, x.t ≤ g) (hnm : ∀ q ∈ Q, q.name.size ≤ maxLen)
    (hRT : 0 ≤ getR key RT ∧ getR key RT ≤ 1000000) (htn : tn < 1000000) (hTc : ∀ x, 0 ≤ getT x TL ∧ getT x TL ≤ 1000000) (hid : id.size ≤ 200) (hke : keyErr key = 0) (hkl : key.size ≤ maxLen) (hE : momE t g = 0) :
    Calls Tryd.prog 11 #[.pointer (some ⟨p, 0, none⟩), .string id, .string key, .int .i64 t] w fun e w' => e = .returned (askV (askO Q RT V TL id key t).1) ∧
      GP B w' p n qc lc rb tb m (tn + 1) qA lA RD Q RT t (askO Q RT V TL id key t).2.1 (askO Q RT V TL id key t).2.2 ∧ Below B w w' := by
  obtain ⟨TD, hT, hTD⟩ := h.tal
  have hsl : Sl w w.heap.size Qt.cs 5 qA n Q := by
    obtain ⟨A, c, e, hs, _⟩ := sl_of_own (f := Qt.cs) (fun _ => rfl) hQ h.quo
    cases e
    exact hs
  have hbl : ∀ b o, qA = some ⟨b, o, none⟩ → (Value.slice qA n qc).ownBlock = some b := fun b o e => by rw [e]; rfl
  have hqp : 0 < n → ∀ b o, qA = some ⟨b, o, none⟩ → b ≠ p ∧ b ≠ tb := fun _ b o e => ⟨(h.qsep (hbl b o e)).1, (h.qsep (hbl b o e)).2.1⟩
  have hpl : ∀ k, (Value.slice lA n lc).ownBlock = some k → k ≠ p ∧ (0 < n → ∀ b o, qA = some ⟨b, o, none⟩ → b ≠ k) := fun k e => ⟨(h.lsep e).1, fun _ b o e2 e3 => (h.qsep (hbl b o e2)).2.2.2 (by rw [e3]; exact e)⟩
  by_cases c1 : hasR key RT = true ∧ sampledB id (getR key RT) = false
  · have e : askO Q RT V TL id key t = ((1, ⟨#[]⟩, 0), V, incT (key, 1, ⟨#[]⟩) TL) := by rw [askO, if_pos c1]
    rw [e]
    refine (Ask_smp p n qc lc B rb m tb tn qA lA g t id key Q V RT TL RD TD w hQ hV h.box hsl hqp h.lev hpl hok hn5 hBz h.pl h.tl hg hnm h.rat h.rds hRT hT hTD htn hTc hid hke hkl hE c1.1 c1.2).mono ?_
    rintro e w' ⟨rfl, ha⟩
    exact ⟨rfl, h.asked ha, ha.keep.be⟩
  · have hpass : hasR key RT = true → sampledB id (getR key RT) = true := fun h1 => by
      cases h2 : sampledB id (getR key RT) with
      | true => rfl
      | false => exact absurd ⟨h1, h2⟩ c1
    cases hl : limF Q V key t with
    | some i =>
      have e : askO Q RT V TL id key t = ((2, Q[i].name, 0), V, incT (key, 2, Q[i].name) TL) := by rw [askO, if_neg c1, hl]
      rw [e]
      refine (Ask_lim p n qc lc B rb m tb tn qA lA g t id key Q V RT TL RD TD w hQ hV h.box hsl hqp h.lev hpl hok hn5 hBz h.pl h.tl hg hnm h.rat h.rds hRT hT hTD htn hTc hid hke hkl hE hpass i.val i.isLt hl).mono ?_
      rintro e w' ⟨rfl, ha⟩
      exact ⟨rfl, h.asked ha, ha.keep.be⟩
    | none =>
      have e : askO Q RT V TL id key t = ((0, ⟨#[]⟩, if hasR key RT = true then 1000000000000 / getR key RT else 1000000), limV Q V t (fitIx Q key Q.length), incT (key, 0, ⟨#[]⟩) TL) := by rw [askO, if_neg c1, hl]
      rw [e]
      refine (Ask_kept p n qc lc B rb m tb tn qA lA g t id key Q V RT TL RD TD w hQ hV h.box hsl hqp h.lev hpl hok hn5 hBz h.pl h.tl hg hnm h.rat h.rds hRT hT hTD htn hTc hid hke hkl hE hpass hl).mono ?_
      rintro e w' ⟨rfl, ha⟩
      exact ⟨rfl, h.asked ha, ha.keep.be⟩
end Go.Proofs.YtkoijhecahebgaaDoor
