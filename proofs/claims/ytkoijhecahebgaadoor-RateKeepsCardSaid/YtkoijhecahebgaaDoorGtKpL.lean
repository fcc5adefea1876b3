/- A gate with one quota keeps no more than its bucket had and what came into it: the plain law. -/
import Derived.Test.YtkoijhecahebgaaDoorGtGp
namespace Go.Proofs.YtkoijhecahebgaaDoor
set_option linter.unusedVariables false
set_option linter.unusedSimpArgs false
def qAll (s a e : Int) : Qt := ⟨⟨#[97, 108, 108]⟩, ⟨#[]⟩, s, a, e⟩
theorem fit_all (s a e : Int) (key : ByteArray) : fitIx [qAll s a e] key [qAll s a e].length = [⟨0, Nat.zero_lt_one⟩] := by
  have h : fitsB key (qAll s a e) = true := by
    have : beqT (qAll s a e).key ByteArray.empty = true := rfl
    rw [fitsB, this]; rfl
  have h1 := fitIx_succ (Q := [qAll s a e]) (key := key) (k := 0) Nat.zero_lt_one
  have h2 : fitsB key ([qAll s a e][0]'Nat.zero_lt_one) = true := h
  rw [if_pos h2] at h1
  exact h1
theorem ask_one (s a e : Int) (x : Lv) (TL : List Tl) (id key : ByteArray) (t : Int) :
    askO [qAll s a e] [] [x] TL id key t = if (pourL (qAll s a e) t x).h = 0 then ((2, ⟨#[97, 108, 108]⟩, 0), [x], incT (key, 2, ⟨#[97, 108, 108]⟩) TL) else ((0, ⟨#[]⟩, 1000000), [(pourL (qAll s a e) t x).less], incT (key, 0, ⟨#[]⟩) TL) := by
  have h1 : hasR key [] = false := rfl
  rw [askO, if_neg (by intro h; rw [h1] at h; exact absurd h.1 (by decide))]
  have hf := fit_all s a e key
  have hp : pourI [qAll s a e] t [x] ⟨0, Nat.zero_lt_one⟩ = pourL (qAll s a e) t x := rfl
  by_cases h : (pourL (qAll s a e) t x).h = 0
  · have hl : limF [qAll s a e] [x] key t = some ⟨0, Nat.zero_lt_one⟩ := by
      have hb : noneLeft [qAll s a e] [x] t ⟨0, Nat.zero_lt_one⟩ = true := by unfold noneLeft; rw [hp, h]; rfl
      rw [limF, hf, List.find?_cons, hb]
    rw [hl, if_pos h]; rfl
  · have hl : limF [qAll s a e] [x] key t = none := by
      have hb : noneLeft [qAll s a e] [x] t ⟨0, Nat.zero_lt_one⟩ = false := by unfold noneLeft; rw [hp]; simpa using h
      rw [limF, hf, List.find?_cons, hb]; rfl
    rw [hl, if_neg h, hf]
    simp only [h1]
    rfl
/-- What was kept, and what there is, came out of the bucket and what flowed into it. -/
def Kp (s a e fr c : Int) (x : Lv) : Prop := ∃ P, 0 ≤ P ∧ e * P + x.r = x.t - fr ∧ c + x.h ≤ s + P * a
theorem Kp.start (s a e fr : Int) : Kp s a e fr 0 ⟨s, fr, 0⟩ := ⟨0, by omega, by simp, by simp⟩
theorem Kp.pour {s a e fr c t : Int} {x : Lv} (h : Kp s a e fr c x) (ho : LvOk (qAll s a e) x) (ht : x.t ≤ t) : Kp s a e fr c (pourL (qAll s a e) t x) := by
  obtain ⟨P, h0, h1, h2⟩ := h
  obtain ⟨b1, b2, b3, b4, b5, b6⟩ := ho.bk
  have r0 := ho.r0
  obtain ⟨m, hm⟩ : ∃ m, t - x.t + x.r = m := ⟨_, rfl⟩
  have hd0 : 0 ≤ m / e := Int.ediv_nonneg (by omega) (by show 0 ≤ (qAll s a e).e; omega)
  refine ⟨P + m / e, by omega, ?_, ?_⟩
  · show e * (P + m / e) + (t - x.t + x.r) % e = t - fr
    rw [hm, Int.mul_add]
    have := Int.mul_ediv_add_emod m e
    omega
  · show c + pH s a e x.h x.t x.r t ≤ _
    unfold pH
    rw [hm, Int.add_mul]
    split <;> omega
theorem Kp.less {s a e fr c : Int} {x : Lv} (h : Kp s a e fr c x) : Kp s a e fr (c + 1) x.less := by
  obtain ⟨P, h0, h1, h2⟩ := h
  exact ⟨P, h0, h1, by show c + 1 + (x.h - 1) ≤ _; omega⟩
theorem Kp.done {s a e fr c t : Int} {x : Lv} (h : Kp s a e fr c x) (ho : LvOk (qAll s a e) x) (ht : x.t ≤ t) : c ≤ s + (t - fr) / e * a := by
  obtain ⟨P, h0, h1, h2⟩ := h
  obtain ⟨b1, b2, b3, b4, b5, b6⟩ := ho.bk
  have b5' : 1 ≤ e := b5
  have b3' : 1 ≤ a := b3
  have r0 := ho.r0
  have hh := ho.h0
  have hP : P ≤ (t - fr) / e := by
    rw [Int.le_ediv_iff_mul_le (by omega), Int.mul_comm]
    omega
  have := Int.mul_le_mul_of_nonneg_right hP (show 0 ≤ a by omega)
  omega
/-- What a gate with one quota, asked for one key, has counted. -/
def Tsh (TL : List Tl) (k l : Int) : Prop :=
  (TL = [] ∧ k = 0 ∧ l = 0) ∨ (TL = [mkT (⟨#[107]⟩, 0, ⟨#[]⟩) k] ∧ l = 0 ∧ 1 ≤ k) ∨ (TL = [mkT (⟨#[107]⟩, 2, ⟨#[97, 108, 108]⟩) l] ∧ k = 0 ∧ 1 ≤ l) ∨
  (TL = [mkT (⟨#[107]⟩, 0, ⟨#[]⟩) k, mkT (⟨#[107]⟩, 2, ⟨#[97, 108, 108]⟩) l] ∧ 1 ≤ k ∧ 1 ≤ l) ∨ (TL = [mkT (⟨#[107]⟩, 2, ⟨#[97, 108, 108]⟩) l, mkT (⟨#[107]⟩, 0, ⟨#[]⟩) k] ∧ 1 ≤ k ∧ 1 ≤ l)
theorem tag02 : ¬ ((⟨#[107]⟩, 0, ⟨#[]⟩) : Tag) = (⟨#[107]⟩, 2, ⟨#[97, 108, 108]⟩) := fun h => by
  have := congrArg (fun t : Tag => t.2.1) h
  exact absurd this (by decide)
theorem tag20 : ¬ ((⟨#[107]⟩, 2, ⟨#[97, 108, 108]⟩) : Tag) = (⟨#[107]⟩, 0, ⟨#[]⟩) := fun h => tag02 h.symm
theorem Tsh.kept {TL : List Tl} {k l : Int} (h : Tsh TL k l) : Tsh (incT (⟨#[107]⟩, 0, ⟨#[]⟩) TL) (k + 1) l := by
  rcases h with ⟨rfl, rfl, rfl⟩ | ⟨rfl, rfl, h⟩ | ⟨rfl, rfl, h⟩ | ⟨rfl, h, h'⟩ | ⟨rfl, h, h'⟩
  · exact .inr (.inl ⟨rfl, rfl, by omega⟩)
  · exact .inr (.inl ⟨by simp only [incT, tag_mk, if_true]; rfl, rfl, by omega⟩)
  · exact .inr (.inr (.inr (.inr ⟨by simp only [incT, tag_mk, if_neg tag20]; rfl, by omega, h⟩)))
  · exact .inr (.inr (.inr (.inl ⟨by simp only [incT, tag_mk, if_true]; rfl, by omega, h'⟩)))
  · exact .inr (.inr (.inr (.inr ⟨by simp only [incT, tag_mk, if_neg tag20, if_true]; rfl, by omega, h'⟩)))
theorem Tsh.lim {TL : List Tl} {k l : Int} (h : Tsh TL k l) : Tsh (incT (⟨#[107]⟩, 2, ⟨#[97, 108, 108]⟩) TL) k (l + 1) := by
  rcases h with ⟨rfl, rfl, rfl⟩ | ⟨rfl, rfl, h⟩ | ⟨rfl, rfl, h⟩ | ⟨rfl, h, h'⟩ | ⟨rfl, h, h'⟩
  · exact .inr (.inr (.inl ⟨rfl, rfl, by omega⟩))
  · exact .inr (.inr (.inr (.inl ⟨by simp only [incT, tag_mk, if_neg tag02]; rfl, h, by omega⟩)))
  · exact .inr (.inr (.inl ⟨by simp only [incT, tag_mk, if_true]; rfl, rfl, by omega⟩))
  · exact .inr (.inr (.inr (.inl ⟨by simp only [incT, tag_mk, if_neg tag02, if_true]; rfl, h, by omega⟩)))
  · exact .inr (.inr (.inr (.inr ⟨by simp only [incT, tag_mk, if_true]; rfl, h, by omega⟩)))
theorem Tsh.nd {TL : List Tl} {k l : Int} (h : Tsh TL k l) : (TL.map Tl.tag).Nodup := by
  rcases h with ⟨rfl, rfl, rfl⟩ | ⟨rfl, rfl, h⟩ | ⟨rfl, rfl, h⟩ | ⟨rfl, h, h'⟩ | ⟨rfl, h, h'⟩ <;> simp [tag_mk]
theorem Tsh.ok {TL : List Tl} {k l : Int} (h : Tsh TL k l) : ∀ x ∈ TL, TagOk x.tag := by
  have h1 : TagOk ((⟨#[107]⟩, 0, ⟨#[]⟩) : Tag) := tag_ok (by decide) (by decide) (by decide) (by decide)
  have h2 : TagOk ((⟨#[107]⟩, 2, ⟨#[97, 108, 108]⟩) : Tag) := tag_ok (by decide) (by decide) (by decide) (by decide)
  rcases h with ⟨rfl, rfl, rfl⟩ | ⟨rfl, rfl, h⟩ | ⟨rfl, rfl, h⟩ | ⟨rfl, h, h'⟩ | ⟨rfl, h, h'⟩ <;> intro x hx <;> simp at hx
  · subst hx; exact h1
  · subst hx; exact h2
  · rcases hx with rfl | rfl
    · exact h1
    · exact h2
  · rcases hx with rfl | rfl
    · exact h2
    · exact h1
theorem Tsh.get {TL : List Tl} {k l : Int} (h : Tsh TL k l) (h0 : 0 ≤ k) (h1 : 0 ≤ l) (h2 : k + l ≤ 1000) (t : Tag) : 0 ≤ getT t TL ∧ getT t TL ≤ 1000000 := by
  rcases h with ⟨rfl, rfl, rfl⟩ | ⟨rfl, rfl, h⟩ | ⟨rfl, rfl, h⟩ | ⟨rfl, h, h'⟩ | ⟨rfl, h, h'⟩ <;> simp only [getT, tag_mk, mkT] <;> (try split) <;> (try split) <;> omega
theorem Tsh.many {TL : List Tl} {k l : Int} (h : Tsh TL k l) (h0 : 0 ≤ k) (h1 : 0 ≤ l) (h2 : k + l ≤ 1000) : ∀ x ∈ TL, 0 ≤ x.many ∧ x.many ≤ 1000 ∧ (x.why = 0 → x.many = k) := by
  rcases h with ⟨rfl, rfl, rfl⟩ | ⟨rfl, rfl, h⟩ | ⟨rfl, rfl, h⟩ | ⟨rfl, h, h'⟩ | ⟨rfl, h, h'⟩ <;> intro x hx <;> simp at hx
  · subst hx; exact ⟨by show 0 ≤ k; omega, by show k ≤ 1000; omega, fun _ => rfl⟩
  · subst hx; exact ⟨by show 0 ≤ l; omega, by show l ≤ 1000; omega, fun e => absurd e (by show ¬ (2 : Int) = 0; decide)⟩
  · rcases hx with rfl | rfl
    · exact ⟨by show 0 ≤ k; omega, by show k ≤ 1000; omega, fun _ => rfl⟩
    · exact ⟨by show 0 ≤ l; omega, by show l ≤ 1000; omega, fun e => absurd e (by show ¬ (2 : Int) = 0; decide)⟩
  · rcases hx with rfl | rfl
    · exact ⟨by show 0 ≤ l; omega, by show l ≤ 1000; omega, fun e => absurd e (by show ¬ (2 : Int) = 0; decide)⟩
    · exact ⟨by show 0 ≤ k; omega, by show k ≤ 1000; omega, fun _ => rfl⟩
def sumT (l : List Tl) : Int := (l.map Tl.many).sum
theorem Tsh.sum {TL : List Tl} {k l : Int} (h : Tsh TL k l) : sumT TL = k + l := by
  rcases h with ⟨rfl, rfl, rfl⟩ | ⟨rfl, rfl, h⟩ | ⟨rfl, rfl, h⟩ | ⟨rfl, h, h'⟩ | ⟨rfl, h, h'⟩ <;> simp [sumT, mkT] <;> omega
theorem sumT_perm {l m : List Tl} (h : l.Perm m) : sumT l = sumT m := by
  induction h with
  | nil => rfl
  | cons x _ ih => simp [sumT] at *; omega
  | swap x y l => simp [sumT]; omega
  | trans _ _ ih1 ih2 => exact ih1.trans ih2
theorem sumT_snoc (l : List Tl) (x : Tl) : sumT (l ++ [x]) = sumT l + x.many := by simp [sumT]
theorem Tsh.len {TL : List Tl} {k l : Int} (h : Tsh TL k l) : TL.length ≤ 2 := by
  rcases h with ⟨rfl, rfl, rfl⟩ | ⟨rfl, rfl, h⟩ | ⟨rfl, rfl, h⟩ | ⟨rfl, h, h'⟩ | ⟨rfl, h, h'⟩ <;> simp
end Go.Proofs.YtkoijhecahebgaaDoor
