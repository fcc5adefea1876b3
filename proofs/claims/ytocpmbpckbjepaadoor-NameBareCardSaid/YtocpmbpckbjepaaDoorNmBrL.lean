/- Plain law of NameBare: what the names of a symbol and of its bare one are to Demangle, Short and Families. -/
import Derived.Test.YtocpmbpckbjepaaDoorNmFmL
import Derived.Test.YtocpmbpckbjepaaDoorNmGB
namespace Go.Proofs.YtocpmbpckbjepaaDoor
open Go.RowKit
set_option linter.unusedVariables false
set_option linter.unusedSimpArgs false
theorem bare_foldB {f : Nat → Ty → Int × Nat} : ∀ (l : List Part) (st : Nat), (∀ p ∈ l, textE p.1 = 0) → foldE (chkPart f) (l.map bareP) st = (0, st)
  | [], st, _ => rfl
  | p :: l, st, h => by
    have h1 : chkPart f st (bareP p) = (0, st) := by
      unfold chkPart bareP
      rw [if_neg (by simp [h p (by simp)])]
      rfl
    rw [List.map_cons, foldE, h1, if_neg (by simp)]
    exact bare_foldB l st fun q hq => h q (by simp [hq])
theorem bare_chkB {y : Sym} (h : (symE y).1 = 0) : symE (bareS y) = (0, 0) := by
  obtain ⟨g1, g2, g3, _⟩ := sym_good h
  obtain ⟨t1, _⟩ := sym_txt h
  have h1 : chkName (chkTy 12) (y.name.map bareP) 0 = (0, 0) := by
    unfold chkName
    rw [if_neg (by rw [List.length_map]; omega), if_neg (by rw [List.length_map]; omega)]
    exact bare_foldB _ _ fun p hp => (t1 p hp).1
  unfold symE bareS
  simp only [h1]
  rfl
theorem flat_leB {α : Type} {g : α → List UInt8} {k : Nat} : ∀ (l : List α), (∀ a ∈ l, (g a).length ≤ k) → (l.flatMap g).length ≤ k * l.length
  | [], _ => by simp
  | a :: l, h => by
    have h1 := h a (by simp)
    have h2 := flat_leB l fun b hb => h b (by simp [hb])
    rw [List.flatMap_cons, List.length_append, List.length_cons, Nat.mul_add]
    omega
theorem bare_lenB {y : Sym} (h : (symE y).1 = 0) : (mgSym (bareS y)).length ≤ 2000 := by
  obtain ⟨g1, g2, g3, _⟩ := sym_good h
  rw [mgSym_bare]
  have h1 := flat_leB (g := kyPart fun _ => []) (k := 64) (y.name.map bareP) (fun p hp => by
    obtain ⟨q, hq, rfl⟩ := List.mem_map.1 hp
    have h60 := (g1 q hq).1
    have hd := digs_len 10 (by decide) 2 q.1.size (by omega) (by decide)
    have hl : (lenL (bareP q).1).length ≤ 2 := hd
    have hx : (bareP q).1.data.toList.length ≤ 60 := by
      have : (bareP q).1.data.toList.length = q.1.size := by rw [Array.length_toList]; rfl
      omega
    unfold kyPart
    rw [if_pos (show (bareP q).2.length = 0 from rfl), List.append_nil, List.length_append]
    omega)
  rw [List.length_map] at h1
  simp only [List.length_cons, List.length_append, List.length_nil]
  omega
theorem shL_map : ∀ l : List Part, shL (l.map bareP) = shL l
  | [] => rfl
  | [a] => rfl
  | [a, b] => rfl
  | a :: b :: c :: r => by
    have := shL_map (b :: c :: r)
    simpa [shL] using this
theorem kO_bare (y : Sym) : kO (bareS y) = kO y := by
  unfold kO bareS
  simp only [List.flatMap_map]
  rfl
theorem dm_mg {y : Sym} {M : ByteArray} (h : (symE y).1 = 0) (hM : M.data.toList = mgSym y) (hz : M.size ≤ 8000) : dmE M = 0 ∧ dmY M = y ∧ dmN M = 0 := by
  have hd := dSym_mg h [] (by rw [List.append_nil]; exact hM)
  rw [if_pos rfl] at hd
  unfold dmE dmY dmN
  rw [if_neg (by omega), if_neg (by omega), if_neg (by omega), hd]
  exact ⟨h, by simp only; exact if_pos h, rfl⟩
theorem dm_mgZ {y : Sym} {M : ByteArray} (h : (symE y).1 = 0) (hM : M.data.toList = mgSym y) : dmE (M ++ ⟨#[90]⟩) ≠ 0 := by
  unfold dmE
  by_cases h0 : 8000 < (M ++ ⟨#[90]⟩ : ByteArray).size
  · rw [if_pos h0]; decide
  · rw [if_neg h0]
    have hd := dSym_mg (s := M ++ ⟨#[90]⟩) h [90] (by rw [ByteArray.data_append, Array.toList_append, hM])
    rw [if_neg (by simp)] at hd
    rw [hd]
    simp
/-- The families of a symbol's name, its bare one's, and two strings that are none. -/
theorem fam_four {y : Sym} {M K : ByteArray} (h : (symE y).1 = 0) (hM : M.data.toList = mgSym y) (hz : M.size ≤ 8000) (hK : K.data.toList = mgSym (bareS y)) :
    (fmly k1 [M, K, M ++ ⟨#[90]⟩, M ++ ⟨#[90]⟩]).2 = [[0, 1], [2, 3]] := by
  have hb := bare_chkB h
  have hb0 : (symE (bareS y)).1 = 0 := by rw [hb]
  have hKz : K.size ≤ 8000 := by
    have h1 := bare_lenB h
    rw [← hK, strL] at h1
    omega
  obtain ⟨e1, e2, _⟩ := dm_mg h hM hz
  obtain ⟨f1, f2, _⟩ := dm_mg hb0 hK hKz
  have e3 := dm_mgZ h hM
  have a1 : k1 M = kO y := by rw [k1, if_pos e1, e2]
  have a2 : k1 K = kO y := by rw [k1, if_pos f1, f2, kO_bare]
  obtain ⟨Z, hZ⟩ : ∃ Z : ByteArray, M ++ ⟨#[90]⟩ = Z := ⟨_, rfl⟩
  rw [hZ] at e3 ⊢
  have a3 : k1 Z = 61 :: Z.data.toList := by rw [k1, if_neg e3]
  have hne : (kO y == 61 :: Z.data.toList) = false := beq_false_of_ne (kO_head h _)
  have s1 : famStep k1 ([], []) 0 M = ([M], [[0]]) := by
    unfold famStep famIx; simp
  have s2 : famStep k1 ([M], [[0]]) 1 K = ([M], [[0, 1]]) := by
    have hx : famIx k1 [M] K = 0 := by unfold famIx; simp [List.findIdx_cons, a1, a2]
    unfold famStep; simp only [hx]; rfl
  have s3 : famStep k1 ([M], [[0, 1]]) 2 Z = ([M, Z], [[0, 1], [2]]) := by
    have hx : famIx k1 [M] Z = 1 := by unfold famIx; simp [List.findIdx_cons, a1, a3, hne]
    unfold famStep; simp only [hx]; rfl
  have s4 : famStep k1 ([M, Z], [[0, 1], [2]]) 3 Z = ([M, Z], [[0, 1], [2, 3]]) := by
    have hx : famIx k1 [M, Z] Z = 1 := by unfold famIx; simp [List.findIdx_cons, a1, a3, hne]
    unfold famStep; simp only [hx]; rfl
  unfold fmly
  simp only [famGo, s1, s2, s3, s4]
theorem sh_three {y : Sym} {M K : ByteArray} (h : (symE y).1 = 0) (hM : M.data.toList = mgSym y) (hz : M.size ≤ 8000) (hK : K.data.toList = mgSym (bareS y)) :
    shT M = shL y.name ∧ shT K = shL y.name ∧ shT (M ++ ⟨#[90]⟩) = M ++ ⟨#[90]⟩ := by
  have hb := bare_chkB h
  have hb0 : (symE (bareS y)).1 = 0 := by rw [hb]
  have hKz : K.size ≤ 8000 := by
    have h1 := bare_lenB h
    rw [← hK, strL] at h1
    omega
  obtain ⟨e1, e2, _⟩ := dm_mg h hM hz
  obtain ⟨f1, f2, _⟩ := dm_mg hb0 hK hKz
  have e3 := dm_mgZ h hM
  refine ⟨?_, ?_, ?_⟩
  · unfold shT; rw [if_pos e1, e2]
  · unfold shT; rw [if_pos f1, f2]; unfold bareS; simp only [shL_map]
  · unfold shT; rw [if_neg e3]
end Go.Proofs.YtocpmbpckbjepaaDoor
