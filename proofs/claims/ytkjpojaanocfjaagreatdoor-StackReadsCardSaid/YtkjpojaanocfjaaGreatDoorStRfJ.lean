/- The inner loop of the reference's inner, by itself (printed by gen_fi7.py). -/
import Derived.Test.YtkjpojaanocfjaaGreatDoorStRfO
import Derived.Deep.Cut
import Derived.Deep.CutRange
import Derived.Deep.CutBlock
namespace Go.Proofs.YtkjpojaanocfjaaGreatDoor
open Go.RowKit
set_option linter.unusedVariables false
set_option linter.unusedSimpArgs false
/-- What the line of a fault must begin with. -/
def preOf (l : List FaultT) : ByteArray := if l.length = 0 then ⟨#[]⟩ else preCaused
theorem preOf_cons (l : List FaultT) (x : FaultT) : preOf (l ++ [x]) = preCaused := by unfold preOf; rw [if_neg (by simp)]
/-- A line that shows too many, or other, frames. -/
theorem shr_few {last : Option (List Frame)} {fs : List Frame} {first line : Nat} {q : Int} (h0 : 0 ≤ q) (h : q < 2 ∨ last = none ∨ ∃ o, last = some o ∧ (o.length : Int) < q) : (shrN last fs first line q).1 = line := by
  unfold shrN
  rw [if_pos h0]
  cases last with
  | none => rfl
  | some o =>
    simp only
    rcases h with h | h | ⟨o', e, h⟩
    · rw [if_pos h]
    · cases h
    · obtain rfl := Option.some.inj e
      by_cases h2 : q < 2
      · rw [if_pos h2]
      · rw [if_neg h2, if_pos h]
theorem shr_some {o fs : List Frame} {first line q : Nat} (h2 : 2 ≤ q) (h3 : q ≤ o.length) : shrN (some o) fs first line (q : Int) = (if sharedN o (fs ++ o.drop (o.length - q)) = q then 0 else line, fs ++ o.drop (o.length - q)) := by
  unfold shrN
  rw [if_pos (by omega)]
  simp only
  rw [if_neg (by omega), if_neg (by omega)]
  simp only [Int.toNat_natCast, Int.natCast_inj]
theorem shr_none {fs : List Frame} {first line : Nat} : shrN none fs first line (-1) = (0, fs) := by unfold shrN; rw [if_neg (by decide)]
theorem shr_minus {o fs : List Frame} {first line : Nat} : shrN (some o) fs first line (-1) = (if 2 ≤ sharedN o fs then first + fs.length - sharedN o fs else 0, fs) := by unfold shrN; rw [if_neg (by decide)]
/-- The first loop of a code. -/
def firstLoop : Code → Option Code
  | .loop c => some c
  | .seq a b => match firstLoop a with
    | some c => some c
    | none => firstLoop b
  | .block _ c => firstLoop c
  | .scope c => firstLoop c
  | .cond _ a b => match firstLoop a with
    | some c => some c
    | none => firstLoop b
  | _ => none
noncomputable def innBody : Code := (((Tryz.f14.body.bind firstLoop).bind firstLoop).getD .skip)
set_option maxRecDepth 1000000 in
set_option maxHeartbeats 32000000 in
theorem innL {bb oo n c k lc : Nat} {L : List ByteArray} {t X Y : ByteArray} {lA : Option Addr} {l : List FaultT} {RR : RdR} {RF : Bool × Nat × List Frame} {w wo w1 ws : World} {j0 : TypeInfo} {J K' : Act → World → Prop} {Q0 : Exit → Act → World → Prop}
    {x2 x3 x4 x5 x8 x9 x10 x12 x15 x16 x17 x18 x19 x20 x21 x22 x23 x24 x25 x26 x27 x28 x29 x30 x31 x32 x33 x34 x35 x36 x37 x38 x39 x40 x41 x42 x43 x44 x45 x46 x47 x48 x49 x50 x51 x52 x53 x54 x55 x56 x57 x58 x59 x60 x61 x62 x63 x64 x65 x66 x67 x68 x69 x70 x71 x72 x73 x74 x75 x76 x77 x78 x79 x80 x81 x82 x83 x84 x85 x86 x87 x88 x89 x90 x91 x92 x93 x94 x95 x96 x97 x98 x99 x100 x101 x102 x103 x104 x105 x106 x107 x108 x109 x110 x111 x112 x113 x114 x115 x116 x117 x118 x119 x120 x121 x122 x123 x124 x125 x126 x127 x128 x129 x130 x131 x132 x133 x134 x135 x136 x137 x138 x139 x140 x141 x142 x143 x144 x145 x146 x147 x148 x149 x150 x151 x152 x153 x154 x155 x156 x157 x158 x159 x160 x161 x162 x163 x164 x165 x166 x167 x168 x169 x170 x171 x172 x173 x174 x175 x176 x177 x178 x179 x180 x181 x182 x183 x184 x185 x186 x187 x188 x189 x190 x191 x192 x193 x194 x195 x196 x197 x198 x199 x200 x201 x202 x203 x204 x205 x206 x207 x208 x209 x210 x211 x212 x213 x214 x215 x216 x217 x218 x219 x220 x221 x222 x223 x224 x225 x226 : Value}
    (H0 : Hid (Lns w.heap.size bb oo n L w)) (htl : t.size ≤ 1000000) (hn : n ≤ 1000000) (HLEN : Hid (L.length = n)) (HRK : Hid (innR L t (L.length - k + 1) k (l.map FaultT.flt) (preOf l) = RR))
    (hz1 : w.heap.size ≤ w1.heap.size) (HB1 : Hid (Below w.heap.size w w1)) (HF : Hid (Fts w.heap.size wo (.slice lA l.length lc) l)) (HT1 : Hid (Fts w.heap.size w1 (.slice lA l.length lc) l)) (hll : Hid (∀ x ∈ l, x.frs.length ≤ k)) (hlk : l.length ≤ k) (hk : k < n)
    (zx : X.size ≤ 1000000) (zy : Y.size ≤ 1000000)
    (HSTEP : Hid (innStep L t k (l.map FaultT.flt) (preOf l) = if RF.1 then innTail L t (k + 2) X Y RF.2.1 RF.2.2 (l.map FaultT.flt) else .inl (none, RF.2.1 + 1)))
    (HRF : Hid (frsFrom L preAt (L.length - (k + 1)) (k + 1) [] = RF))
    (hj0 : Tryz.prog.info? 43 = some j0) (jz0 : j0.zero = some (.agg #[.string ByteArray.empty, .string ByteArray.empty, .string ByteArray.empty, .int .i64 0, .int .i64 0, .bool false])) (jz1 : j0.size = 6) (jz2 : j0.bytes = 72)
    (HFB0 : Hid (FBox w1.heap.size X Y (.slice none 0 0) [] ws)) (HB0 : Hid (Below w1.heap.size w1 ws))
    (hP : ∀ c a a' w', a'.defers = a.defers → Q0 (.panic c) a' w' → Q0 (.panic c) a w')
    (aJ : ∀ a' w', (∃ u4 u5 u7 u14 u15 u16 u17 u18 u19 u20 u21 u22 u23 u24 u26 u27 u28 u29 u30 u31 u32 u33 u34 u35 u36 u37 u38 u39 u40 u41 u42 u43 u44 u45 u46 u47 u48 u49 u50 u51 u52 u53 u54 u55 u56 u57 u58 u59 u60 u61 u62 u63 u64 u65 u66 u67 u68 u69 u70 u71 u72 u73 u74 u75 u76 u77 u78 u79 u80 u81 u82 u83 u84 u85 u86 u87 u88 u89 u90 u91 u92 u93 u94 u95 u96 u97 u98 u99 u100 u101 u102 u103 u104 u105 u106 u107 u108 u109 u110 u111 u112 u113 u114 u115 u116 u117 u118 u119 u120 u121 u122 u123 u124 u125 u126 u127 u128 u129 u130 u131 u132 u133 u134 u135 u136 u137 u138 u139 u140 u141 u142 u143 u144 u145 u146 u147 u148 u149 u150 u151 u152 u153 u154 u155 u156 u157 u158 u159 u160 u161 u162 u163 u164 u165 u166 u167 u168 u169 u170 u171 u172 u173 u174 u175 u176 u177 u178 u179 u180 u181 : Value, (∃ (k1 : Nat) (fs : List Frame) (v : Value) (gn : Int), u7 = .int .i64 (k1 : Int) ∧ u14 = .int .i64 gn ∧ k1 ≤ n ∧ k + 1 ≤ k1 ∧ FBox w1.heap.size X Y v fs w' ∧ Below w1.heap.size w1 w' ∧ ((gn = -1 ∧ fs.length + (k + 1) ≤ k1 ∧ begK L k1 preDots = false ∧ innStep L t k (l.map FaultT.flt) (preOf l) = innTail L t (k + 2) X Y k1 fs (l.map FaultT.flt)) ∨ (∃ g : Nat, gn = (g : Int) ∧ fs.length ≤ k1 ∧ innStep L t k (l.map FaultT.flt) (preOf l) = .inr (k1, l.map FaultT.flt ++ [⟨X, Y, fs⟩])))) ∧ a' = ⟨#[.slice (some ⟨bb, oo, none⟩) n c, .string t, x2, x3, u4, u5, .slice lA l.length lc, u7, x8, x9, x10, .pointer (some ⟨w1.heap.size, 0, none⟩), x12, .int .i64 (k : Int), u14, u15, u16, u17, u18, u19, u20, u21, u22, u23, u24, x25, u26, u27, u28, u29, u30, u31, u32, u33, u34, u35, u36, u37, u38, u39, u40, u41, u42, u43, u44, u45, u46, u47, u48, u49, u50, u51, u52, u53, u54, u55, u56, u57, u58, u59, u60, u61, u62, u63, u64, u65, u66, u67, u68, u69, u70, u71, u72, u73, u74, u75, u76, u77, u78, u79, u80, u81, u82, u83, u84, u85, u86, u87, u88, u89, u90, u91, u92, u93, u94, u95, u96, u97, u98, u99, u100, u101, u102, u103, u104, u105, u106, u107, u108, u109, u110, u111, u112, u113, u114, u115, u116, u117, u118, u119, u120, u121, u122, u123, u124, u125, u126, u127, u128, u129, u130, u131, u132, u133, u134, u135, u136, u137, u138, u139, u140, u141, u142, u143, u144, u145, u146, u147, u148, u149, u150, u151, u152, u153, u154, u155, u156, u157, u158, u159, u160, u161, u162, u163, u164, u165, u166, u167, u168, u169, u170, u171, u172, u173, u174, u175, u176, u177, u178, u179, u180, u181, x182, x183, x184, x185, x186, x187, x188, x189, x190, x191, x192, x193, x194, x195, x196, x197, x198, x199, x200, x201, x202, x203, x204, x205, x206, x207, x208, x209, x210, x211, x212, x213, x214, x215, x216, x217, x218, x219, x220, x221, x222, x223, x224, x225, x226], []⟩) → J a' w')
    (aK : ∀ a' w', Met J a' w' → K' a' w')
    (aQ : ∀ a' w', bodyPost Tryz.prog Tryz.f14 (fun e w' => RfOut w.heap.size RR e w' ∧ Below w.heap.size w w') .ret a' w' → Q0 .ret a' w') :
    Code.wp Tryz.prog (Code.loop innBody) (Exit.inBlock 2 (Exit.then K' Q0)) ⟨#[.slice (some ⟨bb, oo, none⟩) n c, .string t, x2, x3, x4, x5, .slice lA l.length lc, .int .i64 ((k : Int) + 1), x8, x9, x10, .pointer (some ⟨w1.heap.size, 0, none⟩), x12, .int .i64 (k : Int), .int .i64 (-1), x15, x16, x17, x18, x19, x20, x21, x22, x23, x24, x25, x26, x27, x28, x29, x30, x31, x32, x33, x34, x35, x36, x37, x38, x39, x40, x41, x42, x43, x44, x45, x46, x47, x48, x49, x50, x51, x52, x53, x54, x55, x56, x57, x58, x59, x60, x61, x62, x63, x64, x65, x66, x67, x68, x69, x70, x71, x72, x73, x74, x75, x76, x77, x78, x79, x80, x81, x82, x83, x84, x85, x86, x87, x88, x89, x90, x91, x92, x93, x94, x95, x96, x97, x98, x99, x100, x101, x102, x103, x104, x105, x106, x107, x108, x109, x110, x111, x112, x113, x114, x115, x116, x117, x118, x119, x120, x121, x122, x123, x124, x125, x126, x127, x128, x129, x130, x131, x132, x133, x134, x135, x136, x137, x138, x139, x140, x141, x142, x143, x144, x145, x146, x147, x148, x149, x150, x151, x152, x153, x154, x155, x156, x157, x158, x159, x160, x161, x162, x163, x164, x165, x166, x167, x168, x169, x170, x171, x172, x173, x174, x175, x176, x177, x178, x179, x180, x181, x182, x183, x184, x185, x186, x187, x188, x189, x190, x191, x192, x193, x194, x195, x196, x197, x198, x199, x200, x201, x202, x203, x204, x205, x206, x207, x208, x209, x210, x211, x212, x213, x214, x215, x216, x217, x218, x219, x220, x221, x222, x223, x224, x225, x226], []⟩ ws := by
  conv => arg 2; arg 1; whnf
  dsimp only at aJ ⊢
  go_loopw [7, 14] (fun i gone wr2 => ∃ (k1 : Nat) (fs : List Frame) (v : Value) (gn : Int), i = .int .i64 (k1 : Int) ∧ gone = .int .i64 gn ∧ k1 ≤ n ∧ k + 1 ≤ k1 ∧ FBox w1.heap.size X Y v fs wr2 ∧ Below w1.heap.size w1 wr2 ∧ ((gn = -1 ∧ fs.length + (k + 1) ≤ k1 ∧ frsFrom L preAt (L.length - k1) k1 fs = RF) ∨ (∃ g : Nat, gn = (g : Int) ∧ fs.length ≤ k1 ∧ innStep L t k (l.map FaultT.flt) (preOf l) = .inr (k1, l.map FaultT.flt ++ [⟨X, Y, fs⟩])))) (fun i _ _ => n - (intOf i).toNat)
  case atStart => exact ⟨k + 1, [], _, -1, by go_num, rfl, by omega, by omega, HFB0.out, HB0.out, .inl ⟨rfl, by simp, HRF.out⟩⟩
  case round =>
    obtain ⟨k1, fs, v, gn, rfl, rfl, hk1n, hkk1, hF2, hK2, hph⟩ := hrel
    obtain ⟨A2, c2, rfl⟩ := own_sl hF2.row
    have HF2 := hide hF2
    have HK2 := hide hK2
    have HB2 := hide (HB1.out.trans (hK2.mono hz1))
    have HLN2 := hide (H0.out.up HB2.out)
    have hz2 := hK2.size
    have hF2lt := hF2.lt
    have HPH := hide hph
    obtain ⟨BV, hBV⟩ : ∃ BV, (begK L k1 preAt || begK L k1 preDots) = BV := ⟨_, rfl⟩
    have HBV := hide hBV
    clear hF2 hK2 hph hBV
    go_upto_region 18 with (fail)
    go_cut [81] from 81 to 81 (fun b wx => wx = wr ∧ b = .bool (BV && decide (gn < 0)))
    case first =>
      by_cases hk1 : k1 < n
      · skip
        obtain ⟨x, hx, hxs, c1⟩ := HLN2.out.line hk1
        have hk1i : (k1 : Int) < (n : Int) := by omega
        have hbh := fun W => behind_any x W
        have hbv : (hasP x preAt || hasP x preDots) = BV := by rw [← HBV.out, begK_at hx, begK_at hx]
        simp only [hbv] at hbh
        have HBH := hide hbh
        clear hbh hbv hx HBV
        cases BV
        · go_wp2_with (first | (go_at_call 29; ((with_reducible refine (HBH.out _).mono ?_); rintro e wz ⟨rfl, hwz⟩; have hwz := hwz.symm; subst hwz; clear HBH)) | fail)
          go_meet
          exact ⟨rfl, rfl⟩
        · go_wp2_with (first | (go_at_call 29; ((with_reducible refine (HBH.out _).mono ?_); rintro e wz ⟨rfl, hwz⟩; have hwz := hwz.symm; subst hwz; clear HBH)) | fail)
          go_meet
          exact ⟨rfl, by simp⟩
      · skip
        have hbf : BV = false := by rw [← HBV.out, begK_out (by have := HLEN.out; omega), begK_out (by have := HLEN.out; omega)]; rfl
        have HBF := hide hbf
        have hk1i : ¬ (k1 : Int) < (n : Int) := by omega
        clear hbf
        go_wp2_with (fail)
        go_meet
        exact ⟨rfl, by rw [HBF.out]; rfl⟩
    case rest =>
      obtain ⟨hw9, rfl⟩ := hcut
      subst hw9
      obtain ⟨wr, hwr9⟩ : ∃ wr9, wr9 = wc := ⟨_, rfl⟩
      subst hwr9
      by_cases hgo : BV = true ∧ gn < 0
      · skip
        obtain ⟨hb1, hg1⟩ := hgo
        obtain ⟨hgm, hfs, hR2⟩ : gn = -1 ∧ fs.length + (k + 1) ≤ k1 ∧ frsFrom L preAt (L.length - k1) k1 fs = RF := by
          rcases HPH.out with h | ⟨g, h1, _⟩
          · exact h
          · exfalso; omega
        have hk1 : k1 < n := by
          have h9 := HBV.out
          rw [hb1, Bool.or_eq_true] at h9
          have h8 := HLEN.out
          rcases h9 with h9 | h9
          · have := begK_lt h9; omega
          · have := begK_lt h9; omega
        have hbv : (BV && decide (gn < 0)) = true := by rw [hb1, decide_eq_true hg1]; rfl
        rw [hbv]
        have HR2 := hide hR2
        clear hR2 hg1 HPH hbv
        subst hgm
        obtain ⟨x, hx, hxs, c1⟩ := HLN2.out.line hk1
        have hk1i : (k1 : Int) < (n : Int) := by omega
        have hk1b : ((k1 : Int) == (n : Int)) = false := by rw [beq_eq_false_iff_ne]; omega
        have hba := begK_at (pre := preAt) hx
        have hbd := begK_at (pre := preDots) hx
        cases ha : hasP x preAt
        · rw [ha] at hba
          have hd : hasP x preDots = true := by
            have h9 := HBV.out
            rw [hb1, hba, hbd] at h9
            simpa using h9
          rw [hd] at hbd
          clear HBV hb1
          have hcat : ∀ W, Calls Tryz.prog 27 #[.string x, .string ⟨#[32, 32, 32, 32, 97, 116, 32]⟩] W fun e w' => e = .returned (.tuple #[.string x, .bool false]) ∧ w' = W := fun W => by
            have h9 := Tryz.strings_CutPrefix x ⟨#[32, 32, 32, 32, 97, 116, 32]⟩ W
            rw [hasP_none (pre := ⟨#[32, 32, 32, 32, 97, 116, 32]⟩) ha, show Lib.hasPrefix x.data.toList (⟨#[32, 32, 32, 32, 97, 116, 32]⟩ : ByteArray).data.toList = false from ha] at h9
            exact h9
          have hcdo : ∀ W, Calls Tryz.prog 27 #[.string x, .string ⟨#[32, 32, 32, 32, 46, 46, 46, 32]⟩] W fun e w' => e = .returned (.tuple #[.string (lineR L k1 preDots), .bool true]) ∧ w' = W := fun W => by
            have h9 := Tryz.strings_CutPrefix x ⟨#[32, 32, 32, 32, 46, 46, 46, 32]⟩ W
            rw [hasP_drop (pre := ⟨#[32, 32, 32, 32, 46, 46, 46, 32]⟩) hd, show Lib.hasPrefix x.data.toList (⟨#[32, 32, 32, 32, 46, 46, 46, 32]⟩ : ByteArray).data.toList = true from hd] at h9
            rw [lineR_at hx]
            exact h9
          have hzd : (lineR L k1 preDots).size ≤ 1000000 := by rw [lineR_at hx, ByteArray.size_extract]; omega
          have hcs : ∀ W, Calls Tryz.prog 31 #[.string (lineR L k1 preDots), .string ⟨#[32, 109, 111, 114, 101]⟩] W fun e w' => e = .returned (.tuple #[.string (dotS L k1), .bool (Lib.hasSuffix (lineR L k1 preDots).data.toList sfxMore.data.toList)]) ∧ w' = W := fun W => Tryz.strings_CutSuffix (lineR L k1 preDots) ⟨#[32, 109, 111, 114, 101]⟩ W (by omega)
          have hzs : (dotS L k1).size ≤ 1000000 := by
            have h1 := trimS_le (lineR L k1 preDots).data.toList sfxMore.data.toList
            have h2 := len_size' (lineR L k1 preDots)
            have h3 : (dotS L k1).size = (Lib.trimSuffix (lineR L k1 preDots).data.toList sfxMore.data.toList).length := rfl
            omega
          have hnm := fun W => rnumber_10 (dotS L k1) 3 W (by decide) (by omega)
          have hdk : dotK L k1 = (Lib.hasSuffix (lineR L k1 preDots).data.toList sfxMore.data.toList && numK 10 3 (dotS L k1)) := rfl
          have hdn : dotN L k1 = numO 10 3 (dotS L k1) := rfl
          have hpos := numO_pos 10 3 (dotS L k1)
          obtain ⟨D, hD⟩ : ∃ D, lineR L k1 preDots = D := ⟨_, rfl⟩
          obtain ⟨DS, hDS⟩ : ∃ DS, dotS L k1 = DS := ⟨_, rfl⟩
          obtain ⟨I1, hI1⟩ : ∃ I1, Lib.hasSuffix D.data.toList sfxMore.data.toList = I1 := ⟨_, rfl⟩
          obtain ⟨I2, hI2⟩ : ∃ I2, numK 10 3 DS = I2 := ⟨_, rfl⟩
          obtain ⟨MN, hMN⟩ : ∃ MN, numO 10 3 DS = MN := ⟨_, rfl⟩
          simp only [hD, hDS, hI1, hI2, hMN] at hcdo hdk hdn hcs hnm hzd hzs hpos
          have HCAT := hide hcat
          have HCDO := hide hcdo
          have HCS := hide hcs
          have HNM := hide hnm
          have HT := hide (show innStep L t k (l.map FaultT.flt) (preOf l) = innTail L t (k + 2) X Y k1 fs (l.map FaultT.flt) by rw [HSTEP.out, ← HR2.out, frs_stop hba]; rfl)
          clear hcat hcdo hcs hnm hD hDS hI1 hI2 hMN ha hd hba hx
          go_upto_region 29 with (first | (go_at_call 27; ((with_reducible refine (HCAT.out _).mono ?_); rintro e wz ⟨rfl, hwz⟩; have hwz := hwz.symm; subst hwz; clear HCAT)) | (go_at_call 27; ((with_reducible refine (HCDO.out _).mono ?_); rintro e wz ⟨rfl, hwz⟩; have hwz := hwz.symm; subst hwz; clear HCDO)) | (go_at_call 31; refine (HCS.out _).mono ?_; rintro e wz ⟨rfl, hwz⟩; have hwz := hwz.symm; subst hwz; clear HCS) | (go_at_call 32; refine (HNM.out _).mono ?_; rintro e w6 ⟨rfl, hw6⟩; clear HNM; have HF6 := hide (HF2.out.below hw6); have HK6 := hide (HK2.out.trans (hw6.mono hz2)); have HB6 := hide (HB2.out.trans (hw6.mono HB2.out.size)); have hz6 := HK6.out.size; clear hw6) | fail)
          go_cut [6, 21, 23, 155] from 84 to 155 (fun s6 s21 s23 b wx => wx = w6 ∧ s6 = .slice lA l.length lc ∧ ∃ B : Bool, b = .bool B ∧ (B = false ↔ (I1 = true ∧ I2 = true ∧ ¬ MN < 2 ∧ ∃ o, lastT l = some o ∧ MN ≤ (o.length : Int))))
          case first =>
            cases I1
            · skip
              go_wp2_with (fail)
              go_meet
              exact ⟨rfl, rfl, true, rfl, by simp⟩
            · cases I2
              · skip
                go_wp2_with (fail)
                go_meet
                exact ⟨rfl, rfl, true, rfl, by simp⟩
              · by_cases hm2 : MN < 2
                · skip
                  go_wp2_with (fail)
                  go_meet
                  refine ⟨rfl, rfl, true, rfl, ?_⟩
                  constructor
                  · intro h; cases h
                  · rintro ⟨_, _, h, _⟩; exact absurd hm2 (by omega)
                · by_cases hl0 : l.length = 0
                  · skip
                    have hln : l = [] := List.eq_nil_of_length_eq_zero hl0
                    have hlT : lastT l = none := by rw [hln]; rfl
                    have hli : ((l.length : Int) == 0) = true := by rw [beq_iff_eq]; omega
                    have hli2 : ¬ (0 : Int) < (l.length : Int) := by omega
                    clear hln hl0
                    go_wp2_with (fail)
                    go_meet
                    exact ⟨rfl, rfl, true, rfl, by rw [hlT]; simp⟩
                  · skip
                    obtain ⟨m, hlm⟩ : ∃ m, l.length = m + 1 := ⟨l.length - 1, by omega⟩
                    obtain ⟨lg, lcap, lcur, hlv, _, _, _, _, _, _⟩ := own_blk HF.out.out (by omega)
                    simp at hlv
                    obtain ⟨rfl, rfl⟩ := hlv
                    obtain ⟨⟨xk, xt, XA, xn, xc, xfr⟩, hxm⟩ : ∃ xl, l[m]? = some xl := ⟨_, List.getElem?_eq_getElem (by omega)⟩
                    have hxl : l.getLast? = some ⟨xk, xt, XA, xn, xc, xfr⟩ := by rw [List.getLast?_eq_getElem?, hlm]; simpa using hxm
                    have hlT : lastT l = some xfr := by unfold lastT; rw [hxl]; rfl
                    have HLL := hide hlm
                    rw [hlm]
                    have hli : (((m : Int) + 1) == 0) = false := by rw [beq_eq_false_iff_ne]; omega
                    have hli2 : (0 : Int) < (m : Int) + 1 := by omega
                    have hlm2 : m + 1 ≤ k := by omega
                    have hwm : IntKind.i64.wrap (m : Int) = (m : Int) := IntWalk.i64_in _ (by omega)
                    have hlm3 : (m : Int) < (m : Int) + 1 := by omega
                    have HCL := hide (show ∀ W, Below w1.heap.size w1 W → W.cell? ⟨lg, m * 3 + 2, none⟩ = some (.slice XA xn xc) ∧ Sl W w1.heap.size Frame.cs 6 XA xn xfr from fun W hb => by
                      have hp := HT1.out.pass (KeepB.of_below hb (Nat.le_refl _) (Nat.le_refl _)) (.inr (Nat.le_refl _))
                      refine ⟨?_, (hp.2 _ hxl).1⟩
                      obtain ⟨b9, o9, e9, _, hc9⟩ := hp.1.cells (by omega)
                      simp at e9
                      obtain ⟨rfl, rfl⟩ := e9
                      have h9 := hc9 m _ hxm 2 _ rfl
                      simpa using h9)
                    have hxok := (HT1.out.pass (KeepB.refl _ _ _) (.inr (Nat.le_refl _))).2 _ hxl
                    have hxnc : xn ≤ xc := hxok.2.nc
                    have hxff : FramesFit xfr := hxok.2.ff
                    have hxL : xfr.length = xn := hxok.1.len
                    have hxk : xfr.length ≤ k := hll.out _ (List.mem_of_getElem? hxm)
                    clear hxok hlm hl0
                    obtain ⟨cl6, _⟩ := HCL.out w6 HK6.out
                    go_wp2_with (fail)
                    go_meet
                    refine ⟨rfl, by rw [HLL.out], decide ((xn : Int) < MN), rfl, ?_⟩
                    rw [hlT]
                    constructor
                    · intro h9
                      have h8 := of_decide_eq_false h9
                      exact ⟨by simp, by simp, hm2, xfr, rfl, by omega⟩
                    · rintro ⟨_, _, _, o, ho, h9⟩
                      obtain rfl := Option.some.inj ho
                      exact decide_eq_false (by omega)
          case rest =>
            obtain ⟨hw9, rfl, B, rfl, hB⟩ := hcut
            subst hw9
            obtain ⟨w6, hw69⟩ : ∃ w69, w69 = wc := ⟨_, rfl⟩
            subst hw69
            have HBB := hide hB
            clear hB
            cases B
            · skip
              obtain ⟨h1, h2, hm2, o, ho, hmo⟩ := HBB.out.1 rfl
              subst h1 h2
              have hl0 : ¬ l.length = 0 := fun h => by
                rw [List.eq_nil_of_length_eq_zero h] at ho
                cases ho
              clear HBB
              obtain ⟨m, hlm⟩ : ∃ m, l.length = m + 1 := ⟨l.length - 1, by omega⟩
              obtain ⟨lg, lcap, lcur, hlv, _, _, _, _, _, _⟩ := own_blk HF.out.out (by omega)
              simp at hlv
              obtain ⟨rfl, rfl⟩ := hlv
              obtain ⟨⟨xk, xt, XA, xn, xc, xfr⟩, hxm⟩ : ∃ xl, l[m]? = some xl := ⟨_, List.getElem?_eq_getElem (by omega)⟩
              have hxl : l.getLast? = some ⟨xk, xt, XA, xn, xc, xfr⟩ := by rw [List.getLast?_eq_getElem?, hlm]; simpa using hxm
              have hlT : lastT l = some xfr := by unfold lastT; rw [hxl]; rfl
              have HLL := hide hlm
              rw [hlm]
              have hli : (((m : Int) + 1) == 0) = false := by rw [beq_eq_false_iff_ne]; omega
              have hli2 : (0 : Int) < (m : Int) + 1 := by omega
              have hlm2 : m + 1 ≤ k := by omega
              have hwm : IntKind.i64.wrap (m : Int) = (m : Int) := IntWalk.i64_in _ (by omega)
              have hlm3 : (m : Int) < (m : Int) + 1 := by omega
              have HCL := hide (show ∀ W, Below w1.heap.size w1 W → W.cell? ⟨lg, m * 3 + 2, none⟩ = some (.slice XA xn xc) ∧ Sl W w1.heap.size Frame.cs 6 XA xn xfr from fun W hb => by
                have hp := HT1.out.pass (KeepB.of_below hb (Nat.le_refl _) (Nat.le_refl _)) (.inr (Nat.le_refl _))
                refine ⟨?_, (hp.2 _ hxl).1⟩
                obtain ⟨b9, o9, e9, _, hc9⟩ := hp.1.cells (by omega)
                simp at e9
                obtain ⟨rfl, rfl⟩ := e9
                have h9 := hc9 m _ hxm 2 _ rfl
                simpa using h9)
              have hxok := (HT1.out.pass (KeepB.refl _ _ _) (.inr (Nat.le_refl _))).2 _ hxl
              have hxnc : xn ≤ xc := hxok.2.nc
              have hxff : FramesFit xfr := hxok.2.ff
              have hxL : xfr.length = xn := hxok.1.len
              have hxk : xfr.length ≤ k := hll.out _ (List.mem_of_getElem? hxm)
              clear hxok hlm hl0
              have hm3 : ¬ (xn : Int) < MN := by
                obtain rfl := Option.some.inj (ho.symm.trans hlT)
                omega
              clear ho hmo
              obtain ⟨qq, rfl⟩ : ∃ qq : Nat, MN = qq := ⟨MN.toNat, by omega⟩
              obtain ⟨r, hr⟩ : ∃ r, xn = r + qq := ⟨xn - qq, by omega⟩
              have hq2 : 2 ≤ qq := by omega
              have hTL : innStep L t k (l.map FaultT.flt) (preOf l) = innShr (k + 2) (k1 + 1) X Y fs (qq : Int) (l.map FaultT.flt) := by rw [HT.out, innTail_dots hbd (by rw [hdk]; rfl), hdn]
              have hrq : xfr.length - qq = r := by omega
              obtain ⟨es, hes'⟩ : ∃ es, xfr.drop r = es := ⟨_, rfl⟩
              have heL : es.length = qq := by rw [← hes', List.length_drop]; omega
              have heF : FramesFit es := fun y hy => hxff y (List.mem_of_mem_drop (hes' ▸ hy))
              obtain ⟨SN, hSN⟩ : ∃ SN, sharedN xfr (fs ++ es) = SN := ⟨_, rfl⟩
              have HTL := hide (show innStep L t k (l.map FaultT.flt) (preOf l) = if 0 < (if SN = qq then 0 else k1 + 1) then .inl (none, if SN = qq then 0 else k1 + 1) else .inr (k1 + 1, l.map FaultT.flt ++ [⟨X, Y, fs ++ es⟩]) by rw [hTL]; unfold innShr; rw [lastF_map, hlT, shr_some hq2 (by omega), hrq, hes', hSN])
              obtain ⟨xg, xo, hXA⟩ : ∃ xg xo, XA = some ⟨xg, xo, none⟩ := by
                obtain ⟨b9, o9, e9, _⟩ := ((HCL.out wr HK2.out).2).cells (by omega)
                exact ⟨_, _, e9⟩
              subst hXA
              subst hr
              have hcap' : ¬ xc = r := by omega
              have hrc : r ≤ xc := by omega
              have hwr : IntKind.i64.wrap (r : Int) = (r : Int) := IntWalk.i64_in _ (by omega)
              have h5 : (r : Int) ≤ (r : Int) + (qq : Int) := by omega
              have HDR := hide hes'
              have HSNE := hide hSN
              clear hdk hdn hbd hTL hes' hSN hrq
              obtain ⟨cl6, hxs6⟩ := HCL.out w6 HK6.out
              have HXS6 := hide hxs6
              clear hxs6
              go_wp2_with (fail)
              have f6 : w6.cell? ⟨w1.heap.size, 2, none⟩ = some (.slice A2 fs.length c2) := (block_cell HF6.out.box 2).trans rfl
              refine wp_region_chain (fun W => W.cell? ⟨w1.heap.size, 2, none⟩ = some (.slice A2 fs.length c2)) 8 (by as_aux_lemma => kernel_rfl) (N := 11) (by as_aux_lemma => kernel_rfl) ?_; intro hsh
              have HS : w6.drew.cell? ⟨w1.heap.size, 2, none⟩ = some (.slice A2 fs.length c2) := f6
              refine wpAnyC_take0 (i := 0) (k := 8) (v := ?_) (d := some 165) rfl (by rfl) (by as_aux_lemma => kernel_rfl) (by as_aux_lemma => kernel_rfl) (by as_aux_lemma => kernel_rfl) hsh (by decide) (by intro _ _ _ h; exact hP _ _ _ _ (by rfl) h) (by assumption) (Or.inl ⟨by rfl, ?hy⟩) ?_; (case hy => (intro W _; go_simp; (try with_reducible rfl))); clear hsh; intro hsh
              refine wpAnyC_take (i := 1) (k := 8) (f := 40) (v := ?_) (d := some 166) rfl (by rfl) (by as_aux_lemma => kernel_rfl) (by as_aux_lemma => kernel_rfl) (by as_aux_lemma => kernel_rfl) hsh (by decide) (by as_aux_lemma => kernel_rfl) (by intro _ _ _ h; exact hP _ _ _ _ (by rfl) h) (by assumption) (Or.inl ⟨by rfl, ?hy⟩) ?_; (case hy => (rintro W y0; go_simp; (try with_reducible rfl))); clear hsh; intro hsh
              refine wpAnyC_take0 (i := 2) (k := 8) (v := ?_) (d := some 167) rfl (by rfl) (by as_aux_lemma => kernel_rfl) (by as_aux_lemma => kernel_rfl) (by as_aux_lemma => kernel_rfl) hsh (by decide) (by intro _ _ _ h; exact hP _ _ _ _ (by rfl) h) (by assumption) (Or.inl ⟨by rfl, ?hy⟩) ?_; (case hy => (intro W _; go_simp; (try with_reducible rfl))); clear hsh; intro hsh
              refine wpAnyC_take0 (i := 3) (k := 8) (v := ?_) (d := some 168) rfl (by rfl) (by as_aux_lemma => kernel_rfl) (by as_aux_lemma => kernel_rfl) (by as_aux_lemma => kernel_rfl) hsh (by decide) (by intro _ _ _ h; exact hP _ _ _ _ (by rfl) h) (by assumption) (Or.inl ⟨by rfl, ?hy⟩) ?_; (case hy => (intro W _; go_simp; (try with_reducible rfl))); clear hsh; intro hsh
              refine wpAnyC_take0 (i := 4) (k := 8) (v := ?_) (d := some 169) rfl (by rfl) (by as_aux_lemma => kernel_rfl) (by as_aux_lemma => kernel_rfl) (by as_aux_lemma => kernel_rfl) hsh (by decide) (by intro _ _ _ h; exact hP _ _ _ _ (by rfl) h) (by assumption) (Or.inl ⟨by rfl, ?hy⟩) ?_; (case hy => (intro W _; go_simp; (try with_reducible rfl))); clear hsh; intro hsh
              refine wpAnyC_take0 (i := 5) (k := 8) (v := ?_) (d := some 170) rfl (by rfl) (by as_aux_lemma => kernel_rfl) (by as_aux_lemma => kernel_rfl) (by as_aux_lemma => kernel_rfl) hsh (by decide) (by intro _ _ _ h; exact hP _ _ _ _ (by rfl) h) (by assumption) (Or.inl ⟨by rfl, ?hy⟩) ?_; (case hy => (intro W _; go_simp; (try with_reducible rfl))); clear hsh; intro hsh
              refine wpAnyC_take0 (i := 6) (k := 8) (v := ?_) (d := some 171) rfl (by rfl) (by as_aux_lemma => kernel_rfl) (by as_aux_lemma => kernel_rfl) (by as_aux_lemma => kernel_rfl) hsh (by decide) (by intro _ _ _ h; exact hP _ _ _ _ (by rfl) h) (by assumption) (Or.inl ⟨by rfl, ?hy⟩) ?_; (case hy => (intro W _; go_simp; (try with_reducible rfl))); clear hsh; intro hsh
              refine wpAnyC_take0 (i := 7) (k := 8) (v := ?_) (d := some 172) rfl (by rfl) (by as_aux_lemma => kernel_rfl) (by as_aux_lemma => kernel_rfl) (by as_aux_lemma => kernel_rfl) hsh (by decide) (by intro _ _ _ h; exact hP _ _ _ _ (by rfl) h) (by assumption) (Or.inl ⟨by rfl, ?hy⟩) ?_; (case hy => (intro W _; go_simp; (try with_reducible rfl))); clear hsh; intro hsh
              refine wpAnyC_tail (by as_aux_lemma => kernel_rfl) (by simp) (by as_aux_lemma => kernel_rfl) ?_; simp only [List.drop_succ_cons, List.drop_zero]; clear hsh
              clear HS
              go_simp
              have hdr6 : Below w6.heap.size w6 w6.drew := below_drewN (Below.refl _ _) 1
              have hes : Sl w6.drew w1.heap.size Frame.cs 6 (some ⟨xg, xo + r * 6, none⟩) qq es := by
                have h9 := (HXS6.out.below (hdr6.mono hz6)).drop (i := r) (by omega)
                rw [HDR.out, show r + qq - r = qq by omega] at h9
                exact h9
              refine wpList_append_own _ (by rfl) (.tmp 166) (.tmp 172) 38 (by rfl) (w1.heap.size + 1) 43 j0 (.agg #[.string ByteArray.empty, .string ByteArray.empty, .string ByteArray.empty, .int .i64 0, .int .i64 0, .bool false]) 6 72 Tryz.underlying38 hj0 jz0 jz1 jz2 rfl (by decide) (.slice A2 fs.length c2) fs.length (fs.flatMap Frame.cs) (by rfl) HF6.out.draw.row ⟨xg, xo + r * 6, none⟩ qq (xc - r) (es.flatMap Frame.cs) (by rfl) (by rw [flatMap_len Frame.cs_len, heL]) (hes.news Frame.cs_len) (one_frames es) (by unfold maxLen; omega) (by omega) HF6.out.lt ?_
              intro v9 w9 hown9 hg9 _
              obtain ⟨a9, c9, rfl⟩ := own_sl hown9
              have hadd := HF6.out.draw.add (es := es) hg9 (by rw [heL]; exact hown9) heF
              have hkb := HF6.out.draw.keepF (p := 0) hg9 (.slice a9 (fs.length + qq) c9)
              have f9 := block_free hadd.1 2
              have y9 : w9.cell? ⟨w1.heap.size, 2, none⟩ = some (.slice A2 fs.length c2) := (block_cell hadd.1 2).trans rfl
              have HFA := hide hadd.2
              obtain ⟨wA, hwA⟩ : ∃ wA, w9.setCell ⟨w1.heap.size, 2, none⟩ (.slice a9 (fs.length + qq) c9) = wA := ⟨_, rfl⟩
              rw [hwA] at HFA hkb
              have HKA := hide (HK6.out.trans ((hdr6.mono hz6).trans hkb))
              have HBA := hide (HB6.out.trans ((hdr6.mono HB6.out.size).trans (hkb.mono hz1)))
              have yA : wA.cell? ⟨w1.heap.size, 2, none⟩ = some (.slice a9 (fs.length + qq) c9) := (block_cell HFA.out.box 2).trans rfl
              have hzA := HKA.out.size
              have HSF := hide (fun cc => SharedOf_any (some ⟨xg, xo, none⟩) (r + qq) cc a9 (fs ++ es).length c9 xfr (fs ++ es) wA (by unfold maxLen; omega) (by rw [List.length_append, heL]; unfold maxLen; omega) (((HCL.out wA HKA.out).2).more hzA) HFA.out.sl)
              simp only [HSNE.out, List.length_append, heL] at HSF
              clear hown9 hg9 hadd hkb hes hdr6
              by_cases hse : SN = qq
              · skip
                have HS2 := hide (show innStep L t k (l.map FaultT.flt) (preOf l) = .inr (k1 + 1, l.map FaultT.flt ++ [⟨X, Y, fs ++ es⟩]) by rw [HTL.out, if_pos hse]; rfl)
                subst hse
                go_simp
                go_wp2_with (first | (go_at_call 33; refine (HSF.out _).mono ?_; rintro e wC ⟨rfl, hbC⟩; have HFC := hide (HFA.out.below hbC); have HKC := hide (HKA.out.trans (hbC.mono hzA)); have HBC := hide (HBA.out.trans (hbC.mono HBA.out.size)); clear hbC) | fail)
                rw [← HLL.out]
                go_roundw
                case rel => exact ⟨k1 + 1, (fs ++ es : List Frame), _, (k1 : Int), by go_num, rfl, by omega, by omega, HFC.out, HKC.out, .inr ⟨k1, rfl, by rw [List.length_append]; omega, HS2.out⟩⟩
                case measure => simp [intOf]; omega
              · skip
                have E := hide (show RR = (none, k1 + 1) by rw [← HRK.out]; exact inn_end (by rw [HTL.out, if_neg hse, if_pos (by omega)]))
                have hse' : ¬ (SN : Int) = (qq : Int) := by omega
                have HSE := hide hse
                clear hse
                go_simp
                go_wp2_with (first | (go_at_call 33; refine (HSF.out _).mono ?_; rintro e wC ⟨rfl, hbC⟩; have HFC := hide (HFA.out.below hbC); have HKC := hide (HKA.out.trans (hbC.mono hzA)); have HBC := hide (HBA.out.trans (hbC.mono HBA.out.size)); clear hbC) | fail)
                (try refine aQ _ _ ?_); refine bodyPost_ret (by simp [results, Tryz.results14, go_sem]; try rfl) rfl ?_
                exact ⟨RfOut.bad E.out (by omega), HBC.out⟩
            · skip
              have hng : ¬ (I1 = true ∧ I2 = true ∧ ¬ MN < 2 ∧ ∃ o, lastT l = some o ∧ MN ≤ (o.length : Int)) := fun h => by
                have h9 := HBB.out.2 h
                cases h9
              have E := hide (show RR = (none, k1 + 1) by
                rw [← HRK.out]
                refine inn_end ?_
                by_cases h12 : (I1 && I2) = true
                · have hcd : MN < 2 ∨ lastT l = none ∨ ∃ o, lastT l = some o ∧ (o.length : Int) < MN := by
                    by_cases h2 : MN < 2
                    · exact .inl h2
                    · cases hlt : lastT l with
                      | none => exact .inr (.inl rfl)
                      | some o =>
                        refine .inr (.inr ⟨o, rfl, ?_⟩)
                        refine Decidable.byContradiction fun h8 => hng ?_
                        rw [Bool.and_eq_true] at h12
                        exact ⟨h12.1, h12.2, h2, o, hlt, by omega⟩
                  rw [HT.out, innTail_dots hbd (by rw [hdk]; exact h12)]
                  unfold innShr
                  rw [lastF_map, hdn, shr_few hpos hcd, if_pos (by omega)]
                · rw [HT.out, innTail_bad hbd (by rw [hdk]; simpa using h12)])
              clear hdk hdn hbd hng HBB
              go_wp2_with (fail)
              (try refine aQ _ _ ?_); refine bodyPost_ret (by simp [results, Tryz.results14, go_sem]; try rfl) rfl ?_
              exact ⟨RfOut.bad E.out (by omega), HB6.out⟩
        · rw [ha] at hba
          clear HBV hb1
          have hcat : ∀ W, Calls Tryz.prog 27 #[.string x, .string ⟨#[32, 32, 32, 32, 97, 116, 32]⟩] W fun e w' => e = .returned (.tuple #[.string (x.extract preAt.size x.size), .bool true]) ∧ w' = W := fun W => by
            have h9 := Tryz.strings_CutPrefix x ⟨#[32, 32, 32, 32, 97, 116, 32]⟩ W
            rw [hasP_drop (pre := ⟨#[32, 32, 32, 32, 97, 116, 32]⟩) ha, show Lib.hasPrefix x.data.toList (⟨#[32, 32, 32, 32, 97, 116, 32]⟩ : ByteArray).data.toList = true from ha] at h9
            exact h9
          have HCAT := hide hcat
          have hfm : frmS L k1 preAt = frR (wordsOf (x.extract preAt.size x.size)) := by unfold frmS; rw [if_pos hba, lineR_at hx]
          have hzx2 : (x.extract preAt.size x.size).size ≤ 1000000 := by rw [ByteArray.size_extract]; omega
          obtain ⟨D, hD⟩ : ∃ D, x.extract preAt.size x.size = D := ⟨_, rfl⟩
          rw [hD] at HCAT hfm hzx2
          have hfa := fun W (H : Mx W) => frameLine_any D W hzx2 H
          rw [← hfm] at hfa
          obtain ⟨FR, hFR⟩ : ∃ FR, frmS L k1 preAt = FR := ⟨_, rfl⟩
          simp only [hFR, FoOut, frAgg] at hfa
          have HFA := hide hfa
          clear hfa hcat hfm hx ha hD
          cases FR with
          | none =>
            have E := hide (show RR = (none, k1 + 1) by rw [← HRK.out]; exact inn_end (by rw [HSTEP.out, ← HR2.out, frs_bad hba hFR]; rfl))
            clear hba hbd hFR
            go_wp2_with (first | (go_at_call 27; ((with_reducible refine (HCAT.out _).mono ?_); rintro e wz ⟨rfl, hwz⟩; have hwz := hwz.symm; subst hwz; clear HCAT)) | (go_at_call 30; refine (HFA.out _ HLN2.out.mx).mono ?_; rintro e w3 ⟨⟨M, G, f, li, ad, ow, rfl, hor, zM, zG, zf⟩, hb3⟩; clear HFA; have HB3 := hide (HB2.out.trans (hb3.mono HB2.out.size)); have HK3 := hide (HK2.out.trans (hb3.mono hz2)); have HF3 := hide (HF2.out.below hb3); have hz3 := HK3.out.size; clear hb3; clear hor) | fail)
            have hal : ∀ ob, Below w.heap.size w (w3.alloc ob) := fun ob => HB3.out.alloc HB3.out.size ob
            (try refine aQ _ _ ?_); refine bodyPost_ret (by simp [results, Tryz.results14, go_sem]; try rfl) rfl ?_
            exact ⟨RfOut.bad E.out (by omega), hal _⟩
          | some qf =>
            have hR4 : frsFrom L preAt (L.length - (k1 + 1)) (k1 + 1) (fs ++ [frmF qf]) = RF := (frs_step hba hFR).symm.trans HR2.out
            have HR4 := hide hR4
            clear hba hbd hFR hR4
            go_wp2_with (first | (go_at_call 27; ((with_reducible refine (HCAT.out _).mono ?_); rintro e wz ⟨rfl, hwz⟩; have hwz := hwz.symm; subst hwz; clear HCAT)) | (go_at_call 30; refine (HFA.out _ HLN2.out.mx).mono ?_; rintro e w3 ⟨⟨M, G, f, li, ad, ow, rfl, hor, zM, zG, zf⟩, hb3⟩; clear HFA; have HB3 := hide (HB2.out.trans (hb3.mono HB2.out.size)); have HK3 := hide (HK2.out.trans (hb3.mono hz2)); have HF3 := hide (HF2.out.below hb3); have hz3 := HK3.out.size; clear hb3; have hq9 : qf = (M, G, f, li, ad, ow) := Option.some.inj (hor.resolve_right (fun e => by cases e)); subst hq9; clear hor; have HALA := hide (fun ob ob2 : Obj => ((Below.refl w3.heap.size w3).alloc (Nat.le_refl _) ob).alloc (by simp) ob2); have hF3lt := HF3.out.lt; have fr3 := block_free HF3.out.box 2; have x2 : w3.cell? ⟨w1.heap.size, 2, none⟩ = some (.slice A2 fs.length c2) := (block_cell HF3.out.box 2).trans rfl) | (at_builtin; refine wpList_append_own _ rfl (.tmp 102) (.tmp 104) 38 rfl (w1.heap.size + 1) 43 j0 (.agg #[.string ByteArray.empty, .string ByteArray.empty, .string ByteArray.empty, .int .i64 0, .int .i64 0, .bool false]) 6 72 Tryz.underlying38 hj0 jz0 jz1 jz2 rfl (by decide) (.slice A2 fs.length c2) fs.length (fs.flatMap Frame.cs) rfl ((HF3.out.row.alloc _).alloc _) ⟨w3.heap.size + 1, 0, none⟩ 1 1 [.string M, .string G, .string f, .int .i64 li, .int .i64 ad, .bool ow] rfl rfl (cells_at _ [.string M, .string G, .string f, .int .i64 li, .int .i64 ad, .bool ow] _ _ (by simp)) (by intro u hu; simp at hu; rcases hu with rfl | rfl | rfl | rfl | rfl | rfl <;> rfl) (by unfold maxLen; omega) (by omega) (by simp; omega) ?_; intro vA wA hownA hgA _; obtain ⟨AA, cA, rfl⟩ := own_sl hownA; have hadd := (HF3.out.below (HALA.out _ _)).add (es := [frmF (M, G, f, li, ad, ow)]) hgA hownA (fun y hy => by simp at hy; subst hy; exact frmF_fit zM zG zf); have hkb := (HF3.out.below (HALA.out _ _)).keepF (p := 0) hgA (.slice AA (fs.length + 1) cA); have fA := block_free hadd.1 2; have yA : wA.cell? ⟨w1.heap.size, 2, none⟩ = some (.slice A2 fs.length c2) := (block_cell hadd.1 2).trans rfl; have HFB := hide hadd.2; have HKB := hide ((HK3.out.trans ((HALA.out _ _).mono (by omega))).trans hkb); clear hownA hgA hadd hkb) | fail)
            go_roundw
            case rel => exact ⟨k1 + 1, fs ++ [frmF (M, G, f, li, ad, ow)], _, -1, by go_num, rfl, by omega, by omega, HFB.out, HKB.out, .inl ⟨rfl, by rw [List.length_append]; simp; omega, HR4.out⟩⟩
            case measure => simp [intOf]; omega
      · skip
        have hbv : (BV && decide (gn < 0)) = false := by
          rw [Bool.eq_false_iff]
          intro h9
          simp only [Bool.and_eq_true, decide_eq_true_eq] at h9
          exact hgo h9
        rw [hbv]
        have HEX := hide (show ((gn = -1 ∧ fs.length + (k + 1) ≤ k1 ∧ begK L k1 preDots = false ∧ innStep L t k (l.map FaultT.flt) (preOf l) = innTail L t (k + 2) X Y k1 fs (l.map FaultT.flt)) ∨ (∃ g : Nat, gn = (g : Int) ∧ fs.length ≤ k1 ∧ innStep L t k (l.map FaultT.flt) (preOf l) = .inr (k1, l.map FaultT.flt ++ [⟨X, Y, fs⟩]))) by
          rcases HPH.out with ⟨h1, h2, h3⟩ | h
          · have hBf : BV = false := by
              cases BV
              · rfl
              · exact absurd ⟨rfl, by omega⟩ hgo
            have hor := HBV.out
            rw [hBf, Bool.or_eq_false_iff] at hor
            exact .inl ⟨h1, h2, hor.2, by rw [HSTEP.out, ← h3, frs_stop hor.1]; rfl⟩
          · exact .inr h)
        clear hbv hgo HPH HBV
        go_wp2_with (fail)
        go_meet
        exact ⟨k1, fs, _, gn, rfl, rfl, hk1n, hkk1, HF2.out, HK2.out, HEX.out⟩
end Go.Proofs.YtkjpojaanocfjaaGreatDoor

