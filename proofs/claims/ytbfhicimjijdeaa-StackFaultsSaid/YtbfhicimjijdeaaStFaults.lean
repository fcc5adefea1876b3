/- The law StackFaults. -/
import Derived.Test.YtbfhicimjijdeaaStCulp
import Derived.Test.YtbfhicimjijdeaaStSame
import Derived.Test.YtbfhicimjijdeaaStOpen2
import Derived.Test.YtbfhicimjijdeaaFam
import Derived.Test.YtbfhicimjijdeaaRows
namespace Go.Proofs.Ytbfhicimjijdeaa
open Go.RowKit
set_option linter.unusedVariables false
theorem fltErr_short {x : FaultT} (h : fltErr x = 0) : ∀ y ∈ x.frs, y.mod.size ≤ 200 ∧ y.fn.size ≤ 200 := by
  rw [fltErr] at h
  split at h; · cases h
  split at h; · cases h
  split at h; · cases h
  split at h; · cases h
  split at h; · cases h
  intro y hy
  obtain ⟨i, hi, rfl⟩ := List.mem_iff_getElem.1 hy
  rw [frsErr, if_neg (by have := frsErr_len h; omega)] at h
  have h2 := firstErr_all h i hi
  rw [frAt_some (List.getElem?_eq_getElem hi)] at h2
  rw [frErr] at h2
  split at h2
  · cases h2
  · omega
theorem fltsErr_short {l : List FaultT} (h : fltsErr l = 0) : l.length ≤ 10 ∧ ShortF l := by
  rw [fltsErr] at h
  split at h; · cases h
  split at h; · cases h
  refine ⟨by omega, fun x hx => ?_⟩
  obtain ⟨i, hi, rfl⟩ := List.mem_iff_getElem.1 hx
  have h2 := firstErr_all h i hi
  rw [fltAt_some (List.getElem?_eq_getElem hi)] at h2
  exact fltErr_short h2
theorem CheckFrame_v {x : Frame} {v : Int} (hv : frErr x = v) (W : World) (hx : x.fit) :
    Calls Try.prog 23 #[.agg #[.string x.mod, .string x.fn, .string x.file, .int .i64 x.line, .int .i64 x.addr, .bool x.own]] W fun e w' => e = .returned (.int .i64 v) ∧ Below W.heap.size W w' := by subst hv; exact CheckFrame_any x W hx
theorem FrameError_v {x : Frame} {v : Int} (hv : frErr x = v) (W : World) (hx : x.fit) :
    Calls Try.prog 24 #[.agg #[.string x.mod, .string x.fn, .string x.file, .int .i64 x.line, .int .i64 x.addr, .bool x.own]] W fun e w' => e = .returned (.int .i64 v) ∧ Below W.heap.size W w' := by subst hv; exact FrameError_any x W hx
theorem CheckFault_v {x : FaultT} {v : Int} (hv : fltErr x = v) (W : World) (hx : x.ok W) :
    Calls Try.prog 25 #[.agg #[.string x.kind, .string x.text, .slice x.A x.n x.cap]] W fun e w' => e = .returned (.int .i64 v) ∧ Below W.heap.size W w' := by subst hv; exact CheckFault_any x W hx
theorem FaultError_v {x : FaultT} {v : Int} (hv : fltErr x = v) (W : World) (hx : x.ok W) :
    Calls Try.prog 26 #[.agg #[.string x.kind, .string x.text, .slice x.A x.n x.cap]] W fun e w' => e = .returned (.int .i64 v) ∧ Below W.heap.size W w' := by subst hv; exact FaultError_any x W hx
theorem Check_v {A : Option Addr} {n cap : Nat} {l : List FaultT} {v : Int} (hv : fltsErr l = v) (W : World) (hn : n ≤ maxLen) (hl : Sl W W.heap.size FaultT.cs 3 A n l) (hf : FaultsOk W l) :
    Calls Try.prog 27 #[.slice A n cap] W fun e w' => e = .returned (.int .i64 v) ∧ Below W.heap.size W w' := by subst hv; exact Check_any A n cap l W hn hl hf
theorem FaultsError_v {A : Option Addr} {n cap : Nat} {l : List FaultT} {v : Int} (hv : fltsErr l = v) (W : World) (hn : n ≤ maxLen) (hl : Sl W W.heap.size FaultT.cs 3 A n l) (hf : FaultsOk W l) :
    Calls Try.prog 28 #[.slice A n cap] W fun e w' => e = .returned (.int .i64 v) ∧ Below W.heap.size W w' := by subst hv; exact FaultsError_any A n cap l W hn hl hf
set_option maxHeartbeats 1000000 in
theorem Culprit_err (A : Option Addr) (n cap : Nat) (l : List FaultT) (w : World) (E : Int) (hE : fltsErr l = E) (h0 : E ≠ 0) (hn : n ≤ maxLen) (hl : Sl w w.heap.size FaultT.cs 3 A n l) (hf : FaultsOk w l) :
    Calls Try.prog 22 #[.slice A n cap] w fun e w' => e = .returned (.tuple #[.string ⟨#[]⟩, .int .i64 E]) ∧ Below w.heap.size w w' := by
  have C := hide (Check_v (A := A) (n := n) (cap := cap) hE w hn hl hf)
  have h0' : (E == 0) = false := by simpa using h0
  clear hn
  go_enter Try.func22, Try.ntmps22
  go_wp2_with (go_at_call 27; refine C.out.mono ?_; rintro r w0 ⟨rfl, hB0⟩)
  go_ret2
  exact ⟨rfl, hB0⟩
section
variable (x : Frame) (f : FaultT) (A : Option Addr) (n c : Nat) (l : List FaultT) (A2 : Option Addr) (n2 c2 : Nat) (m : List FaultT) (B : Option Addr) (k ck : Nat) (a : List Frame) (B2 : Option Addr) (k2 ck2 : Nat) (b : List Frame) (w : World)
  (hx : x.fit) (hfo : f.ok w) (hn : n ≤ maxLen) (hl : Sl w w.heap.size FaultT.cs 3 A n l) (hlo : FaultsOk w l) (hn2 : n2 ≤ maxLen) (hm : Sl w w.heap.size FaultT.cs 3 A2 n2 m) (hmo : FaultsOk w m)
  (hk : k ≤ maxLen) (ha : Sl w w.heap.size Frame.cs 6 B k a) (hk2 : k2 ≤ maxLen) (hb : Sl w w.heap.size Frame.cs 6 B2 k2 b)
include hx hfo hn hl hlo hn2 hm hmo hk ha hk2 hb
set_option maxRecDepth 100000 in
set_option maxHeartbeats 8000000 in
theorem StackFaults_bad (hbad : fltsErr l ≠ 0) : Calls Try.prog 6 #[.agg #[.string x.mod, .string x.fn, .string x.file, .int .i64 x.line, .int .i64 x.addr, .bool x.own], .agg #[.string f.kind, .string f.text, .slice f.A f.n f.cap], .slice A n c, .slice A2 n2 c2, .slice B k ck, .slice B2 k2 ck2] w fun e w' => e = .returned (.bool true) ∧ Below w.heap.size w w' := by
  obtain ⟨E, hE⟩ : ∃ E, fltsErr l = E := ⟨_, rfl⟩
  obtain ⟨EX, hEX⟩ : ∃ E, frErr x = E := ⟨_, rfl⟩
  obtain ⟨EF, hEF⟩ : ∃ E, fltErr f = E := ⟨_, rfl⟩
  obtain ⟨SM, hSM⟩ : ∃ E, fltsEq l m = E := ⟨_, rfl⟩
  obtain ⟨SH, hSH⟩ : ∃ E, sharedN a b = E := ⟨_, rfl⟩
  have K1 := hide (fun W => CheckFrame_v hEX W hx)
  have K2 := hide (fun W => FrameError_v hEX W hx)
  have K3 := hide (fun W h => CheckFault_v hEF W h)
  have K4 := hide (fun W h => FaultError_v hEF W h)
  have K5 := hide (fun W h h' => Check_v (A := A) (n := n) (cap := c) hE W hn h h')
  have K6 := hide (fun W h h' => FaultsError_v (A := A) (n := n) (cap := c) hE W hn h h')
  have K7 := hide (show ∀ W, Sl W W.heap.size FaultT.cs 3 A n l → Sl W W.heap.size FaultT.cs 3 A2 n2 m → FaultsOk W l → FaultsOk W m → Calls Try.prog 29 #[.slice A n c, .slice A2 n2 c2] W fun e w' => e = .returned (.bool SM) ∧ Below W.heap.size W w' from fun W h1 h2 h3 h4 => by have := Same_any A n c A2 n2 c2 l m W hn hn2 h1 h2 h3 h4; rw [hSM] at this; exact this)
  have K7' := hide (show ∀ W, Sl W W.heap.size FaultT.cs 3 A n l → FaultsOk W l → Calls Try.prog 29 #[.slice A n c, .slice A n c] W fun e w' => e = .returned (.bool true) ∧ Below W.heap.size W w' from fun W h1 h3 => by have := Same_any A n c A n c l l W hn hn h1 h1 h3 h3; rw [fltsEq_refl] at this; exact this)
  have K8 := hide (show ∀ W, Sl W W.heap.size FaultT.cs 3 A n l → Sl W W.heap.size FaultT.cs 3 A2 n2 m → FaultsOk W l → FaultsOk W m → Calls Try.prog 30 #[.slice A n c, .slice A2 n2 c2] W fun e w' => e = .returned (.bool SM) ∧ Below W.heap.size W w' from fun W h1 h2 h3 h4 => by have := SameFaults_any A n c A2 n2 c2 l m W hn hn2 h1 h2 h3 h4; rw [hSM] at this; exact this)
  have K9 := hide (show ∀ W, Sl W W.heap.size Frame.cs 6 B k a → Sl W W.heap.size Frame.cs 6 B2 k2 b → Calls Try.prog 31 #[.slice B k ck, .slice B2 k2 ck2] W fun e w' => e = .returned (.int .i64 (SH : Nat)) ∧ Below W.heap.size W w' from fun W h1 h2 => by have := Shared_any B k ck B2 k2 ck2 a b W hk hk2 h1 h2; rw [hSH] at this; exact this)
  have K10 := hide (show ∀ W, Sl W W.heap.size Frame.cs 6 B k a → Sl W W.heap.size Frame.cs 6 B2 k2 b → Calls Try.prog 32 #[.slice B k ck, .slice B2 k2 ck2] W fun e w' => e = .returned (.int .i64 (SH : Nat)) ∧ Below W.heap.size W w' from fun W h1 h2 => by have := SharedOf_any B k ck B2 k2 ck2 a b W hk hk2 h1 h2; rw [hSH] at this; exact this)
  have K11 := hide (fun W h h' => Culprit_err A n c l W E hE (by rw [← hE]; exact hbad) hn h h')
  have h0' : (E == 0) = false := by rw [← hE]; simpa using hbad
  have HL := hide hl
  have HLO := hide hlo
  have HM := hide hm
  have HMO := hide hmo
  have HA := hide ha
  have HB := hide hb
  have HFO := hide hfo
  have HBA : Hid (∀ o o' : Obj, Below w.heap.size w ((w.alloc o).alloc o')) := hide fun o o' => ((Below.refl _ _).alloc (Nat.le_refl _) o).alloc (by simp) o'
  clear hE hEX hEF hSM hSH hbad hl hlo hm hmo ha hb hfo hx hn hn2 hk hk2
  go_enter Try.func6, Try.ntmps6
  go_wp2_with ((go_at_call 22; go_must (refine (K11.out _ (HL.out.up (HBA.out _ _)) (HLO.out.up (HBA.out _ _))).mono ?_; rintro r w1 ⟨rfl, hw1⟩; obtain ⟨hc1, hf1⟩ := bcell hw1; have hz1 := hw1.size; (try simp at hz1); have hB1 := bthen (w := w) hw1 (by go_grown) (by go_size); have x0_1 : w1.cell? ⟨w.heap.size, 0, none⟩ = some (.string x.mod) := (hc1 _ _ (by first | omega | (simp; done) | (simp; omega))).trans (by first | (simp [go_sem]; done) | (go_simp; done)); have x1_1 : w1.cell? ⟨w.heap.size, 1, none⟩ = some (.string x.fn) := (hc1 _ _ (by first | omega | (simp; done) | (simp; omega))).trans (by first | (simp [go_sem]; done) | (go_simp; done)); have x2_1 : w1.cell? ⟨w.heap.size, 2, none⟩ = some (.string x.file) := (hc1 _ _ (by first | omega | (simp; done) | (simp; omega))).trans (by first | (simp [go_sem]; done) | (go_simp; done)); have x3_1 : w1.cell? ⟨w.heap.size, 3, none⟩ = some (.int .i64 x.line) := (hc1 _ _ (by first | omega | (simp; done) | (simp; omega))).trans (by first | (simp [go_sem]; done) | (go_simp; done)); have x4_1 : w1.cell? ⟨w.heap.size, 4, none⟩ = some (.int .i64 x.addr) := (hc1 _ _ (by first | omega | (simp; done) | (simp; omega))).trans (by first | (simp [go_sem]; done) | (go_simp; done)); have x5_1 : w1.cell? ⟨w.heap.size, 5, none⟩ = some (.bool x.own) := (hc1 _ _ (by first | omega | (simp; done) | (simp; omega))).trans (by first | (simp [go_sem]; done) | (go_simp; done)); have f0_1 : w1.cell? ⟨w.heap.size + 1, 0, none⟩ = some (.string f.kind) := (hc1 _ _ (by first | omega | (simp; done) | (simp; omega))).trans (by first | (simp [go_sem]; done) | (go_simp; done)); have f1_1 : w1.cell? ⟨w.heap.size + 1, 1, none⟩ = some (.string f.text) := (hc1 _ _ (by first | omega | (simp; done) | (simp; omega))).trans (by first | (simp [go_sem]; done) | (go_simp; done)); have f2_1 : w1.cell? ⟨w.heap.size + 1, 2, none⟩ = some (.slice f.A f.n f.cap) := (hc1 _ _ (by first | omega | (simp; done) | (simp; omega))).trans (by first | (simp [go_sem]; done) | (go_simp; done)); clear hw1 hc1 hf1)))
  obtain ⟨I2, F2, hi2, hC2, hFB2, hJ2⟩ := fam [(⟨w.heap.size, 0, none⟩, .string x.mod), (⟨w.heap.size, 1, none⟩, .string x.fn), (⟨w.heap.size, 2, none⟩, .string x.file), (⟨w.heap.size, 3, none⟩, .int .i64 x.line), (⟨w.heap.size, 4, none⟩, .int .i64 x.addr), (⟨w.heap.size, 5, none⟩, .bool x.own), (⟨w.heap.size + 1, 0, none⟩, .string f.kind), (⟨w.heap.size + 1, 1, none⟩, .string f.text), (⟨w.heap.size + 1, 2, none⟩, .slice f.A f.n f.cap)] w w1 (Cells.cons x0_1 (Cells.cons x1_1 (Cells.cons x2_1 (Cells.cons x3_1 (Cells.cons x4_1 (Cells.cons x5_1 (Cells.cons f0_1 (Cells.cons f1_1 (Cells.cons f2_1 (Cells.nil _)))))))))) (by assumption); have hJ2 := hide hJ2; haveI : Nonempty I2 := ⟨hi2.choose⟩
  have x0_F := fun i => (hC2 i).head
  have x1_F := fun i => (hC2 i).tail.head
  have x2_F := fun i => (hC2 i).tail.tail.head
  have x3_F := fun i => (hC2 i).tail.tail.tail.head
  have x4_F := fun i => (hC2 i).tail.tail.tail.tail.head
  have x5_F := fun i => (hC2 i).tail.tail.tail.tail.tail.head
  have f0_F := fun i => (hC2 i).tail.tail.tail.tail.tail.tail.head
  have f1_F := fun i => (hC2 i).tail.tail.tail.tail.tail.tail.tail.head
  have f2_F := fun i => (hC2 i).tail.tail.tail.tail.tail.tail.tail.tail.head
  have HLF := hide (fun i => HL.out.up (hFB2 i))
  have HLOF := hide (fun i => HLO.out.up (hFB2 i))
  have HMF := hide (fun i => HM.out.up (hFB2 i))
  have HMOF := hide (fun i => HMO.out.up (hFB2 i))
  have HAF := hide (fun i => HA.out.up (hFB2 i))
  have HBF := hide (fun i => HB.out.up (hFB2 i))
  have HFF := hide (fun i => HFO.out.up (hFB2 i))
  have HFB2 := hide hFB2
  clear hC2 hFB2 x0_1 x1_1 x2_1 x3_1 x4_1 x5_1 f0_1 f1_1 f2_1
  refine wp_region_fam F2 hi2 (by kernel_rfl) (by kernel_rfl) ?_; (repeat (go_big_quiet_step (first | (go_at_call 23; refine (K1.out _).mono ?_; rintro r w' ⟨rfl, hw'⟩; exact ⟨rfl, hJ2.out _ _ hw'⟩) | (go_at_call 24; refine (K2.out _).mono ?_; rintro r w' ⟨rfl, hw'⟩; exact ⟨rfl, hJ2.out _ _ hw'⟩) | (go_at_call 25; refine (K3.out _ (HFF.out _)).mono ?_; rintro r w' ⟨rfl, hw'⟩; exact ⟨rfl, hJ2.out _ _ hw'⟩) | (go_at_call 26; refine (K4.out _ (HFF.out _)).mono ?_; rintro r w' ⟨rfl, hw'⟩; exact ⟨rfl, hJ2.out _ _ hw'⟩) | (go_at_call 27; refine (K5.out _ (HLF.out _) (HLOF.out _)).mono ?_; rintro r w' ⟨rfl, hw'⟩; exact ⟨rfl, hJ2.out _ _ hw'⟩) | (go_at_call 28; refine (K6.out _ (HLF.out _) (HLOF.out _)).mono ?_; rintro r w' ⟨rfl, hw'⟩; exact ⟨rfl, hJ2.out _ _ hw'⟩) | (go_at_call 29; refine (K7.out _ (HLF.out _) (HMF.out _) (HLOF.out _) (HMOF.out _)).mono ?_; rintro r w' ⟨rfl, hw'⟩; exact ⟨rfl, hJ2.out _ _ hw'⟩) | (go_at_call 29; refine (K7'.out _ (HLF.out _) (HLOF.out _)).mono ?_; rintro r w' ⟨rfl, hw'⟩; exact ⟨rfl, hJ2.out _ _ hw'⟩) | (go_at_call 30; refine (K8.out _ (HLF.out _) (HMF.out _) (HLOF.out _) (HMOF.out _)).mono ?_; rintro r w' ⟨rfl, hw'⟩; exact ⟨rfl, hJ2.out _ _ hw'⟩) | (go_at_call 31; refine (K9.out _ (HAF.out _) (HBF.out _)).mono ?_; rintro r w' ⟨rfl, hw'⟩; exact ⟨rfl, hJ2.out _ _ hw'⟩) | (go_at_call 32; refine (K10.out _ (HAF.out _) (HBF.out _)).mono ?_; rintro r w' ⟨rfl, hw'⟩; exact ⟨rfl, hJ2.out _ _ hw'⟩)))); refine wpQuiet_nil ?_; rintro _ ⟨i2, rfl⟩
  have hBi := HFB2.out i2
  go_wp2_with (go_at_call 28; refine (K6.out _ (HLF.out _) (HLOF.out _)).mono ?_; rintro r w9 ⟨rfl, hw9⟩; have hB9 := hBi.trans (hw9.mono hBi.size))
  go_ret
  exact ⟨rfl, hB9⟩
set_option maxRecDepth 100000 in
set_option maxHeartbeats 8000000 in
theorem StackFaults_ok (hE : fltsErr l = 0) : Calls Try.prog 6 #[.agg #[.string x.mod, .string x.fn, .string x.file, .int .i64 x.line, .int .i64 x.addr, .bool x.own], .agg #[.string f.kind, .string f.text, .slice f.A f.n f.cap], .slice A n c, .slice A2 n2 c2, .slice B k ck, .slice B2 k2 ck2] w fun e w' => e = .returned (.bool true) ∧ Below w.heap.size w w' := by
  obtain ⟨h10, hsh⟩ := fltsErr_short hE
  have h10 : n ≤ 10 := by rw [hl.len] at h10; exact h10
  obtain ⟨EX, hEX⟩ : ∃ E, frErr x = E := ⟨_, rfl⟩
  obtain ⟨EF, hEF⟩ : ∃ E, fltErr f = E := ⟨_, rfl⟩
  obtain ⟨SM, hSM⟩ : ∃ E, fltsEq l m = E := ⟨_, rfl⟩
  obtain ⟨SH, hSH⟩ : ∃ E, sharedN a b = E := ⟨_, rfl⟩
  have K1 := hide (fun W => CheckFrame_v hEX W hx)
  have K2 := hide (fun W => FrameError_v hEX W hx)
  have K3 := hide (fun W h => CheckFault_v hEF W h)
  have K4 := hide (fun W h => FaultError_v hEF W h)
  have K5 := hide (fun W h h' => Check_v (A := A) (n := n) (cap := c) hE W hn h h')
  have K6 := hide (fun W h h' => FaultsError_v (A := A) (n := n) (cap := c) hE W hn h h')
  have K7 := hide (show ∀ W, Sl W W.heap.size FaultT.cs 3 A n l → Sl W W.heap.size FaultT.cs 3 A2 n2 m → FaultsOk W l → FaultsOk W m → Calls Try.prog 29 #[.slice A n c, .slice A2 n2 c2] W fun e w' => e = .returned (.bool SM) ∧ Below W.heap.size W w' from fun W h1 h2 h3 h4 => by have := Same_any A n c A2 n2 c2 l m W hn hn2 h1 h2 h3 h4; rw [hSM] at this; exact this)
  have K7' := hide (show ∀ W, Sl W W.heap.size FaultT.cs 3 A n l → FaultsOk W l → Calls Try.prog 29 #[.slice A n c, .slice A n c] W fun e w' => e = .returned (.bool true) ∧ Below W.heap.size W w' from fun W h1 h3 => by have := Same_any A n c A n c l l W hn hn h1 h1 h3 h3; rw [fltsEq_refl] at this; exact this)
  have K8 := hide (show ∀ W, Sl W W.heap.size FaultT.cs 3 A n l → Sl W W.heap.size FaultT.cs 3 A2 n2 m → FaultsOk W l → FaultsOk W m → Calls Try.prog 30 #[.slice A n c, .slice A2 n2 c2] W fun e w' => e = .returned (.bool SM) ∧ Below W.heap.size W w' from fun W h1 h2 h3 h4 => by have := SameFaults_any A n c A2 n2 c2 l m W hn hn2 h1 h2 h3 h4; rw [hSM] at this; exact this)
  have K9 := hide (show ∀ W, Sl W W.heap.size Frame.cs 6 B k a → Sl W W.heap.size Frame.cs 6 B2 k2 b → Calls Try.prog 31 #[.slice B k ck, .slice B2 k2 ck2] W fun e w' => e = .returned (.int .i64 (SH : Nat)) ∧ Below W.heap.size W w' from fun W h1 h2 => by have := Shared_any B k ck B2 k2 ck2 a b W hk hk2 h1 h2; rw [hSH] at this; exact this)
  have K10 := hide (show ∀ W, Sl W W.heap.size Frame.cs 6 B k a → Sl W W.heap.size Frame.cs 6 B2 k2 b → Calls Try.prog 32 #[.slice B k ck, .slice B2 k2 ck2] W fun e w' => e = .returned (.int .i64 (SH : Nat)) ∧ Below W.heap.size W w' from fun W h1 h2 => by have := SharedOf_any B k ck B2 k2 ck2 a b W hk hk2 h1 h2; rw [hSH] at this; exact this)
  have K11 := hide (fun W h h' => Culprit_ok A n c l W h10 h h' hsh hE)
  have K12 := hide (fun W h h' => CulpritOf_ok A n c l W h10 h h' hsh)
  obtain ⟨S, hS⟩ : ∃ S, culpritB l = S := ⟨_, rfl⟩
  rw [hS] at K11 K12
  have HL := hide hl
  have HLO := hide hlo
  have HM := hide hm
  have HMO := hide hmo
  have HA := hide ha
  have HB := hide hb
  have HFO := hide hfo
  have HBA : Hid (∀ o o' : Obj, Below w.heap.size w ((w.alloc o).alloc o')) := hide fun o o' => ((Below.refl _ _).alloc (Nat.le_refl _) o).alloc (by simp) o'
  clear hE hEX hEF hSM hSH hS hsh h10 hl hlo hm hmo ha hb hfo hx hn hn2 hk hk2
  go_enter Try.func6, Try.ntmps6
  go_wp2_with ((go_at_call 22; go_must (refine (K11.out _ (HL.out.up (HBA.out _ _)) (HLO.out.up (HBA.out _ _))).mono ?_; rintro r w1 ⟨rfl, hw1⟩; obtain ⟨hc1, hf1⟩ := bcell hw1; have hz1 := hw1.size; (try simp at hz1); have hB1 := bthen (w := w) hw1 (by go_grown) (by go_size); have x0_1 : w1.cell? ⟨w.heap.size, 0, none⟩ = some (.string x.mod) := (hc1 _ _ (by first | omega | (simp; done) | (simp; omega))).trans (by first | (simp [go_sem]; done) | (go_simp; done)); have x1_1 : w1.cell? ⟨w.heap.size, 1, none⟩ = some (.string x.fn) := (hc1 _ _ (by first | omega | (simp; done) | (simp; omega))).trans (by first | (simp [go_sem]; done) | (go_simp; done)); have x2_1 : w1.cell? ⟨w.heap.size, 2, none⟩ = some (.string x.file) := (hc1 _ _ (by first | omega | (simp; done) | (simp; omega))).trans (by first | (simp [go_sem]; done) | (go_simp; done)); have x3_1 : w1.cell? ⟨w.heap.size, 3, none⟩ = some (.int .i64 x.line) := (hc1 _ _ (by first | omega | (simp; done) | (simp; omega))).trans (by first | (simp [go_sem]; done) | (go_simp; done)); have x4_1 : w1.cell? ⟨w.heap.size, 4, none⟩ = some (.int .i64 x.addr) := (hc1 _ _ (by first | omega | (simp; done) | (simp; omega))).trans (by first | (simp [go_sem]; done) | (go_simp; done)); have x5_1 : w1.cell? ⟨w.heap.size, 5, none⟩ = some (.bool x.own) := (hc1 _ _ (by first | omega | (simp; done) | (simp; omega))).trans (by first | (simp [go_sem]; done) | (go_simp; done)); have f0_1 : w1.cell? ⟨w.heap.size + 1, 0, none⟩ = some (.string f.kind) := (hc1 _ _ (by first | omega | (simp; done) | (simp; omega))).trans (by first | (simp [go_sem]; done) | (go_simp; done)); have f1_1 : w1.cell? ⟨w.heap.size + 1, 1, none⟩ = some (.string f.text) := (hc1 _ _ (by first | omega | (simp; done) | (simp; omega))).trans (by first | (simp [go_sem]; done) | (go_simp; done)); have f2_1 : w1.cell? ⟨w.heap.size + 1, 2, none⟩ = some (.slice f.A f.n f.cap) := (hc1 _ _ (by first | omega | (simp; done) | (simp; omega))).trans (by first | (simp [go_sem]; done) | (go_simp; done)); clear hw1 hc1 hf1)))
  obtain ⟨I2, F2, hi2, hC2, hFB2, hJ2⟩ := fam [(⟨w.heap.size, 0, none⟩, .string x.mod), (⟨w.heap.size, 1, none⟩, .string x.fn), (⟨w.heap.size, 2, none⟩, .string x.file), (⟨w.heap.size, 3, none⟩, .int .i64 x.line), (⟨w.heap.size, 4, none⟩, .int .i64 x.addr), (⟨w.heap.size, 5, none⟩, .bool x.own), (⟨w.heap.size + 1, 0, none⟩, .string f.kind), (⟨w.heap.size + 1, 1, none⟩, .string f.text), (⟨w.heap.size + 1, 2, none⟩, .slice f.A f.n f.cap)] w w1 (Cells.cons x0_1 (Cells.cons x1_1 (Cells.cons x2_1 (Cells.cons x3_1 (Cells.cons x4_1 (Cells.cons x5_1 (Cells.cons f0_1 (Cells.cons f1_1 (Cells.cons f2_1 (Cells.nil _)))))))))) (by assumption); have hJ2 := hide hJ2; haveI : Nonempty I2 := ⟨hi2.choose⟩
  have x0_F := fun i => (hC2 i).head
  have x1_F := fun i => (hC2 i).tail.head
  have x2_F := fun i => (hC2 i).tail.tail.head
  have x3_F := fun i => (hC2 i).tail.tail.tail.head
  have x4_F := fun i => (hC2 i).tail.tail.tail.tail.head
  have x5_F := fun i => (hC2 i).tail.tail.tail.tail.tail.head
  have f0_F := fun i => (hC2 i).tail.tail.tail.tail.tail.tail.head
  have f1_F := fun i => (hC2 i).tail.tail.tail.tail.tail.tail.tail.head
  have f2_F := fun i => (hC2 i).tail.tail.tail.tail.tail.tail.tail.tail.head
  have HLF := hide (fun i => HL.out.up (hFB2 i))
  have HLOF := hide (fun i => HLO.out.up (hFB2 i))
  have HMF := hide (fun i => HM.out.up (hFB2 i))
  have HMOF := hide (fun i => HMO.out.up (hFB2 i))
  have HAF := hide (fun i => HA.out.up (hFB2 i))
  have HBF := hide (fun i => HB.out.up (hFB2 i))
  have HFF := hide (fun i => HFO.out.up (hFB2 i))
  have HFB2 := hide hFB2
  clear hC2 hFB2 x0_1 x1_1 x2_1 x3_1 x4_1 x5_1 f0_1 f1_1 f2_1
  refine wp_region_fam F2 hi2 (by kernel_rfl) (by kernel_rfl) ?_; (repeat (go_big_quiet_step (first | (go_at_call 23; refine (K1.out _).mono ?_; rintro r w' ⟨rfl, hw'⟩; exact ⟨rfl, hJ2.out _ _ hw'⟩) | (go_at_call 24; refine (K2.out _).mono ?_; rintro r w' ⟨rfl, hw'⟩; exact ⟨rfl, hJ2.out _ _ hw'⟩) | (go_at_call 25; refine (K3.out _ (HFF.out _)).mono ?_; rintro r w' ⟨rfl, hw'⟩; exact ⟨rfl, hJ2.out _ _ hw'⟩) | (go_at_call 26; refine (K4.out _ (HFF.out _)).mono ?_; rintro r w' ⟨rfl, hw'⟩; exact ⟨rfl, hJ2.out _ _ hw'⟩) | (go_at_call 27; refine (K5.out _ (HLF.out _) (HLOF.out _)).mono ?_; rintro r w' ⟨rfl, hw'⟩; exact ⟨rfl, hJ2.out _ _ hw'⟩) | (go_at_call 28; refine (K6.out _ (HLF.out _) (HLOF.out _)).mono ?_; rintro r w' ⟨rfl, hw'⟩; exact ⟨rfl, hJ2.out _ _ hw'⟩) | (go_at_call 29; refine (K7.out _ (HLF.out _) (HMF.out _) (HLOF.out _) (HMOF.out _)).mono ?_; rintro r w' ⟨rfl, hw'⟩; exact ⟨rfl, hJ2.out _ _ hw'⟩) | (go_at_call 29; refine (K7'.out _ (HLF.out _) (HLOF.out _)).mono ?_; rintro r w' ⟨rfl, hw'⟩; exact ⟨rfl, hJ2.out _ _ hw'⟩) | (go_at_call 30; refine (K8.out _ (HLF.out _) (HMF.out _) (HLOF.out _) (HMOF.out _)).mono ?_; rintro r w' ⟨rfl, hw'⟩; exact ⟨rfl, hJ2.out _ _ hw'⟩) | (go_at_call 31; refine (K9.out _ (HAF.out _) (HBF.out _)).mono ?_; rintro r w' ⟨rfl, hw'⟩; exact ⟨rfl, hJ2.out _ _ hw'⟩) | (go_at_call 32; refine (K10.out _ (HAF.out _) (HBF.out _)).mono ?_; rintro r w' ⟨rfl, hw'⟩; exact ⟨rfl, hJ2.out _ _ hw'⟩)))); refine wpQuiet_nil ?_; rintro _ ⟨i2, rfl⟩
  have hBi := HFB2.out i2
  go_wp2_with (first | (go_at_call 28; refine (K6.out _ (HLF.out _) (HLOF.out _)).mono ?_; rintro r w9 ⟨rfl, hw9⟩; have hB9 := hBi.trans (hw9.mono hBi.size)) | (go_at_call 33; refine (K12.out _ (HL.out.up hB9) (HLO.out.up hB9)).mono ?_; rintro r w10 ⟨rfl, hw10⟩; have hB10 := hB9.trans (hw10.mono hB9.size)))
  go_ret
  exact ⟨rfl, hB10⟩
theorem StackFaults_all : Calls Try.prog 6 #[.agg #[.string x.mod, .string x.fn, .string x.file, .int .i64 x.line, .int .i64 x.addr, .bool x.own], .agg #[.string f.kind, .string f.text, .slice f.A f.n f.cap], .slice A n c, .slice A2 n2 c2, .slice B k ck, .slice B2 k2 ck2] w fun e w' => e = .returned (.bool true) ∧ Below w.heap.size w w' := by
  by_cases hE : fltsErr l = 0
  · exact StackFaults_ok x f A n c l A2 n2 c2 m B k ck a B2 k2 ck2 b w hx hfo hn hl hlo hn2 hm hmo hk ha hk2 hb hE
  · exact StackFaults_bad x f A n c l A2 n2 c2 m B k ck a B2 k2 ck2 b w hx hfo hn hl hlo hn2 hm hmo hk ha hk2 hb hE
end
namespace stackFaults
set_option maxRecDepth 100000 in
theorem walk {H : Type} {enc : TypeId × Value → H} {d0 d1 d2 d3 d4 d5 : DataW H} {p0 p1 p2 p3 p4 p5 : List MemPlace} {base : Nat} {W : World}
    (v0 : Value) (k0 : DataW.Trod enc Try.prog W 0 (fun _ => true) true 30 v0 d0 p0) (ok0 : Value.okWide Try.prog W .any base 30 v0)
    (v1 : Value) (k1 : DataW.Trod enc Try.prog W 0 (fun _ => true) true 54 v1 d1 p1) (ok1 : Value.okWide Try.prog W .any base 54 v1)
    (v2 : Value) (k2 : DataW.Trod enc Try.prog W 0 (fun _ => true) true 55 v2 d2 p2) (ok2 : Value.okWide Try.prog W .any base 55 v2)
    (v3 : Value) (k3 : DataW.Trod enc Try.prog W 0 (fun _ => true) true 55 v3 d3 p3) (ok3 : Value.okWide Try.prog W .any base 55 v3)
    (v4 : Value) (k4 : DataW.Trod enc Try.prog W 0 (fun _ => true) true 22 v4 d4 p4) (ok4 : Value.okWide Try.prog W .any base 22 v4)
    (v5 : Value) (k5 : DataW.Trod enc Try.prog W 0 (fun _ => true) true 22 v5 d5 p5) (ok5 : Value.okWide Try.prog W .any base 22 v5) :
    Calls Try.prog 6 #[v0, v1, v2, v3, v4, v5] W fun e w' => e = .returned (.bool true) ∧ Below W.heap.size W w' := by
  obtain ⟨x, rfl, hx⟩ := open_frame ok0 k0
  obtain ⟨f, rfl, hf⟩ := open_fault ok1 k1
  obtain ⟨A2, n2, c2, l2, rfl, h2, hnc2, hcm2, ho2⟩ := open_faults ok2 k2
  obtain ⟨A3, n3, c3, l3, rfl, h3, hnc3, hcm3, ho3⟩ := open_faults ok3 k3
  obtain ⟨A4, n4, c4, l4, rfl, h4, hnc4, hcm4, hf4⟩ := open_frames ok4 k4
  obtain ⟨A5, n5, c5, l5, rfl, h5, hnc5, hcm5, hf5⟩ := open_frames ok5 k5
  exact StackFaults_all x f A2 n2 c2 l2 A3 n3 c3 l3 A4 n4 c4 l4 A5 n5 c5 l5 W hx hf (Nat.le_trans hnc2 hcm2) h2 ho2 (Nat.le_trans hnc3 hcm3) h3 ho3 (Nat.le_trans hnc4 hcm4) h4 (Nat.le_trans hnc5 hcm5) h5
end stackFaults
end Go.Proofs.Ytbfhicimjijdeaa
