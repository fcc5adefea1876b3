/- Walks of place and head: the line of a frame as it is written. -/
import Derived.Test.YtncpeokniffafaaGreatDoorStHex
import Derived.Test.YtncpeokniffafaaGreatDoorStBld
import Derived.Lib.LaidTab
namespace Go.Proofs.YtncpeokniffafaaGreatDoor
open Go.RowKit
set_option linter.unusedVariables false
/-- The library's tables stand in their blocks. -/
structure Tabs (w : World) : Prop where
  pow : Lib.TabIs Tryz.prog w "internal/strconv.uint64pow10" .u64 Lib.pow10Tab
  db : w.cell? ⟨5, 15, none⟩ = some (.int .u8 4)
  lt : 5 < w.heap.size
theorem Tabs.below {w w' : World} (h : Tabs w) (hB : Below w.heap.size w w') : Tabs w' := by
  refine ⟨?_, (hB.cell (p := ⟨5, 15, none⟩) h.lt).trans h.db, Nat.lt_of_lt_of_le h.lt hB.size⟩
  have hp := h.pow
  unfold Lib.TabIs World.var? at hp ⊢
  cases hgn : Tryz.prog.globalNamed "internal/strconv.uint64pow10" with
  | none => rw [hgn] at hp; cases hp
  | some g =>
    rw [hgn] at hp
    simp only [Option.bind_some] at hp ⊢
    split at hp
    · rename_i cs e fr hb
      rw [block_below hb hB]
      exact hp
    · cases hp
theorem told_len {n : Int} (h0 : 0 ≤ n) (h1 : n ≤ 9999999) : (toldL n).length ≤ 7 := digs_len 10 (by decide) 7 _ (by omega) (by decide)
theorem hex_len {n : Int} (h1 : n ≤ 281474976710655) : (digs 16 n.toNat).length ≤ 12 := digs_len 16 (by decide) 12 _ (by omega) (by decide)
theorem size_of {x : ByteArray} {l : List UInt8} (h : x.data.toList = l) : x.size = l.length := by rw [← h, Array.length_toList]; rfl
set_option maxRecDepth 100000 in
set_option maxHeartbeats 8000000 in
theorem place_any (x : Frame) (w : World) (hx : x.good) (ht : Tabs w) :
    Calls Tryz.prog 27 #[.agg #[.string x.mod, .string x.fn, .string x.file, .int .i64 x.line, .int .i64 x.addr, .bool x.own]] w fun e w' => e = .returned (.string ⟨(placeL x).toArray⟩) ∧ Below w.heap.size w w' := by
  obtain ⟨b0, b1, b2, b3, b4, b5, b6⟩ := hx
  have HB0 := hide (fun o : Obj => (Below.refl w.heap.size w).alloc (Nat.le_refl _) o)
  have HT0 := hide (fun o : Obj => ht.below (HB0.out o))
  obtain ⟨tb, htb⟩ : ∃ tb : ByteArray, ⟨(toldL x.line).toArray⟩ = tb := ⟨_, rfl⟩
  have htl : tb.data.toList = toldL x.line := by rw [← htb]
  have hts : tb.size ≤ 7 := by rw [size_of htl]; exact told_len b3 b4
  obtain ⟨xb, hxb⟩ : ∃ xb : ByteArray, ⟨(digs 16 x.addr.toNat).toArray⟩ = xb := ⟨_, rfl⟩
  have hxl : xb.data.toList = digs 16 x.addr.toNat := by rw [← hxb]
  have hxs : xb.size ≤ 12 := by rw [size_of hxl]; exact hex_len b6
  have HIT := hide (fun W (h : Tabs W) => Itoa_any x.line W b3 (by omega) h.pow)
  rw [htb] at HIT
  have HTL := hide htl
  have HXL := hide hxl
  clear htb htl
  have HFI := hide (fun W (h : Tabs W) (h0 : 0 ≤ x.addr) => FormatInt_any x.addr W h0 (by omega) h.db h.lt)
  rw [hxb] at HFI
  clear hxb hxl
  obtain ⟨fo, hfo⟩ : ∃ fo : Obj, fo = .cells #[.string x.mod, .string x.fn, .string x.file, .int .i64 x.line, .int .i64 x.addr, .bool x.own] 38 := ⟨_, rfl⟩
  have C0 := hide (show ∀ w1, Below (w.alloc fo).heap.size (w.alloc fo) w1 → w1.cell? ⟨w.heap.size, 4, none⟩ = some (.int .i64 x.addr) ∧ w1.cell? ⟨w.heap.size, 5, none⟩ = some (.bool x.own) from fun w1 h => by
    have hb := block_below (heap_alloc_new w fo) h
    rw [hfo] at hb
    exact ⟨(block_cell hb 4).trans rfl, (block_cell hb 5).trans rfl⟩)
  rw [hfo] at C0
  clear hfo
  cases hfe : emptyB x.file
  · have f1 : x.file.toList.isEmpty = false := hfe
    have f2 : ¬ x.file.toList = [] := by rw [← List.isEmpty_iff, f1]; decide
    by_cases hl : x.line = 0
    · by_cases ha : x.addr = -1
      · have ha1 : (x.addr == -1) = true := by simpa using ha
        cases ho : x.own
        · have E := hide (show placeL x = _ by unfold placeL partA partB partC; rw [if_neg (by rw [hfe]; decide), if_pos hl, if_pos ha, if_neg (by rw [ho]; decide)])
          clear hfe
          rw [ho] at C0
          rw [hl] at C0
          rw [ha] at C0
          go_enter Tryz.func27, Tryz.ntmps27
          go_wp2_with (fail)
          go_ret
          exact ⟨congrArg (fun x => Ending.returned (Value.string x)) (bytes_of (by rw [E.out]; simp [ByteArray.data_append])), (HB0.out _)⟩
        · have E := hide (show placeL x = _ by unfold placeL partA partB partC; rw [if_neg (by rw [hfe]; decide), if_pos hl, if_pos ha, if_pos ho])
          clear hfe
          rw [ho] at C0
          rw [hl] at C0
          rw [ha] at C0
          go_enter Tryz.func27, Tryz.ntmps27
          go_wp2_with (fail)
          go_ret
          exact ⟨congrArg (fun x => Ending.returned (Value.string x)) (bytes_of (by rw [E.out]; simp [ByteArray.data_append])), (HB0.out _)⟩
      · have ha1 : (x.addr == -1) = false := by simpa using ha
        have ha0 : 0 ≤ x.addr := by omega
        cases ho : x.own
        · have E := hide (show placeL x = _ by unfold placeL partA partB partC; rw [if_neg (by rw [hfe]; decide), if_pos hl, if_neg ha, if_neg (by rw [ho]; decide)])
          clear hfe
          rw [ho] at C0
          rw [hl] at C0
          go_enter Tryz.func27, Tryz.ntmps27
          go_wp2_with (fail)
          refine (HFI.out _ (HT0.out _) ha0).mono ?_
          rintro e w2 ⟨rfl, hw2⟩
          have hB2 := (HB0.out _).trans (hw2.mono (HB0.out _).size)
          have q5' := (C0.out _ hw2).2
          go_wp2_with (fail)
          go_ret
          exact ⟨congrArg (fun x => Ending.returned (Value.string x)) (bytes_of (by rw [E.out]; simp [ByteArray.data_append, HXL.out])), hB2⟩
        · have E := hide (show placeL x = _ by unfold placeL partA partB partC; rw [if_neg (by rw [hfe]; decide), if_pos hl, if_neg ha, if_pos ho])
          clear hfe
          rw [ho] at C0
          rw [hl] at C0
          go_enter Tryz.func27, Tryz.ntmps27
          go_wp2_with (fail)
          refine (HFI.out _ (HT0.out _) ha0).mono ?_
          rintro e w2 ⟨rfl, hw2⟩
          have hB2 := (HB0.out _).trans (hw2.mono (HB0.out _).size)
          have q5' := (C0.out _ hw2).2
          go_wp2_with (fail)
          go_ret
          exact ⟨congrArg (fun x => Ending.returned (Value.string x)) (bytes_of (by rw [E.out]; simp [ByteArray.data_append, HXL.out])), hB2⟩
    · have hl1 : (x.line == 0) = false := by simpa using hl
      by_cases ha : x.addr = -1
      · have ha1 : (x.addr == -1) = true := by simpa using ha
        cases ho : x.own
        · have E := hide (show placeL x = _ by unfold placeL partA partB partC; rw [if_neg (by rw [hfe]; decide), if_neg hl, if_pos ha, if_neg (by rw [ho]; decide)])
          clear hfe
          rw [ho] at C0
          rw [ha] at C0
          go_enter Tryz.func27, Tryz.ntmps27
          go_wp2_with (fail)
          refine (HIT.out _ (HT0.out _)).mono ?_
          rintro e w1 ⟨rfl, hw1⟩
          have hB1 := (HB0.out _).trans (hw1.mono (HB0.out _).size)
          have hcc := C0.out _ hw1
          have q4 := hcc.1
          have q5 := hcc.2
          have HT1 := hide (ht.below hB1)
          go_wp2_with (fail)
          go_ret
          exact ⟨congrArg (fun x => Ending.returned (Value.string x)) (bytes_of (by rw [E.out]; simp [ByteArray.data_append, HTL.out])), hB1⟩
        · have E := hide (show placeL x = _ by unfold placeL partA partB partC; rw [if_neg (by rw [hfe]; decide), if_neg hl, if_pos ha, if_pos ho])
          clear hfe
          rw [ho] at C0
          rw [ha] at C0
          go_enter Tryz.func27, Tryz.ntmps27
          go_wp2_with (fail)
          refine (HIT.out _ (HT0.out _)).mono ?_
          rintro e w1 ⟨rfl, hw1⟩
          have hB1 := (HB0.out _).trans (hw1.mono (HB0.out _).size)
          have hcc := C0.out _ hw1
          have q4 := hcc.1
          have q5 := hcc.2
          have HT1 := hide (ht.below hB1)
          go_wp2_with (fail)
          go_ret
          exact ⟨congrArg (fun x => Ending.returned (Value.string x)) (bytes_of (by rw [E.out]; simp [ByteArray.data_append, HTL.out])), hB1⟩
      · have ha1 : (x.addr == -1) = false := by simpa using ha
        have ha0 : 0 ≤ x.addr := by omega
        cases ho : x.own
        · have E := hide (show placeL x = _ by unfold placeL partA partB partC; rw [if_neg (by rw [hfe]; decide), if_neg hl, if_neg ha, if_neg (by rw [ho]; decide)])
          clear hfe
          rw [ho] at C0
          go_enter Tryz.func27, Tryz.ntmps27
          go_wp2_with (fail)
          refine (HIT.out _ (HT0.out _)).mono ?_
          rintro e w1 ⟨rfl, hw1⟩
          have hB1 := (HB0.out _).trans (hw1.mono (HB0.out _).size)
          have hcc := C0.out _ hw1
          have q4 := hcc.1
          have q5 := hcc.2
          have HT1 := hide (ht.below hB1)
          go_wp2_with (fail)
          refine (HFI.out _ HT1.out ha0).mono ?_
          rintro e w2 ⟨rfl, hw2⟩
          have hB2 := hB1.trans (hw2.mono hB1.size)
          have q5' := (hw2.cell (p := ⟨w.heap.size, 5, none⟩) (World.block_lt_of_cell? _ _ q5)).trans q5
          go_wp2_with (fail)
          go_ret
          exact ⟨congrArg (fun x => Ending.returned (Value.string x)) (bytes_of (by rw [E.out]; simp [ByteArray.data_append, HTL.out, HXL.out])), hB2⟩
        · have E := hide (show placeL x = _ by unfold placeL partA partB partC; rw [if_neg (by rw [hfe]; decide), if_neg hl, if_neg ha, if_pos ho])
          clear hfe
          rw [ho] at C0
          go_enter Tryz.func27, Tryz.ntmps27
          go_wp2_with (fail)
          refine (HIT.out _ (HT0.out _)).mono ?_
          rintro e w1 ⟨rfl, hw1⟩
          have hB1 := (HB0.out _).trans (hw1.mono (HB0.out _).size)
          have hcc := C0.out _ hw1
          have q4 := hcc.1
          have q5 := hcc.2
          have HT1 := hide (ht.below hB1)
          go_wp2_with (fail)
          refine (HFI.out _ HT1.out ha0).mono ?_
          rintro e w2 ⟨rfl, hw2⟩
          have hB2 := hB1.trans (hw2.mono hB1.size)
          have q5' := (hw2.cell (p := ⟨w.heap.size, 5, none⟩) (World.block_lt_of_cell? _ _ q5)).trans q5
          go_wp2_with (fail)
          go_ret
          exact ⟨congrArg (fun x => Ending.returned (Value.string x)) (bytes_of (by rw [E.out]; simp [ByteArray.data_append, HTL.out, HXL.out])), hB2⟩
  · have f1 : x.file.toList.isEmpty = true := hfe
    have f2 : x.file.toList = [] := List.isEmpty_iff.1 f1
    by_cases ha : x.addr = -1
    · have ha1 : (x.addr == -1) = true := by simpa using ha
      cases ho : x.own
      · have E := hide (show placeL x = _ by unfold placeL partA partB partC; rw [if_pos hfe, if_pos ha, if_neg (by rw [ho]; decide)])
        clear hfe
        rw [ho] at C0
        rw [ha] at C0
        go_enter Tryz.func27, Tryz.ntmps27
        go_wp2_with (fail)
        go_ret
        exact ⟨congrArg (fun x => Ending.returned (Value.string x)) (bytes_of (by rw [E.out]; simp)), (HB0.out _)⟩
      · have E := hide (show placeL x = _ by unfold placeL partA partB partC; rw [if_pos hfe, if_pos ha, if_pos ho])
        clear hfe
        rw [ho] at C0
        rw [ha] at C0
        go_enter Tryz.func27, Tryz.ntmps27
        go_wp2_with (fail)
        go_ret
        exact ⟨congrArg (fun x => Ending.returned (Value.string x)) (bytes_of (by rw [E.out]; simp [ByteArray.data_append])), (HB0.out _)⟩
    · have ha1 : (x.addr == -1) = false := by simpa using ha
      have ha0 : 0 ≤ x.addr := by omega
      cases ho : x.own
      · have E := hide (show placeL x = _ by unfold placeL partA partB partC; rw [if_pos hfe, if_neg ha, if_neg (by rw [ho]; decide)])
        clear hfe
        rw [ho] at C0
        go_enter Tryz.func27, Tryz.ntmps27
        go_wp2_with (fail)
        refine (HFI.out _ (HT0.out _) ha0).mono ?_
        rintro e w2 ⟨rfl, hw2⟩
        have hB2 := (HB0.out _).trans (hw2.mono (HB0.out _).size)
        have q5' := (C0.out _ hw2).2
        go_wp2_with (fail)
        go_ret
        exact ⟨congrArg (fun x => Ending.returned (Value.string x)) (bytes_of (by rw [E.out]; simp [ByteArray.data_append, HXL.out])), hB2⟩
      · have E := hide (show placeL x = _ by unfold placeL partA partB partC; rw [if_pos hfe, if_neg ha, if_pos ho])
        clear hfe
        rw [ho] at C0
        go_enter Tryz.func27, Tryz.ntmps27
        go_wp2_with (fail)
        refine (HFI.out _ (HT0.out _) ha0).mono ?_
        rintro e w2 ⟨rfl, hw2⟩
        have hB2 := (HB0.out _).trans (hw2.mono (HB0.out _).size)
        have q5' := (C0.out _ hw2).2
        go_wp2_with (fail)
        go_ret
        exact ⟨congrArg (fun x => Ending.returned (Value.string x)) (bytes_of (by rw [E.out]; simp [ByteArray.data_append, HXL.out])), hB2⟩
end Go.Proofs.YtncpeokniffafaaGreatDoor
