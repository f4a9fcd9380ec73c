/-
  'add' processes one block.
-/
import Derived.Test.YtnhbgjgfneoajaaDoorAdd
import Derived.BigRegion
import Derived.Deep.RegionWith
set_option linter.unusedVariables false
namespace Go.Proofs.YtnhbgjgfneoajaaDoor.Dg
open Go.RowKit

theorem byt_lt (s : ByteArray) (i : Nat) (h : i < s.size) : N (D.byt s.data.toList i) = (s[i].toNat : Int) := by
  unfold D.byt
  rw [N_of _ (by have := (s.data.toList.getD i 0).toNat_lt; omega)]
  have e : s.data.toList.getD i 0 = s[i] := by
    rw [List.getD_eq_getElem?_getD, List.getElem?_eq_getElem (by rw [Array.length_toList]; exact h)]
    rfl
  rw [e]

theorem sch0_length (s : List UInt8) (n : Nat) : (D.sch0 s n).length = 64 := by
  induction n with
  | zero => simp [D.sch0]
  | succ n ih => simp [D.sch0, ih]
theorem sch1_length (l : List U) (h : l.length = 64) (n : Nat) : (D.sch1 l n).length = 64 := by
  induction n with
  | zero => simpa [D.sch1] using h
  | succ n ih => simp [D.sch1, ih]

theorem rnds_length (w v : List U) (h : v.length = 8) (n : Nat) : (D.rnds w v n).length = 8 := by
  cases n with
  | zero => exact h
  | succ n => rfl
theorem sums_length (s v : List U) (h : s.length = 8) (n : Nat) : (D.sums s v n).length = 8 := by
  induction n with
  | zero => exact h
  | succ n ih => simp [D.sums, ih]
theorem eight (l : List U) (h : l.length = 8) : ∃ a0 a1 a2 a3 a4 a5 a6 a7, l = [a0, a1, a2, a3, a4, a5, a6, a7] := by
  match l, h with
  | [a0, a1, a2, a3, a4, a5, a6, a7], _ => exact ⟨_, _, _, _, _, _, _, _, rfl⟩
theorem bDrewN {B : Nat} {a w : World} (h : Below B a w) (n : Nat) : Below B a (w.drewN n) := ⟨h.os, h.tape, h.output, h.size, h.block⟩

theorem rnds_eight (w v : List U) (h : v.length = 8) (n : Nat) : ∃ a0 a1 a2 a3 a4 a5 a6 a7, D.rnds w v n = [a0, a1, a2, a3, a4, a5, a6, a7] := eight _ (rnds_length w v h n)

theorem run_word (l : List U) (A : Array Value) (hA : (ws l).toArray = A) (hl : l.length = 64) (i : Nat) (h : i < 64) (w : World) :
    (Instr.index 102 (.agg A) (.int .i64 i)).run Tryd.prog w = .ok (.int .u32 (N (l.getD i 0))) w := by
  subst hA
  have hu := Tryd.underlying102
  obtain ⟨j, hj, hj2⟩ := Option.map_eq_some_iff.1 (show (Tryd.prog.info? 88).map (fun i => (i.size)) = some 1 from by kernel_rfl)
  simp [Instr.index, run_underlying hu, asIntOf, go_sem, sizeOf, typeInfo, hj, hj2]
  rw [if_pos h, ws_get l i (by omega)]
  simp

theorem run_byte (s : ByteArray) (i : Nat) (h : i < s.size) (n : Int) (hn : n = (i : Int)) (a : U) (ha : D.byt s.data.toList i = a) (w : World) :
    (Instr.index 9 (.string s) (.int .i64 n)).run Tryd.prog w = .ok (.int .u8 (N a)) w := by
  subst hn ha
  rw [byt_lt s i h]
  have hu := Tryd.underlying9

  simp [Instr.index, run_underlying hu, asIntOf, go_sem, h]

set_option maxRecDepth 100000 in
set_option maxHeartbeats 1000000 in
theorem add_any (b : Nat) (st : List U) (tail : List Value) (T : TypeId) (s : ByteArray) (w : World) (hs : s.size = 64) (hl : st.length = 8) (hb : Blk b (ws st ++ tail) T w) :
    Calls Tryd.prog 55 #[.pointer (some ⟨b, 0, none⟩), .string s] w fun e w' => e = .returned (.tuple #[]) ∧ Blk b (ws (D.comp st s.data.toList) ++ tail) T w' ∧ Keeps b w w' := by
  have Hb := Lib.hid hb; clear hb
  go_enter Tryd.func55, Tryd.ntmps55
  go_upto_region 1 with fail
  generalize hw1 : w.alloc _ = w1
  have hW : Blk w.heap.size (ws (D.sch0 s.data.toList 0)) 102 w1 := by rw [← hw1]; exact Blk.new (ws (List.replicate 64 0)) _ w
  have hB : Below w.heap.size w w1 := by rw [← hw1]; exact (Below.refl _ w).alloc (Nat.le_refl _) _
  clear hw1
  go_wp2_with fail
  go_loopw [5, 17] (fun _ i wr => ∃ k : Nat, i = .int .i64 k ∧ k ≤ 16 ∧ Blk w.heap.size (ws (D.sch0 s.data.toList k)) 102 wr ∧ Below w.heap.size w wr) (fun _ i _ => 16 - (intOf i).toNat)
  case atStart => exact ⟨0, rfl, by omega, hW, hB⟩
  case round =>
    rename_i wr
    obtain ⟨k, rfl, hk, hW, hB⟩ := hrel
    by_cases hlt : k < 16
    · have HW := Lib.hid hW
      have hcell : wr.cell? ⟨w.heap.size, k, none⟩ = some (.int .u32 (N ((D.sch0 s.data.toList k).getD k 0))) := by
        rw [hW.cell, ws_get _ _ (by rw [sch0_length]; omega)]
      have hfree := hW.free k
      clear hW
      go_wp2_with fail
      have hw : D.sch0 s.data.toList (k + 1) = (D.sch0 s.data.toList k).set k (D.word s.data.toList k) := rfl
      unfold D.word at hw
      have k0 := fun a ha => run_byte s (4 * k) (by omega) (4 * (k : Int)) (by omega) a ha
      have k1 := fun a ha => run_byte s (4 * k + 1) (by omega) (4 * (k : Int) + 1) (by omega) a ha
      have k2 := fun a ha => run_byte s (4 * k + 2) (by omega) (4 * (k : Int) + 2) (by omega) a ha
      have k3 := fun a ha => run_byte s (4 * k + 3) (by omega) (4 * (k : Int) + 3) (by omega) a ha
      generalize D.byt s.data.toList (4 * k) = a0 at hw k0
      generalize D.byt s.data.toList (4 * k + 1) = a1 at hw k1
      generalize D.byt s.data.toList (4 * k + 2) = a2 at hw k2
      generalize D.byt s.data.toList (4 * k + 3) = a3 at hw k3
      have k0 := k0 _ rfl
      have k1 := k1 _ rfl
      have k2 := k2 _ rfl
      have k3 := k3 _ rfl
      have Hs := Lib.hid hw; clear hw
      have r0 := wrap_N
      have r1 : ∀ a : U, IntKind.u32.wrap (N a * 16777216) = N (a <<< 24) := wshl 24
      have r2 : ∀ a : U, IntKind.u32.wrap (N a * 65536) = N (a <<< 16) := wshl 16
      have r3 : ∀ a : U, IntKind.u32.wrap (N a * 256) = N (a <<< 8) := wshl 8
      have r4 := wor
      refine region_tail 31 (by kernel_rfl) (by kernel_rfl) ?_
      simp only [List.take_succ_cons, List.take_zero, List.drop_succ_cons, List.drop_zero]
      repeat (first | go_big_quiet_skip | (go_big_quiet_want; go_big_quiet_op; first | go_big_quiet_on | (apply Exists.intro; refine And.intro ?_ ?_; (focus (fail)); go_big_quiet_on)))
      refine wpQuiet_nil ?_
      clear k0 k1 k2 k3 r0 r1 r2 r3 r4
      have hcell : wr.drew.cell? ⟨w.heap.size, k, none⟩ = some (.int .u32 (N ((D.sch0 s.data.toList k).getD k 0))) := hcell
      have hfree : wr.drew.frozen? ⟨w.heap.size, k, none⟩ = false := hfree
      go_wp2_with fail
      go_roundw
      case rel => exact ⟨k + 1, by go_num, by omega, by rw [Hs.out, ← ws_set]; exact (HW.out.set k _).drew, (hB.setCell (p := ⟨w.heap.size, k, none⟩) (Nat.le_refl _) _).drew⟩
      case measure => simp [intOf]; omega
    · obtain rfl : k = 16 := by omega
      go_wp2_with fail
      generalize hW0 : D.sch0 s.data.toList 16 = W0 at hW
      have hW0l : W0.length = 64 := by rw [← hW0]; exact sch0_length _ _
      have HW0 : ∀ _ : Unit, D.sch0 s.data.toList 16 = W0 := fun _ => hW0
      clear hW0
      go_loopw [6, 7, 8] (fun i _ _ wr => ∃ n : Nat, i = .int .i64 ((n : Int) + 16) ∧ n ≤ 48 ∧ Blk w.heap.size (ws (D.sch1 W0 n)) 102 wr ∧ Below w.heap.size w wr) (fun i _ _ _ => 64 - (intOf i).toNat)
      case atStart => exact ⟨0, rfl, by omega, hW, hB⟩
      case round =>
        rename_i wr
        obtain ⟨n, rfl, hn, hW, hB⟩ := hrel
        by_cases hlt : n < 48
        · have HW := Lib.hid hW
          have cell : ∀ j, j < 64 → wr.cell? ⟨w.heap.size, j, none⟩ = some (.int .u32 (N ((D.sch1 W0 n).getD j 0))) := fun j hj => by
            rw [hW.cell, ws_get _ _ (by rw [sch1_length _ hW0l]; exact hj)]
          have c0 := cell n (by omega)
          have c1 := cell (n + 1) (by omega)
          have c9 := cell (n + 9) (by omega)
          have c14 := cell (n + 14) (by omega)
          have c16 := cell (n + 16) (by omega)
          have hfree := hW.free (n + 16)
          have hw : D.sch1 W0 (n + 1) = (D.sch1 W0 n).set (n + 16) (D.mix ((D.sch1 W0 n).getD n 0) ((D.sch1 W0 n).getD (n + 9) 0) ((D.sch1 W0 n).getD (n + 1) 0) ((D.sch1 W0 n).getD (n + 14) 0)) := rfl
          clear hW cell
          generalize (D.sch1 W0 n).getD n 0 = p at c0 hw
          generalize (D.sch1 W0 n).getD (n + 9) 0 = r at c9 hw
          generalize (D.sch1 W0 n).getD (n + 1) 0 = x at c1 hw
          generalize (D.sch1 W0 n).getD (n + 14) 0 = y at c14 hw
          generalize (D.sch1 W0 n).getD (n + 16) 0 = z at c16 hw
          unfold D.mix at hw
          have Hs := Lib.hid hw; clear hw
          go_wp2_with fail
          go_quiet (fail)
          go_wp2_with fail
          have q0 := wadd
          have q1 := wxor
          have q2 : ∀ a b : U, bits .xor .u32 (N a) (N b / 8) = N (a ^^^ b >>> 3) := wxor_shr 3
          have q3 : ∀ a b : U, bits .xor .u32 (N a) (N b / 1024) = N (a ^^^ b >>> 10) := wxor_shr 10
          refine region_tail 29 (by kernel_rfl) (by kernel_rfl) ?_
          simp only [List.take_succ_cons, List.take_zero, List.drop_succ_cons, List.drop_zero]
          repeat (first | go_big_quiet_skip | (go_big_quiet_want; go_big_quiet_op; first | go_big_quiet_on | (apply Exists.intro; refine And.intro ?_ ?_; (focus (first | (go_at_call_of 62 (Value.int IntKind.i64 7); exact rotr_7 _ _) | (go_at_call_of 62 (Value.int IntKind.i64 18); exact rotr_18 _ _) | (go_at_call_of 62 (Value.int IntKind.i64 17); exact rotr_17 _ _) | (go_at_call_of 62 (Value.int IntKind.i64 19); exact rotr_19 _ _))); go_big_quiet_on)))
          refine wpQuiet_nil ?_
          clear q0 q1 q2 q3
          go_wp2_with fail
          go_roundw
          case rel =>
            refine ⟨n + 1, by go_num, by omega, ?_, ?_⟩
            · rw [Hs.out, ← ws_set]; exact ((HW.out.set (n + 16) _).drewN nq).drew
            · exact (bDrewN (hB.setCell (p := ⟨w.heap.size, n + 16, none⟩) (Nat.le_refl _) _) nq).drew
          case measure => simp [intOf]; omega
        · obtain rfl : n = 48 := by omega
          generalize hW1 : D.sch1 W0 48 = W1 at hW
          have hW1l : W1.length = 64 := by rw [← hW1]; exact sch1_length _ hW0l _
          have HW1 : ∀ _ : Unit, D.sch1 W0 48 = W1 := fun _ => hW1
          clear hW1
          obtain ⟨s0, s1, s2, s3, s4, s5, s6, s7, hst⟩ := eight st hl
          have Hst := Lib.hid hst; clear hst
          have hrange : wr.rangeAt b 0 [.int .u32 (N s0), .int .u32 (N s1), .int .u32 (N s2), .int .u32 (N s3), .int .u32 (N s4), .int .u32 (N s5), .int .u32 (N s6), .int .u32 (N s7)] := fun j v hv => by
            have hv : (ws st)[j]? = some v := by rw [Hst.out]; exact hv
            have hj : j < (ws st).length := (List.getElem?_eq_some_iff.1 hv).1
            rw [(Hb.out.keep hB).cell, Nat.zero_add, List.getElem?_append_left hj]; exact hv
          have HW := Lib.hid hW; clear hW
          go_upto_region 12 with (refine wpList_load_mid rfl 90 (.tmp 94) rfl b 0 rfl _ _ hrange Tryd.underlying90 rfl (by kernel_rfl) ?_)
          generalize hwv : wr.alloc _ = wv
          have hV : Blk wr.heap.size (ws (D.rnds W1 st 0)) 90 wv := by
            show Blk wr.heap.size (ws st) _ wv
            rw [← hwv, Hst.out]; exact Blk.new _ _ wr
          have hW : Blk w.heap.size (ws W1) 102 wv := by rw [← hwv]; exact HW.out.alloc _
          have hBv : Below w.heap.size w wv := by rw [← hwv]; exact hB.alloc hB.size _
          have hvs : w.heap.size < wr.heap.size := HW.out.lt
          generalize wr.heap.size = V at hV hvs
          clear hwv hrange HW hB
          go_wp2_with fail
          refine (constants_any wv).mono ?_
          rintro e w2 ⟨rfl, hBc⟩
          have hV := hV.keep hBc
          have hW := hW.keep hBc
          have hB := hBv.trans (hBc.mono hBv.size)
          clear hBc hBv
          generalize hKA : (ws D.K).toArray = KA
          have HKA := Lib.hid hKA; clear hKA
          go_wp2_with fail
          go_loopw [10, 11, 12, 13, 14, 15, 97] (fun _ _ _ _ _ _ i wr => ∃ n : Nat, i = .int .i64 (n : Int) ∧ n ≤ 64 ∧ Blk V (ws (D.rnds W1 st n)) 90 wr ∧ Blk w.heap.size (ws W1) 102 wr ∧ Below w.heap.size w wr) (fun _ _ _ _ _ _ i _ => 64 - (intOf i).toNat)
          case atStart => exact ⟨0, rfl, by omega, hV, hW, hB⟩
          case round =>
            rename_i wr
            obtain ⟨n, rfl, hn, hV, hW, hB⟩ := hrel
            by_cases hlt : n < 64
            · obtain ⟨a0, a1, a2, a3, a4, a5, a6, a7, hv⟩ := rnds_eight W1 st hl n
              have hs1 : D.rnds W1 st (n + 1) = D.rnd (D.rnds W1 st n) (D.K.getD n 0) (W1.getD n 0) := rfl
              rw [hv] at hV hs1
              have kk := fun A hA => run_word D.K A hA rfl n hlt
              have cw : wr.cell? ⟨w.heap.size, n, none⟩ = some (.int .u32 (N (W1.getD n 0))) := by rw [hW.cell, ws_get _ _ (by omega)]
              generalize D.K.getD n 0 = kn at hs1 kk
              generalize W1.getD n 0 = wn at hs1 cw
              have c0 : wr.cell? ⟨V, 0, none⟩ = some (.int .u32 (N a0)) := hV.cell 0
              have c1 : wr.cell? ⟨V, 1, none⟩ = some (.int .u32 (N a1)) := hV.cell 1
              have c2 : wr.cell? ⟨V, 2, none⟩ = some (.int .u32 (N a2)) := hV.cell 2
              have c3 : wr.cell? ⟨V, 3, none⟩ = some (.int .u32 (N a3)) := hV.cell 3
              have c4 : wr.cell? ⟨V, 4, none⟩ = some (.int .u32 (N a4)) := hV.cell 4
              have c5 : wr.cell? ⟨V, 5, none⟩ = some (.int .u32 (N a5)) := hV.cell 5
              have c6 : wr.cell? ⟨V, 6, none⟩ = some (.int .u32 (N a6)) := hV.cell 6
              have c7 : wr.cell? ⟨V, 7, none⟩ = some (.int .u32 (N a7)) := hV.cell 7
              have HV := Lib.hid hV
              have HW := Lib.hid hW
              have Hs := Lib.hid hs1
              have Hkk := Lib.hid (kk KA HKA.out)
              clear hV hW hs1 kk hv
              go_upto_region 14 with fail
              have kk := Hkk.out
              go_upto_region 15 with fail
              clear kk
              go_quiet (fail)
              go_upto_region 16 with fail
              have q0 := wadd
              have q1 := wxor
              have q2 := wand
              have q3 := wnot
              go_quiet (first | (go_at_call_of 62 (Value.int IntKind.i64 6); exact (rotr_6 _ _).mono (fun _ _ h => ⟨h.1, _, h.2⟩)) | (go_at_call_of 62 (Value.int IntKind.i64 11); exact (rotr_11 _ _).mono (fun _ _ h => ⟨h.1, _, h.2⟩)) | (go_at_call_of 62 (Value.int IntKind.i64 25); exact (rotr_25 _ _).mono (fun _ _ h => ⟨h.1, _, h.2⟩)))
              go_upto_region 17 with fail
              go_quiet (first | (go_at_call_of 62 (Value.int IntKind.i64 2); exact (rotr_2 _ _).mono (fun _ _ h => ⟨h.1, _, h.2⟩)) | (go_at_call_of 62 (Value.int IntKind.i64 13); exact (rotr_13 _ _).mono (fun _ _ h => ⟨h.1, _, h.2⟩)) | (go_at_call_of 62 (Value.int IntKind.i64 22); exact (rotr_22 _ _).mono (fun _ _ h => ⟨h.1, _, h.2⟩)))
              clear q1 q2 q3
              go_wp2_with (refine wpList_store_row rfl 90 (.tmp 9) (.tmp 176) rfl V _ rfl rfl 90 _ (show Blk V _ _ _ from HV.out) (by kernel_rfl) (by simp [ws]) (by simp [Value.oneCell']) ?_)
              go_roundw
              case rel =>
                refine ⟨n + 1, by go_num, by omega, ?_, ?_, ?_⟩
                · rw [Hs.out]; exact setRow_heap _ V _ _ _ _ (HV.out.drewN _)
                · exact (setRow_other _ V w.heap.size _ (by omega)).trans (HW.out.drewN _)
                · exact Below.setRow _ (bDrewN hB _) (by omega)
              case measure => simp [intOf]; omega
            · obtain rfl : n = 64 := by omega
              generalize hv8 : D.rnds W1 st 64 = v8 at hV
              have hv8l : v8.length = 8 := by rw [← hv8]; exact rnds_length _ _ hl _
              have Hv8 : ∀ _ : Unit, D.rnds W1 st 64 = v8 := fun _ => hv8
              have hb := Hb.out.keep hB
              have hbl := Hb.out.lt
              have hk := Keeps.of b hB
              clear hv8 hW hB
              go_wp2_with fail
              go_loopw [16, 178] (fun _ i wr => ∃ n : Nat, i = .int .i64 (n : Int) ∧ n ≤ 8 ∧ Blk b (ws (D.sums st v8 n) ++ tail) T wr ∧ Blk V (ws v8) 90 wr ∧ Keeps b w wr) (fun _ i _ => 8 - (intOf i).toNat)
              case atStart => exact ⟨0, rfl, by omega, hb, hV, hk⟩
              case round =>
                rename_i wr
                obtain ⟨n, rfl, hn, hb, hV, hk⟩ := hrel
                by_cases hlt : n < 8
                · have hln := sums_length st v8 hl n
                  have hs1 : D.sums st v8 (n + 1) = (D.sums st v8 n).set n ((D.sums st v8 n).getD n 0 + v8.getD n 0) := rfl
                  have cb : wr.cell? ⟨b, n, none⟩ = some (.int .u32 (N ((D.sums st v8 n).getD n 0))) := by
                    rw [hb.cell, List.getElem?_append_left (by rw [ws_length, hln]; exact hlt), ws_get _ _ (by omega)]
                  have cv : wr.cell? ⟨V, n, none⟩ = some (.int .u32 (N (v8.getD n 0))) := by rw [hV.cell, ws_get _ _ (by omega)]
                  have hfree := hb.free n
                  have hset : ∀ x, (ws (D.sums st v8 n) ++ tail).set n (.int .u32 (N x)) = ws ((D.sums st v8 n).set n x) ++ tail := fun x => by
                    rw [List.set_append_left _ _ (by rw [ws_length, hln]; exact hlt), ws_set]
                  generalize (D.sums st v8 n).getD n 0 = p at hs1 cb
                  generalize v8.getD n 0 = q at hs1 cv
                  have Hs := Lib.hid hs1
                  have Hset := Lib.hid hset
                  have HB := Lib.hid hb
                  have HV := Lib.hid hV
                  clear hs1 hset hb hV hln
                  go_upto_region 23 with fail
                  have q0 := wadd
                  refine region_tail 11 (by kernel_rfl) (by kernel_rfl) ?_
                  simp only [List.take_succ_cons, List.take_zero, List.drop_succ_cons, List.drop_zero]
                  repeat (first | go_big_quiet_skip | (go_big_quiet_want; go_big_quiet_op; first | go_big_quiet_on | (apply Exists.intro; refine And.intro ?_ ?_; (focus (fail)); go_big_quiet_on)))
                  refine wpQuiet_nil ?_
                  clear q0
                  go_wp2_with fail
                  go_roundw
                  case rel =>
                    have hk1 := hk.trans (Keeps.set b wr n (.int .u32 (N (p + q))))
                    refine ⟨n + 1, by go_num, by omega, ?_, ?_, ?_⟩
                    · rw [Hs.out, ← Hset.out]; exact (HB.out.set n _).drew
                    · exact (HV.out.other (c := b) n _ (by omega)).drew
                    · exact ⟨hk1.os, hk1.tape, hk1.output, hk1.size, hk1.block⟩
                  case measure => simp [intOf]; omega
                · obtain rfl : n = 8 := by omega
                  have hc : D.comp st s.data.toList = D.sums st v8 8 := by unfold D.comp; rw [HW0 (), HW1 (), Hv8 ()]
                  have Hc : ∀ _ : Unit, D.comp st s.data.toList = D.sums st v8 8 := fun _ => hc
                  clear hc
                  go_wp2_with fail
                  go_end0
                  exact ⟨rfl, by rw [Hc ()]; exact hb, hk⟩

end Go.Proofs.YtnhbgjgfneoajaaDoor.Dg
