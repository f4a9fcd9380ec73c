/-
  The statement WireStrings, of bounded bulk: PutList and PutString return the reference's codes, and GetList and GetString restore what was put, whatever follows; conditions: bulk at most 1048576.
-/
import Derived.Test.YtapembonmcolhaaRows
import Derived.Test.YtapembonmcolhaaAwake
import Derived.Test.YtapembonmcolhaaStrs
import Derived.OpenShut
import Derived.ShutString
import Derived.ChangeOld
import Derived.Below
import Derived.JoinedCond
set_option linter.unusedVariables false
namespace Go.Proofs.Ytapembonmcolhaa.wireStrings
open Go.ChangeShapes Go.WideShapes Go.ChangeAt Go.RowKit
open Go.ChangeMaps (open_string shut_string)

theorem code_size (xs : List ByteArray) : (V.putList (xs.map L)).length ≤ 10 + 10 * xs.length + tot xs := by
  rw [← preS_all]; exact preS_length xs xs.length

theorem list_back (xs : List ByteArray) (s r : ByteArray) (hs : s = S (V.putList (xs.map L))) (w : World) (hx : xs.length + tot xs ≤ 2000) (hr : r.size ≤ 100) :
    Calls Try.prog 23 #[.string (s ++ r)] w fun e w' => ∃ ao cap, e = .returned (.tuple #[.slice ao xs.length cap, .int .i64 s.size, .int .i64 0]) ∧ Cells w' ao xs.length (strAt xs) ∧ Below w.heap.size w w' := by
  subst hs
  rw [S_append]
  have hz := code_size xs
  have h := getList_any (S (V.putList (xs.map L) ++ L r)) w (by rw [S_size, List.length_append, L_length]; omega)
  rw [L_S, V.getStrs_putList (xs.map L) (L r) (by rw [List.length_map]; omega) (fun x hx => by
    obtain ⟨y, hy, rfl⟩ := List.mem_map.1 hx
    have := tot_mem hy
    rw [L_length]; omega)] at h
  refine h.mono ?_
  rintro e w' ⟨v, rfl, ho, hB⟩
  obtain ⟨ao, cap, rfl, hc⟩ := ownsS_cells ho
  rw [L_map_S, List.length_map] at hc
  refine ⟨ao, cap, ?_, hc, hB⟩
  rw [S_size, List.length_map]
  rfl

theorem one_back (x c r : ByteArray) (hc : c = S (V.putStr (L x))) (w : World) (hx : x.size ≤ 2000) (hr : r.size ≤ 100) :
    Calls Try.prog 17 #[.string (c ++ r)] w fun e w' => e = .returned (.tuple #[.string x, .int .i64 c.size, .int .i64 0]) ∧ w' = w := by
  subst hc
  rw [S_append]
  have hz := putStr_length x
  have h := getString_any (S (V.putStr (L x) ++ L r)) w (by rw [S_size, List.length_append, L_length]; omega)
  rw [L_S, V.getStr_putStr (L x) (L r) (by rw [L_length]; omega)] at h
  refine h.mono ?_
  rintro e w' ⟨rfl, rfl⟩
  exact ⟨by rw [S_size]; rfl, rfl⟩

set_option maxRecDepth 100000 in
set_option maxHeartbeats 4000000 in
theorem walk (v0 : Value) (x0 : Option Addr × Nat × List ByteArray) (r : ByteArray) (w : World)
    (w0 : IsStrs w v0 x0 ∧ x0.2.2.length + tot x0.2.2 ≤ 1048576) (w1 : r.size ≤ maxLen) :
    Calls Try.prog 10 #[v0, .string r] w fun e w' => e = .returned (.bool true) ∧ Below w.heap.size w w' := by
  obtain ⟨⟨rfl, hc, -, -⟩, hb⟩ := w0
  obtain ⟨ao, cap, xs⟩ := x0
  simp only at hc hb ⊢
  unfold maxLen at w1
  have Hc := Lib.hid hc; clear hc
  by_cases hx : xs.length + tot xs ≤ 2000
  · have hdx : decide (xs.length + tot xs ≤ 2000) = true := decide_eq_true hx
    by_cases hr : r.size ≤ 100
    · have hr1 : (r.size : Int) ≤ 100 := by omega
      obtain ⟨s, hs⟩ : ∃ s, s = S (V.putList (xs.map L)) := ⟨_, rfl⟩
      have hsz : s.size ≤ 100000 := by have := code_size xs; rw [hs, S_size]; omega
      have Hs := Lib.hid hs; clear hs
      have HG := Lib.hid (fun w => list_back xs s r Hs.out w hx hr)
      have HO := Lib.hid (fun x c hc w h => one_back x c r hc w h hr)
      go_enter Try.func10, Try.ntmps10
      go_wp2_with fail
      refine (awake_any _).mono ?_
      rintro e w1 ⟨rfl, hB1⟩
      go_wp2_with fail
      refine (short_any xs ao cap _ (Hc.out.keep hB1) (by omega)).mono ?_
      rintro e w2 ⟨rfl, rfl⟩
      rw [hdx]
      go_wp2_with fail
      refine (cloneS_any xs ao cap _ (Hc.out.keep hB1) (by omega)).mono ?_
      rintro e w2 ⟨co, cc, rfl, hcc, hB⟩
      have hB2 := hB1.trans (hB.mono hB1.size)
      have Hcc := Lib.hid hcc; clear hcc hB
      go_wp2_with fail
      refine (putList_any xs co cc _ Hcc.out (by omega) (by omega)).mono ?_
      rw [← Hs.out]
      rintro e w3 ⟨rfl, hB⟩
      have hB3 := hB2.trans (hB.mono hB2.size)
      clear hB Hcc
      go_wp2_with fail
      refine (HG.out _).mono ?_
      rintro e w4 ⟨mo, mc, rfl, hcm, hB⟩
      have hB4 := hB3.trans (hB.mono hB3.size)
      have Hcm := Lib.hid hcm; clear hcm hB
      go_wp2_with fail
      refine (refPutList_any xs ao cap _ (Hc.out.keep hB4) (by omega) (by omega)).mono ?_
      rw [← Hs.out]
      rintro e w5 ⟨rfl, hB⟩
      have hB5 := hB4.trans (hB.mono hB4.size)
      have hsm := same_any xs xs mo ao mc cap w5 (Hcm.out.keep hB) (Hc.out.keep hB5) (by omega)
      simp only [decide_true] at hsm
      have Hsm := Lib.hid hsm; clear hB Hcm hsm
      go_wp2_with fail
      refine Hsm.out.mono ?_
      rintro e w6 ⟨rfl, hD⟩
      have hB6 := hB5.trans (hD.below _)
      clear hD Hsm
      go_wp2_with fail
      go_loopw [10, 11, 12, 13, 14, 61] (fun _ _ _ _ _ i wr => ∃ k : Nat, i = .int .i64 k ∧ k ≤ xs.length ∧ Below w.heap.size w wr) (fun _ _ _ _ _ i _ => xs.length - (intOf i).toNat)
      case atStart => exact ⟨0, rfl, by omega, hB6⟩
      case round =>
        rename_i wr
        obtain ⟨k, rfl, hk, hB⟩ := hrel
        by_cases hlt : k < xs.length
        · obtain ⟨b, off, hao, hcell⟩ := (Hc.out.keep hB) k hlt
          subst hao
          have hcell' : wr.cell? ⟨b, off + k, none⟩ = some (.string (xs.getD k ByteArray.empty)) := hcell
          have Hx : Hid ((xs.getD k ByteArray.empty).size ≤ tot xs) := Lib.hid (tot_mem (by rw [List.getD_eq_getElem?_getD, List.getElem?_eq_getElem hlt]; exact List.getElem_mem hlt))
          generalize xs.getD k ByteArray.empty = x at hcell' Hx
          have hx2 := Hx.out
          clear hcell
          obtain ⟨c, hc⟩ : ∃ c, c = S (V.putStr (L x)) := ⟨_, rfl⟩
          have hcz : c.size ≤ 3000 := by have := putStr_length x; rw [hc, S_size]; omega
          have Hq := Lib.hid hc; clear hc
          go_wp2_with fail
          refine (putString_any x _ (by omega)).mono ?_
          rw [← Hq.out]
          rintro e w7 ⟨rfl, hB7⟩
          have hB8 := hB.trans (hB7.mono hB.size)
          clear hcell' hB7
          go_wp2_with fail
          refine (HO.out x c Hq.out _ (by omega)).mono ?_
          rintro e w8 ⟨rfl, rfl⟩
          go_wp2_with fail
          refine (refPutString_any x _ (by omega)).mono ?_
          rw [← Hq.out]
          rintro e w9 ⟨rfl, hB7⟩
          have hB9 := hB8.trans (hB7.mono hB8.size)
          clear hB7
          go_wp2_with fail
          go_roundw
          case rel => exact ⟨k + 1, by go_num, by omega, hB9⟩
          case measure => simp [intOf]; omega
        · go_wp2_with fail
          go_ret
          exact ⟨rfl, hB⟩
    · have hr1 : (100 : Int) < r.size := by omega
      go_enter Try.func10, Try.ntmps10
      go_wp2_with fail
      refine (awake_any _).mono ?_
      rintro e w1 ⟨rfl, hB1⟩
      go_wp2_with fail
      refine (short_any xs ao cap _ (Hc.out.keep hB1) (by omega)).mono ?_
      rintro e w2 ⟨rfl, rfl⟩
      rw [hdx]
      go_wp2_with fail
      refine (awake_any _).mono ?_
      rintro e w3 ⟨rfl, hB2⟩
      go_wp2_with fail
      go_ret
      exact ⟨rfl, hB1.trans (hB2.mono hB1.size)⟩
  · have hdx : decide (xs.length + tot xs ≤ 2000) = false := decide_eq_false hx
    go_enter Try.func10, Try.ntmps10
    go_wp2_with fail
    refine (awake_any _).mono ?_
    rintro e w1 ⟨rfl, hB1⟩
    go_wp2_with fail
    refine (short_any xs ao cap _ (Hc.out.keep hB1) (by omega)).mono ?_
    rintro e w2 ⟨rfl, rfl⟩
    rw [hdx]
    go_wp2_with fail
    refine (awake_any _).mono ?_
    rintro e w3 ⟨rfl, hB2⟩
    go_wp2_with fail
    go_ret
    exact ⟨rfl, hB1.trans (hB2.mono hB1.size)⟩


theorem own : ownKnob Try.prog.godebug = none := by kernel_rfl
theorem laidOut : laidOutB Try.prog = true := by kernel_rfl

set_option maxRecDepth 100000 in
theorem lifted (os : Os) (started : os.Started) (H : Type) (enc : TypeId × Value → H) (FI : Stop.Interp) :
    ReturnsInHanded {} Try.checked os 10 .any ((Rows.OpenSpec.upto Rows.wireStringsSpec).pre6 enc Try.prog Try.f10 Rows.wireStringsUptoRow.domain false) (((Rows.OpenSpec.upto Rows.wireStringsSpec).at FI).post enc Try.prog Try.f10 false true false false) := by
  refine returnsInHanded_of_cond (C := Try.checked) (s := Rows.OpenSpec.upto Rows.wireStringsSpec) (k := Rows.uptoSmall) rfl own started (by kernel_rfl) Try.func10
    (OpenSpec.witness (enc := enc) (C := Try.checked) (s := Rows.OpenSpec.upto Rows.wireStringsSpec) (k := Rows.uptoSmall) rfl false ⟨#[], #[.slice none 0 0, .string ByteArray.empty], []⟩ 8 (by kernel_rfl) (by kernel_rfl) (by kernel_rfl)
      (x := ([.nil, .lit (.string [])], [], [])) (by kernel_rfl) rfl (by kernel_rfl)) ?_
  intro W base args ds gs before hval0 hW hcnd hk _
  have hval : ∀ (j : Nat) t v, Try.f10.params[j]? = some t → args[j]? = some v → Value.okWide Try.prog W .any base t v := hval0
  have hW' := hW
  obtain ⟨p, q, hA0, hV, rfl, hfz, hnd⟩ := hW
  have hA : DataW.TrodAll enc Try.prog W 0 (fun _ => true) true Try.f10.params.toList args.toList ds p := hA0
  rw [Try.params10] at hA hval
  obtain ⟨v0, vs0, d0, ds0, p0, q0, hargs, rfl, rfl, h0, r0⟩ := trodAll_cons hA
  obtain ⟨v1, vs1, d1, ds1, p1, q1, rfl, rfl, rfl, h1, r1⟩ := trodAll_cons r0
  obtain ⟨rfl, rfl, rfl⟩ := trodAll_nil r1
  obtain rfl : args = #[v0, v1] := by cases args; simp_all
  obtain ⟨rfl, rfl⟩ := trodVars_none hV
  have k0 := h0
  have lt0 : ∀ x ∈ p0, x.block < W.heap.size := by obtain ⟨m, hm⟩ := k0; exact DataW.trod_lt m _ _ _ hm
  obtain ⟨x0, w0⟩ := openStrsB (hval 0 32 v0 rfl rfl) h0
  obtain ⟨a1, rfl, rfl, rfl, w1⟩ := open_string Try.underlying9 (hval 1 9 v1 rfl rfl) h1
  clear hA0 hval0
  have hk1 : Rows.uptoBulkAll _ ≤ 1048576 := of_decide_eq_true hk
  simp only [List.append_nil, Rows.uptoBulkAll] at hk1
  refine (walk v0 x0 a1 W ⟨w0.1, Nat.le_trans w0.2 (by omega)⟩ w1).mono fun e W' ⟨he, bel⟩ => ?_
  subst he
  exact ⟨_, rfl, _, _, _, [], _, [], hW', trodAll_mk1 (shut_bool Try.underlying4 _), (trodAll_cons_mk (Below.trod laidOut (by kernel_rfl) (of_decide_eq_true (by kernel_rfl)) k0 bel lt0) (trodAll_cons_mk (shut_string Try.underlying9 w1) trodAll_mk0)), rfl, bel.frame _, fun h => by cases h⟩

theorem over : Rows.wireStringsUptoRow.holds Try.pinned (Rows.OpenSpec.upto Rows.wireStringsSpec) :=
  OpenClaim.holds_of_cond 10 Try.f10 rfl rfl rfl rfl rfl rfl rfl ⟨rfl, rfl, rfl, rfl, rfl⟩ rfl rfl rfl rfl rfl (by kernel_rfl) Try.func10 (by kernel_rfl)
    (of_decide_eq_true (by kernel_rfl)) (by unfold Func.isWrapper; first | (rw [if_pos (by decide +kernel)]; kernel_rfl) | (rw [if_neg (by decide +kernel)]; exact ⟨rfl, rfl⟩))
    (fun os started H enc _ FI => lifted os started H enc FI)

/-- the statement -/
theorem proved : Rows.WireStringsUptoSaid := over
#print axioms proved
end Go.Proofs.Ytapembonmcolhaa.wireStrings
