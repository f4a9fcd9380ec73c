/-
  The statement WirePrefix, of bounded bulk: no code of a list properly begins that of another list, and different lists have different codes; conditions: bulk at most 1048576.
-/
import Derived.Test.YtapembonmcolhaaRows
import Derived.Test.YtapembonmcolhaaAwake
import Derived.Test.YtapembonmcolhaaStrs
import Derived.OpenShut
import Derived.ShutString
import Derived.ChangeOld
import Derived.Below
import Derived.JoinedCond
import Derived.BigQuiet
set_option linter.unusedVariables false
namespace Go.Proofs.Ytapembonmcolhaa.wirePrefix
open Go.ChangeShapes Go.WideShapes Go.ChangeAt Go.RowKit
open Go.ChangeMaps (open_string shut_string)

theorem map_L_inj {xs ys : List ByteArray} (h : xs.map L = ys.map L) : xs = ys := by
  have e := congrArg (List.map S) h
  rwa [L_map_S, L_map_S] at e

theorem code_size (xs : List ByteArray) : (S (V.putList (xs.map L))).size ≤ 10 + 10 * xs.length + tot xs := by
  rw [S_size, ← preS_all]; exact preS_length xs xs.length

theorem get_code (xs : List ByteArray) (r : List UInt8) (h : xs.length + tot xs ≤ 2000) : (V.getStrs (V.putList (xs.map L) ++ r)).1 = xs.map L := by
  rw [V.getStrs_putList (xs.map L) r (by rw [List.length_map]; omega) (fun x hx => by
    obtain ⟨y, hy, rfl⟩ := List.mem_map.1 hx
    have := tot_mem hy
    rw [L_length]; omega)]

theorem begins_law (xs ys : List ByteArray) (hx : xs.length + tot xs ≤ 2000) (hy : ys.length + tot ys ≤ 2000) (s t : ByteArray) (hs : s = S (V.putList (xs.map L))) (ht : t = S (V.putList (ys.map L))) (hl : s.size ≤ t.size) :
    ((t.extract 0 s.size).toList == s.toList) = decide (xs = ys) := by
  subst hs ht
  by_cases e : xs = ys
  · subst e
    simp
  · rw [decide_eq_false e]
    refine Bool.eq_false_iff.2 (fun h => e ?_)
    have h1 : (S (V.putList (ys.map L))).extract 0 (S (V.putList (xs.map L))).size = S (V.putList (xs.map L)) := bytes_eq (by rw [h]; rfl)
    have h2 : (V.putList (ys.map L)).take (V.putList (xs.map L)).length = V.putList (xs.map L) := by
      have h3 := congrArg L h1
      rw [S_size] at h3
      refine Eq.trans ?_ (h3.trans (L_S _))
      simp [S, L]
    have h3 := get_code ys [] hy
    rw [List.append_nil, ← List.take_append_drop (V.putList (xs.map L)).length (V.putList (ys.map L)), h2, get_code xs _ hx] at h3
    exact map_L_inj h3

theorem eq_comm_dec (xs ys : List ByteArray) : decide (ys = xs) = decide (xs = ys) := by by_cases h : xs = ys <;> simp [h, eq_comm]

set_option maxRecDepth 100000 in
set_option maxHeartbeats 2000000 in
theorem walk (v0 : Value) (x0 : Option Addr × Nat × List ByteArray) (v1 : Value) (x1 : Option Addr × Nat × List ByteArray) (w : World)
    (w0 : IsStrs w v0 x0 ∧ x0.2.2.length + tot x0.2.2 ≤ 1048576) (w1 : IsStrs w v1 x1 ∧ x1.2.2.length + tot x1.2.2 ≤ 1048576) :
    Calls Try.prog 6 #[v0, v1] w fun e w' => e = .returned (.bool true) ∧ Below w.heap.size w w' := by
  obtain ⟨⟨rfl, hc, -, -⟩, hb⟩ := w0
  obtain ⟨⟨rfl, hc1, -, -⟩, hb1⟩ := w1
  obtain ⟨ao, cap, xs⟩ := x0
  obtain ⟨bo, cbp, ys⟩ := x1
  simp only at hc hb hc1 hb1 ⊢
  have Hc := Lib.hid hc; clear hc
  have Hc1 := Lib.hid hc1; clear hc1
  by_cases hx : xs.length + tot xs ≤ 2000
  · by_cases hy : ys.length + tot ys ≤ 2000
    · obtain ⟨s, hs⟩ : ∃ s, s = S (V.putList (xs.map L)) := ⟨_, rfl⟩
      obtain ⟨t, ht⟩ : ∃ t, t = S (V.putList (ys.map L)) := ⟨_, rfl⟩
      have hsz : s.size ≤ 100000 := by have := code_size xs; rw [← hs] at this; omega
      have htz : t.size ≤ 100000 := by have := code_size ys; rw [← ht] at this; omega
      have Hs := Lib.hid hs; clear hs
      have Ht := Lib.hid ht; clear ht
      have P1 := Lib.hid (fun (h : s.size ≤ t.size) => begins_law xs ys hx hy s t Hs.out Ht.out h)
      have P2 := Lib.hid (fun (h : t.size ≤ s.size) => begins_law ys xs hy hx t s Ht.out Hs.out h)
      have hdx : decide (xs.length + tot xs ≤ 2000) = true := decide_eq_true hx
      have hdy : decide (ys.length + tot ys ≤ 2000) = true := decide_eq_true hy
      go_enter Try.func6, Try.ntmps6
      go_wp2_with fail
      refine (awake_any _).mono ?_
      rintro e w1 ⟨rfl, hB1⟩
      go_wp2_with fail
      refine (short_any xs ao cap _ (Hc.out.keep hB1) (by omega)).mono ?_
      rintro e w2 ⟨rfl, rfl⟩
      rw [hdx]
      go_wp2_with fail
      refine (short_any ys bo cbp _ (Hc1.out.keep hB1) (by omega)).mono ?_
      rintro e w2 ⟨rfl, rfl⟩
      rw [hdy]
      go_wp2_with fail
      refine (cloneS_any xs ao cap _ (Hc.out.keep hB1) (by omega)).mono ?_
      rintro e w2 ⟨co, cc, rfl, hcc, hB⟩
      have hB2 := hB1.trans (hB.mono hB1.size)
      have Hcc := Lib.hid hcc; clear hcc hB
      go_wp2_with fail
      refine (putList_any xs co cc _ Hcc.out (by omega) (by omega)).mono ?_
      rw [← Hs.out]
      rintro e w3 ⟨rfl, hB⟩
      have hB3 := hB2.trans (hB.mono hB2.size)
      clear hB Hcc
      go_wp2_with fail
      refine (cloneS_any ys bo cbp _ (Hc1.out.keep hB3) (by omega)).mono ?_
      rintro e w4 ⟨co, cc, rfl, hcc, hB⟩
      have hB4 := hB3.trans (hB.mono hB3.size)
      have Hcc := Lib.hid hcc; clear hcc hB
      go_wp2_with fail
      refine (putList_any ys co cc _ Hcc.out (by omega) (by omega)).mono ?_
      rw [← Ht.out]
      rintro e w5 ⟨rfl, hB⟩
      have hB5 := hB4.trans (hB.mono hB4.size)
      clear hB Hcc
      have HCx : ∀ n, Cells (w5.drewN n) ao xs.length (strAt xs) := fun n => (Hc.out.keep hB5).keep (Drawn.below ⟨n, rfl⟩ _)
      have HCy : ∀ n, Cells (w5.drewN n) bo ys.length (strAt ys) := fun n => (Hc1.out.keep hB5).keep (Drawn.below ⟨n, rfl⟩ _)
      by_cases hle : s.size ≤ t.size
      · have hle1 : (s.size : Int) ≤ t.size := by omega
        have P := Lib.hid (P1.out hle)
        go_wp2_with fail
        go_quiet (first | (go_at_call 22; exact Calls.quiet_of (same_any xs ys ao bo cap cbp _ (HCx _) (HCy _) (by omega))))
        go_wp2_with fail
        go_ret
        exact ⟨retB (by rw [P.out]; simp), hB5.trans (Drawn.below ⟨_, rfl⟩ _)⟩
      · have hle1 : (t.size : Int) ≤ s.size := by omega
        have P := Lib.hid (P2.out (by omega))
        go_wp2_with fail
        go_quiet (first | (go_at_call 22; exact Calls.quiet_of (same_any xs ys ao bo cap cbp _ (HCx _) (HCy _) (by omega))))
        go_wp2_with fail
        go_ret
        exact ⟨retB (by rw [P.out, eq_comm_dec xs ys]; simp), hB5.trans (Drawn.below ⟨_, rfl⟩ _)⟩
    · have hdx : decide (xs.length + tot xs ≤ 2000) = true := decide_eq_true hx
      have hdy : decide (ys.length + tot ys ≤ 2000) = false := decide_eq_false hy
      go_enter Try.func6, Try.ntmps6
      go_wp2_with fail
      refine (awake_any _).mono ?_
      rintro e w1 ⟨rfl, hB1⟩
      go_wp2_with fail
      refine (short_any xs ao cap _ (Hc.out.keep hB1) (by omega)).mono ?_
      rintro e w2 ⟨rfl, rfl⟩
      rw [hdx]
      go_wp2_with fail
      refine (short_any ys bo cbp _ (Hc1.out.keep hB1) (by omega)).mono ?_
      rintro e w2 ⟨rfl, rfl⟩
      rw [hdy]
      go_wp2_with fail
      refine (awake_any _).mono ?_
      rintro e w3 ⟨rfl, hB2⟩
      go_wp2_with fail
      go_ret
      exact ⟨rfl, hB1.trans (hB2.mono hB1.size)⟩
  · have hdx : decide (xs.length + tot xs ≤ 2000) = false := decide_eq_false hx
    go_enter Try.func6, Try.ntmps6
    go_wp2_with fail
    refine (awake_any _).mono ?_
    rintro e w1 ⟨rfl, hB1⟩
    go_wp2_with fail
    refine (short_any xs ao cap _ (Hc.out.keep hB1) (by omega)).mono ?_
    rintro e w2 ⟨rfl, rfl⟩
    rw [hdx]
    go_wp2_with fail
    refine (awake_any _).mono ?_
    rintro e w3 ⟨rfl, hB2⟩
    go_wp2_with fail
    go_ret
    exact ⟨rfl, hB1.trans (hB2.mono hB1.size)⟩


theorem own : ownKnob Try.prog.godebug = none := by kernel_rfl
theorem laidOut : laidOutB Try.prog = true := by kernel_rfl

set_option maxRecDepth 100000 in
theorem lifted (os : Os) (started : os.Started) (H : Type) (enc : TypeId × Value → H) (FI : Stop.Interp) :
    ReturnsInHanded {} Try.checked os 6 .any ((Rows.OpenSpec.upto Rows.wirePrefixSpec).pre6 enc Try.prog Try.f6 Rows.wirePrefixUptoRow.domain false) (((Rows.OpenSpec.upto Rows.wirePrefixSpec).at FI).post enc Try.prog Try.f6 false true false false) := by
  refine returnsInHanded_of_cond (C := Try.checked) (s := Rows.OpenSpec.upto Rows.wirePrefixSpec) (k := Rows.uptoSmall) rfl own started (by kernel_rfl) Try.func6
    (OpenSpec.witness (enc := enc) (C := Try.checked) (s := Rows.OpenSpec.upto Rows.wirePrefixSpec) (k := Rows.uptoSmall) rfl false ⟨#[], #[.slice none 0 0, .slice none 0 0], []⟩ 8 (by kernel_rfl) (by kernel_rfl) (by kernel_rfl)
      (x := ([.nil, .nil], [], [])) (by kernel_rfl) rfl (by kernel_rfl)) ?_
  intro W base args ds gs before hval0 hW hcnd hk _
  have hval : ∀ (j : Nat) t v, Try.f6.params[j]? = some t → args[j]? = some v → Value.okWide Try.prog W .any base t v := hval0
  have hW' := hW
  obtain ⟨p, q, hA0, hV, rfl, hfz, hnd⟩ := hW
  have hA : DataW.TrodAll enc Try.prog W 0 (fun _ => true) true Try.f6.params.toList args.toList ds p := hA0
  rw [Try.params6] at hA hval
  obtain ⟨v0, vs0, d0, ds0, p0, q0, hargs, rfl, rfl, h0, r0⟩ := trodAll_cons hA
  obtain ⟨v1, vs1, d1, ds1, p1, q1, rfl, rfl, rfl, h1, r1⟩ := trodAll_cons r0
  obtain ⟨rfl, rfl, rfl⟩ := trodAll_nil r1
  obtain rfl : args = #[v0, v1] := by cases args; simp_all
  obtain ⟨rfl, rfl⟩ := trodVars_none hV
  have k0 := h0
  have lt0 : ∀ x ∈ p0, x.block < W.heap.size := by obtain ⟨m, hm⟩ := k0; exact DataW.trod_lt m _ _ _ hm
  obtain ⟨x0, w0⟩ := openStrsB (hval 0 32 v0 rfl rfl) h0
  have k1 := h1
  have lt1 : ∀ x ∈ p1, x.block < W.heap.size := by obtain ⟨m, hm⟩ := k1; exact DataW.trod_lt m _ _ _ hm
  obtain ⟨x1, w1⟩ := openStrsB (hval 1 32 v1 rfl rfl) h1
  clear hA0 hval0
  have hk1 : Rows.uptoBulkAll _ ≤ 1048576 := of_decide_eq_true hk
  simp only [List.append_nil, Rows.uptoBulkAll] at hk1
  refine (walk v0 x0 v1 x1 W ⟨w0.1, Nat.le_trans w0.2 (by omega)⟩ ⟨w1.1, Nat.le_trans w1.2 (by omega)⟩).mono fun e W' ⟨he, bel⟩ => ?_
  subst he
  exact ⟨_, rfl, _, _, _, [], _, [], hW', trodAll_mk1 (shut_bool Try.underlying4 _), (trodAll_cons_mk (Below.trod laidOut (by kernel_rfl) (of_decide_eq_true (by kernel_rfl)) k0 bel lt0) (trodAll_cons_mk (Below.trod laidOut (by kernel_rfl) (of_decide_eq_true (by kernel_rfl)) k1 bel lt1) trodAll_mk0)), rfl, bel.frame _, fun h => by cases h⟩

theorem over : Rows.wirePrefixUptoRow.holds Try.pinned (Rows.OpenSpec.upto Rows.wirePrefixSpec) :=
  OpenClaim.holds_of_cond 6 Try.f6 rfl rfl rfl rfl rfl rfl rfl ⟨rfl, rfl, rfl, rfl, rfl⟩ rfl rfl rfl rfl rfl (by kernel_rfl) Try.func6 (by kernel_rfl)
    (of_decide_eq_true (by kernel_rfl)) (by unfold Func.isWrapper; first | (rw [if_pos (by decide +kernel)]; kernel_rfl) | (rw [if_neg (by decide +kernel)]; exact ⟨rfl, rfl⟩))
    (fun os started H enc _ FI => lifted os started H enc FI)

/-- the statement -/
theorem proved : Rows.WirePrefixUptoSaid := over
#print axioms proved
end Go.Proofs.Ytapembonmcolhaa.wirePrefix
