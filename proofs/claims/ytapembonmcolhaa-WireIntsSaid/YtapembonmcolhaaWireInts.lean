/-
  The statement WireInts: for every list of at most 300 integers and every text of at most 100 bytes behind it, PutInts returns the reference's code and GetInts restores the list; conditions: none beyond the row's own.
-/
import Derived.Test.YtapembonmcolhaaRows
import Derived.Test.YtapembonmcolhaaAwake
import Derived.Test.YtapembonmcolhaaOpen
import Derived.OpenShut
import Derived.ShutString
import Derived.ChangeOld
import Derived.Below
set_option linter.unusedVariables false
namespace Go.Proofs.Ytapembonmcolhaa.wireInts
open Go.ChangeShapes Go.WideShapes Go.ChangeAt Go.RowKit
open Go.ChangeMaps (open_string shut_string)

/-- a copy of a slice of integers: the same elements -/
def RetCopy (xs : List Int) (w : World) (e : Ending) (w' : World) : Prop := ∃ ao cap, e = .returned (.slice ao xs.length cap) ∧ Cells w' ao xs.length (intAt xs) ∧ Below w.heap.size w w'

theorem clone_any (xs : List Int) (ao : Option Addr) (cap : Nat) (w : World) (hc : Cells w ao xs.length (intAt xs)) (hn : xs.length ≤ 300) :
    Calls Try.prog 41 #[.slice ao xs.length cap] w (RetCopy xs w) := by
  have fin : ∀ (v' : Value) (w' : World), w'.ownsRow w.heap.size 3 1 v' xs.length (xs.map (Value.int .i64)) → ∃ ao cap, v' = .slice ao xs.length cap ∧ Cells w' ao xs.length (intAt xs) := by
    intro v' w' ho
    exact ownsI_cells (B := w.heap.size) ho
  rcases ao with _ | a
  · have h0 : xs.length = 0 := by
      rcases Nat.eq_zero_or_pos xs.length with h | h
      · exact h
      · obtain ⟨b, off, e, _⟩ := hc 0 h; cases e
    refine (Try.slices_Clone_int_nil xs.length cap w).mono ?_
    rintro e w' ⟨rfl, rfl⟩
    exact ⟨none, 0, by rw [h0], fun i hi => absurd hi (by omega), Below.refl _ _⟩
  · rcases Nat.eq_zero_or_pos xs.length with h0 | h0
    · have hx : xs = [] := List.length_eq_zero_iff.1 h0
      subst hx
      refine (Try.slices_Clone_int_zero a cap w).mono ?_
      rintro e w' ⟨v', rfl, ho, _, hB⟩
      obtain ⟨ao, c, rfl, hc'⟩ := fin v' w' ho
      exact ⟨ao, c, rfl, hc', hB⟩
    · obtain ⟨b, off, e, _⟩ := hc 0 h0
      injection e with e
      subst e
      refine (Try.slices_Clone_int b off xs.length cap xs w (Nat.le_refl _) (by omega) (fun j hj => by
        obtain ⟨b', off', e', h'⟩ := hc j hj
        injection e' with e'
        injection e' with e1 e2
        subst e1 e2
        exact h')).mono ?_
      rintro e w' ⟨v', rfl, ho, _, hB⟩
      rw [List.take_of_length_le (Nat.le_refl _)] at ho
      obtain ⟨ao, c, rfl, hc'⟩ := fin v' w' ho
      exact ⟨ao, c, rfl, hc', hB⟩

theorem putInts_length (xs : List Int) : (V.putInts xs).length ≤ 10 + 10 * xs.length := by
  rw [← preI_all]; exact preI_length xs xs.length

theorem get_back (xs : List Int) (r : ByteArray) (w : World) (hn : xs.length ≤ 300) (hf : Fits xs) (hr : r.size ≤ 100) :
    Calls Try.prog 25 #[.string (S (V.putInts xs) ++ r)] w (RetI w.heap.size (xs, (V.putInts xs).length, 0) w) := by
  rw [S_append]
  have h := getInts_any (S (V.putInts xs ++ L r)) w (by rw [S_size, List.length_append, L_length]; have := putInts_length xs; omega)
  rw [L_S, V.getInts_putInts xs (L r) (by omega) hf] at h
  exact h

set_option maxRecDepth 100000 in
set_option maxHeartbeats 2000000 in
theorem walk (v : Value) (x : Option Addr × Nat × List Int) (a1 : ByteArray) (w : World) (w0 : IsInts w v x) (w1 : a1.size ≤ maxLen) :
    Calls Try.prog 11 #[v, .string a1] w fun e w' => e = .returned (.bool true) ∧ Below w.heap.size w w' := by
  obtain ⟨rfl, hc, hf, hm⟩ := w0
  obtain ⟨ao, cap, xs⟩ := x
  simp only at hc hf hm ⊢
  unfold maxLen at w1 hm
  have Hc := Lib.hid hc; clear hc
  have Hf := Lib.hid hf; clear hf
  by_cases hn : xs.length ≤ 300
  · by_cases hs : a1.size ≤ 100
    · have hp := putInts_length xs
      have HG := Lib.hid (fun w => get_back xs a1 w hn Hf.out hs)
      go_enter Try.func11, Try.ntmps11
      go_wp2_with (go_at_call 12; refine (awake_any _).mono ?_; rintro e w1 ⟨rfl, hB⟩)
      refine (clone_any xs ao cap _ (Hc.out.keep hB) hn).mono ?_
      rintro e w2 ⟨bo, cb, rfl, hcb, hB2⟩
      have hB3 := hB.trans (hB2.mono hB.size)
      have Hcb := Lib.hid hcb
      clear hB hB2 hcb
      go_wp2_with fail
      refine (putInts_any xs bo cb _ Hcb.out (by omega) Hf.out).mono ?_
      rintro e w3 ⟨rfl, hB⟩
      have hB4 := hB3.trans (hB.mono hB3.size)
      clear hB hB3 Hcb
      go_wp2_with fail
      refine (HG.out _).mono ?_
      rintro e w4 ⟨vm, rfl, hom, hB⟩
      obtain ⟨mo, cm, rfl, hcm⟩ := ownsI_cells hom
      have hB5 := hB4.trans (hB.mono hB4.size)
      have Hcm := Lib.hid hcm
      clear hB hB4 hom hcm
      go_wp2_with fail
      refine (refPutInts_any xs ao cap _ (Hc.out.keep hB5) (by omega) Hf.out).mono ?_
      rintro e w5 ⟨rfl, hB⟩
      have hB6 := hB5.trans (hB.mono hB5.size)
      have Hcm5 := Lib.hid (Hcm.out.keep hB)
      clear hB hB5 Hcm
      go_wp2_with fail
      have hs := ints_any xs xs mo ao cm cap w5 Hcm5.out (Hc.out.keep hB6) (by omega)
      simp only [decide_true] at hs
      refine hs.mono ?_
      rintro e w6 ⟨rfl, hD⟩
      have hB7 := hB6.trans (hD.below _)
      clear hD hs
      go_wp2_with fail
      go_ret
      exact ⟨rfl, hB7⟩
    · go_enter Try.func11, Try.ntmps11
      go_wp2_with fail
      refine (awake_any _).mono ?_
      rintro e w1 ⟨rfl, hB⟩
      go_wp2_with fail
      refine (awake_any _).mono ?_
      rintro e w2 ⟨rfl, hB2⟩
      go_wp2_with fail
      go_ret
      exact ⟨rfl, hB.trans (hB2.mono hB.size)⟩
  · go_enter Try.func11, Try.ntmps11
    go_wp2_with fail
    refine (awake_any _).mono ?_
    rintro e w1 ⟨rfl, hB⟩
    go_wp2_with fail
    refine (awake_any _).mono ?_
    rintro e w2 ⟨rfl, hB2⟩
    go_wp2_with fail
    go_ret
    exact ⟨rfl, hB.trans (hB2.mono hB.size)⟩

theorem own : ownKnob Try.prog.godebug = none := by kernel_rfl
theorem laidOut : laidOutB Try.prog = true := by kernel_rfl

set_option maxRecDepth 100000 in
theorem lifted (os : Os) (started : os.Started) (H : Type) (enc : TypeId × Value → H) :
    ReturnsInHanded {} Try.checked os 11 .any (Rows.wireIntsSpec.pre6 enc Try.prog Try.f11 Rows.wireIntsRow.domain false) (Rows.wireIntsSpec.post enc Try.prog Try.f11 false true false false) := by
  refine returnsInHanded_of_change (C := Try.checked) own started (by kernel_rfl) Try.func11
    (ChangeSpec.witness6 (enc := enc) (C := Try.checked) false ⟨#[], #[.slice none 0 0, .string ByteArray.empty], []⟩ 8 (by kernel_rfl) (by kernel_rfl) (by kernel_rfl) (by kernel_rfl)) ?_
  intro W base args ds gs before hval0 hW hcnd _
  have hval : ∀ (j : Nat) t v, Try.f11.params[j]? = some t → args[j]? = some v → Value.okWide Try.prog W .any base t v := hval0
  have hW' := hW
  obtain ⟨p, q, hA0, hV, rfl, hfz, hnd⟩ := hW
  have hA : DataW.TrodAll enc Try.prog W 0 (fun _ => true) true Try.f11.params.toList args.toList ds p := hA0
  rw [Try.params11] at hA hval
  obtain ⟨v0, vs0, d0, ds0, p0, q0, hargs, rfl, rfl, h0, r0⟩ := trodAll_cons hA
  obtain ⟨v1, vs1, d1, ds1, p1, q1, rfl, rfl, rfl, h1, r1⟩ := trodAll_cons r0
  obtain ⟨rfl, rfl, rfl⟩ := trodAll_nil r1
  obtain rfl : args = #[v0, v1] := by cases args; simp_all
  obtain ⟨rfl, rfl⟩ := trodVars_none hV
  have k0 := h0
  have lt0 : ∀ x ∈ p0, x.block < W.heap.size := by obtain ⟨m, hm⟩ := k0; exact DataW.trod_lt m _ _ _ hm
  obtain ⟨x0, w0⟩ := openInts (hval 0 39 v0 rfl rfl) h0
  obtain ⟨a1, rfl, rfl, rfl, w1⟩ := open_string Try.underlying9 (hval 1 9 v1 rfl rfl) h1
  clear hA0 hval0
  refine (walk v0 x0 a1 W w0 w1).mono fun e W' ⟨he, bel⟩ => ?_
  subst he
  exact ⟨_, rfl, _, _, _, [], _, [], hW', trodAll_mk1 (shut_bool Try.underlying4 _), (trodAll_cons_mk (Below.trod laidOut (by kernel_rfl) (of_decide_eq_true (by kernel_rfl)) k0 bel lt0) (trodAll_cons_mk (shut_string Try.underlying9 w1) trodAll_mk0)), rfl, bel.frame _, fun h => by cases h⟩

theorem over : Rows.wireIntsRow.holds Try.pinned (OpenSpec.ofChange Rows.wireIntsSpec) :=
  OpenClaim.holds_of_wide 11 Try.f11 rfl rfl rfl rfl rfl rfl rfl ⟨rfl, rfl, rfl, rfl, rfl⟩ rfl rfl rfl rfl rfl (by kernel_rfl) Try.func11 (by kernel_rfl)
    (of_decide_eq_true (by kernel_rfl)) (by unfold Func.isWrapper; first | (rw [if_pos (by decide +kernel)]; kernel_rfl) | (rw [if_neg (by decide +kernel)]; exact ⟨rfl, rfl⟩))
    (fun os started H enc _ => lifted os started H enc)

/-- the statement -/
theorem proved : Rows.WireIntsSaid := over
#print axioms proved
end Go.Proofs.Ytapembonmcolhaa.wireInts
