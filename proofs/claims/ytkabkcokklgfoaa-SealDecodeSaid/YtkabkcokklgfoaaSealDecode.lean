/-
  The statement SealDecode: Decode and the reference's Decode return the same for every text of at most 300 bytes; conditions: none beyond the row's own.
-/
import Derived.Test.YtkabkcokklgfoaaRows
import Derived.Test.YtkabkcokklgfoaaSealLive
import Derived.Test.YtkabkcokklgfoaaRefDecode
import Derived.OpenShut
import Derived.ProofKit
import Derived.Below
import Derived.ShutString
import Derived.ChangeOld
set_option linter.unusedVariables false
namespace Go.Proofs.Ytkabkcokklgfoaa.sealDecode
open Go.ChangeShapes Go.WideShapes Go.ChangeAt Go.RowKit
open Go.ChangeMaps (open_string shut_string)

theorem both (s : ByteArray) (hs : s.size ≤ 1000000) : ∃ (a k v n : Int) (d t : ByteArray) (e : Int),
    (∀ w, Calls Try.prog 6 #[.string s] w fun x w' => x = .returned (.tuple #[.agg (sg a k v n d t).toArray, .int .i64 e]) ∧ Below w.heap.size w w') ∧
      (∀ w, Calls Try.prog 7 #[.string s] w fun x w' => x = .returned (.tuple #[.agg (sg a k v n d t).toArray, .int .i64 e]) ∧ Below w.heap.size w w') := by
  have P := fun w => decode_any s w hs
  have Q := fun w => refDecode_any s w hs
  generalize dec (L s) = r at P Q
  match r, P, Q with
  | none, P, Q => exact ⟨0, 0, 0, 0, ⟨#[]⟩, ⟨#[]⟩, 2, P, Q⟩
  | some (a, k, v, n, x, y), P, Q => exact ⟨a, k, v, n, S x, S y, 0, P, Q⟩

set_option maxRecDepth 100000 in
set_option maxHeartbeats 1000000 in
theorem walk (s : ByteArray) (w : World) (w0 : s.size ≤ maxLen) :
    Calls Try.prog 3 #[.string s] w fun e w' => e = .returned (.bool true) ∧ Below w.heap.size w w' := by
  unfold maxLen at w0
  by_cases hs : s.size ≤ 300
  · obtain ⟨a, k, v, n, d, t, ee, P, Q⟩ := both s (by omega)
    have hs1 : (s.size : Int) ≤ 300 := by omega
    go_enter Try.func3, Try.ntmps3
    go_wp2_with fail
    refine (sealAwake_any w).mono ?_
    rintro e w1 ⟨rfl, hB⟩
    go_wp2_with fail
    refine (P w1).mono ?_
    rintro e w2 ⟨rfl, k2⟩
    have hB2 := hB.trans (k2.mono hB.size)
    go_upto_region 4 with fail
    generalize hw3 : w2.alloc _ = w3
    have hX : Blk w2.heap.size (sg a k v n d t) 24 w3 := by rw [← hw3]; exact Blk.new _ _ w2
    have hB3 : Below w.heap.size w w3 := by rw [← hw3]; exact hB2.alloc hB2.size _
    clear hw3
    generalize w2.heap.size = g at hX ⊢
    go_wp2_with fail
    refine (Q w3).mono ?_
    rintro e w4 ⟨rfl, k4⟩
    have hX4 := hX.keep k4
    have hB4 := hB3.trans (k4.mono hB3.size)
    go_upto_region 5 with fail
    generalize hw5 : w4.alloc _ = w5
    have hY : Blk w4.heap.size (sg a k v n d t) 24 w5 := by rw [← hw5]; exact Blk.new _ _ w4
    have hX5 : Blk g (sg a k v n d t) 24 w5 := by rw [← hw5]; exact hX4.alloc _
    have hB5 : Below w.heap.size w w5 := by rw [← hw5]; exact hB4.alloc hB4.size _
    clear hw5
    generalize w4.heap.size = g2 at hY ⊢
    obtain ⟨a0, a1, a2, a3, a4, a5⟩ := sg_at hX5
    obtain ⟨b0, b1, b2, b3, b4, b5⟩ := sg_at hY
    go_wp2_with fail
    go_ret
    exact ⟨rfl, hB5⟩
  · have hs1 : (300 : Int) < s.size := by omega
    go_enter Try.func3, Try.ntmps3
    go_wp2_with fail
    refine (sealAwake_any w).mono ?_
    rintro e w1 ⟨rfl, hB⟩
    go_wp2_with fail
    refine (sealAwake_any w1).mono ?_
    rintro e w2 ⟨rfl, hB2⟩
    go_wp2_with fail
    go_ret
    exact ⟨rfl, hB.trans (hB2.mono hB.size)⟩


theorem own : ownKnob Try.prog.godebug = none := by kernel_rfl
theorem laidOut : laidOutB Try.prog = true := by kernel_rfl

set_option maxRecDepth 100000 in
theorem lifted (os : Os) (started : os.Started) (H : Type) (enc : TypeId × Value → H) :
    ReturnsInHanded {} Try.checked os 3 .any (Rows.sealDecodeSpec.pre6 enc Try.prog Try.f3 Rows.sealDecodeRow.domain false) (Rows.sealDecodeSpec.post enc Try.prog Try.f3 false true false false) := by
  refine returnsInHanded_of_change (C := Try.checked) own started (by kernel_rfl) Try.func3
    (ChangeSpec.witness6 (enc := enc) (C := Try.checked) false ⟨#[], #[.string ByteArray.empty], []⟩ 8 (by kernel_rfl) (by kernel_rfl) (by kernel_rfl) (by kernel_rfl)) ?_
  intro W base args ds gs before hval0 hW hcnd _
  have hval : ∀ (j : Nat) t v, Try.f3.params[j]? = some t → args[j]? = some v → Value.okWide Try.prog W .any base t v := hval0
  have hW' := hW
  obtain ⟨p, q, hA0, hV, rfl, hfz, hnd⟩ := hW
  have hA : DataW.TrodAll enc Try.prog W 0 (fun _ => true) true Try.f3.params.toList args.toList ds p := hA0
  rw [Try.params3] at hA hval
  obtain ⟨v0, vs0, d0, ds0, p0, q0, hargs, rfl, rfl, h0, r0⟩ := trodAll_cons hA
  obtain ⟨rfl, rfl, rfl⟩ := trodAll_nil r0
  obtain rfl : args = #[v0] := by cases args; simp_all
  obtain ⟨rfl, rfl⟩ := trodVars_none hV
  obtain ⟨a0, rfl, rfl, rfl, w0⟩ := open_string Try.underlying9 (hval 0 9 v0 rfl rfl) h0
  clear hA0 hval0
  refine (walk a0 W w0).mono fun e W' ⟨he, bel⟩ => ?_
  subst he
  exact ⟨_, rfl, _, _, _, [], _, [], hW', trodAll_mk1 (shut_bool Try.underlying4 _), (trodAll_cons_mk (shut_string Try.underlying9 w0) trodAll_mk0), rfl, bel.frame _, fun h => by cases h⟩

theorem over : Rows.sealDecodeRow.holds Try.pinned (OpenSpec.ofChange Rows.sealDecodeSpec) :=
  OpenClaim.holds_of_wide 3 Try.f3 rfl rfl rfl rfl rfl rfl rfl ⟨rfl, rfl, rfl, rfl, rfl⟩ rfl rfl rfl rfl rfl (by kernel_rfl) Try.func3 (by kernel_rfl)
    (of_decide_eq_true (by kernel_rfl)) (by unfold Func.isWrapper; first | (rw [if_pos (by decide +kernel)]; kernel_rfl) | (rw [if_neg (by decide +kernel)]; exact ⟨rfl, rfl⟩))
    (fun os started H enc _ => lifted os started H enc)

/-- the statement -/
theorem proved : Rows.SealDecodeSaid := over
#print axioms proved
end Go.Proofs.Ytkabkcokklgfoaa.sealDecode
