/-
  The examples of layer 34 hold.
-/
import Derived.Test.YtkabkcokklgfoaaSigners
set_option linter.unusedVariables false
namespace Go.Proofs.Ytkabkcokklgfoaa
open Go.RowKit

theorem sig_size (a k v n : Int) (d : ByteArray) : (sigOf a k v n d).size ≤ 16 := by
  unfold sigOf
  rw [S_size, List.length_take]
  omega

theorem flat_get {α β : Type} (f : α → List β) (k : Nat) (hf : ∀ x, (f x).length = k) : ∀ (xs : List α) (i : Nat) (q : α), xs[i]? = some q → ∀ j, j < k → (xs.flatMap f)[i * k + j]? = (f q)[j]?
  | [], i, q, h, _, _ => by simp at h
  | x :: xs, 0, q, h, j, hj => by
    simp at h
    subst h
    rw [List.flatMap_cons, Nat.zero_mul, Nat.zero_add, List.getElem?_append_left (by rw [hf]; exact hj)]
  | x :: xs, i + 1, q, h, j, hj => by
    rw [List.getElem?_cons_succ] at h
    rw [List.flatMap_cons, List.getElem?_append_right (by rw [hf, Nat.succ_mul]; omega), hf, show (i + 1) * k + j - k = i * k + j by rw [Nat.succ_mul]; omega]
    exact flat_get f k hf xs i q h j hj

theorem rows_of {xs : List (ByteArray × ByteArray)} {b : Nat} {w : World} (h : Blk b (xs.flatMap fun q => sg 2 3 3 0 q.1 q.2) 24 w) :
    ∀ i q, xs[i]? = some q → w.rangeAt b (i * 6) (sg 2 3 3 0 q.1 q.2) := by
  intro i q hq j v hv
  have hj : j < 6 := (List.getElem?_eq_some_iff.1 hv).1
  rw [h.cell, flat_get (fun q : ByteArray × ByteArray => sg 2 3 3 0 q.1 q.2) 6 (fun _ => rfl) xs i q hq j hj]
  exact hv

/-- what stands while the examples are checked -/
def Bag (g1 g2 g3 g4 g5 gl : Nat) (sa sb sc sd : ByteArray) (w v : World) : Prop :=
  Blk g1 (sg 2 3 3 0 tx sa) 24 v ∧ Blk g2 (sg 2 3 3 0 ty sb) 24 v ∧ Blk g3 (sg 2 1 3 0 ty sc) 24 v ∧ Blk g4 (sg 2 3 3 1 ty sd) 24 v ∧
    Blk g5 (sg 2 3 3 0 tx (sa ++ ⟨#[48]⟩)) 24 v ∧ Blk gl (([(ty, sb), (tx, sa), (tx, sa)] : List (ByteArray × ByteArray)).flatMap fun q => sg 2 3 3 0 q.1 q.2) 24 v ∧ Below w.heap.size w v
theorem Bag.keep {g1 g2 g3 g4 g5 gl : Nat} {sa sb sc sd : ByteArray} {w v v' : World} (h : Bag g1 g2 g3 g4 g5 gl sa sb sc sd w v) (k : Below v.heap.size v v') : Bag g1 g2 g3 g4 g5 gl sa sb sc sd w v' :=
  ⟨h.1.keep k, h.2.1.keep k, h.2.2.1.keep k, h.2.2.2.1.keep k, h.2.2.2.2.1.keep k, h.2.2.2.2.2.1.keep k, h.2.2.2.2.2.2.trans (k.mono h.2.2.2.2.2.2.size)⟩

set_option maxRecDepth 100000 in
set_option maxHeartbeats 2000000 in
theorem live (sa sb sc sd : ByteArray) (w : World) (hsa : sa.size ≤ 16)
    (S1 : ∀ u, Calls Try.prog 10 #[.int .i64 2, .int .i64 3, .int .i64 3, .int .i64 0, .string tx] u fun e w' => e = .returned (.tuple #[.agg (sg 2 3 3 0 tx sa).toArray, .int .i64 0]) ∧ Below u.heap.size u w')
    (S2 : ∀ u, Calls Try.prog 10 #[.int .i64 2, .int .i64 3, .int .i64 3, .int .i64 0, .string ty] u fun e w' => e = .returned (.tuple #[.agg (sg 2 3 3 0 ty sb).toArray, .int .i64 0]) ∧ Below u.heap.size u w')
    (S3 : ∀ u, Calls Try.prog 10 #[.int .i64 2, .int .i64 1, .int .i64 3, .int .i64 0, .string ty] u fun e w' => e = .returned (.tuple #[.agg (sg 2 1 3 0 ty sc).toArray, .int .i64 0]) ∧ Below u.heap.size u w')
    (S4 : ∀ u, Calls Try.prog 10 #[.int .i64 2, .int .i64 3, .int .i64 3, .int .i64 1, .string ty] u fun e w' => e = .returned (.tuple #[.agg (sg 2 3 3 1 ty sd).toArray, .int .i64 0]) ∧ Below u.heap.size u w')
    (V1 : ∀ u, Calls Try.prog 11 #[.agg (sg 2 3 3 0 tx sa).toArray] u fun e w' => e = .returned (.bool true) ∧ Below u.heap.size u w')
    (V2 : ∀ u, Calls Try.prog 11 #[.agg (sg 2 3 3 0 ty sb).toArray] u fun e w' => e = .returned (.bool true) ∧ Below u.heap.size u w')
    (V3 : ∀ u, Calls Try.prog 11 #[.agg (sg 2 3 3 0 tx (sa ++ ⟨#[48]⟩)).toArray] u fun e w' => e = .returned (.bool false) ∧ Below u.heap.size u w')
    (G1 : outOf [(ty, sb), (tx, sa), (tx, sa)] = 4) (G2 : outOf [(tx, sa ++ ⟨#[48]⟩)] = 0) :
    Calls Try.prog 5 #[] w fun e w' => e = .returned (.bool true) ∧ Below w.heap.size w w' := by
  have hlen : ¬ 9223372036854775807 < sa.size + 1 := by omega
  go_enter Try.func5, Try.ntmps5
  go_wp2_with fail
  refine (S1 _).mono ?_
  rintro e u1 ⟨rfl, k1⟩
  go_upto_region 2 with fail
  generalize hv1 : u1.alloc _ = v1
  have hA1 : Blk u1.heap.size (sg 2 3 3 0 tx sa) 24 v1 := by rw [← hv1]; exact Blk.new _ _ u1
  have hB1 : Below w.heap.size w v1 := by rw [← hv1]; exact k1.alloc k1.size _
  clear hv1 k1
  generalize u1.heap.size = g1 at hA1 ⊢
  go_wp2_with fail
  refine (S2 _).mono ?_
  rintro e u2 ⟨rfl, k2⟩
  go_upto_region 3 with fail
  generalize hv2 : u2.alloc _ = v2
  have hA2 : Blk g1 (sg 2 3 3 0 tx sa) 24 v2 := by rw [← hv2]; exact (hA1.keep k2).alloc _
  have hC2 : Blk u2.heap.size (sg 2 3 3 0 ty sb) 24 v2 := by rw [← hv2]; exact Blk.new _ _ u2
  have hB2 : Below w.heap.size w v2 := by
    have h := hB1.trans (k2.mono hB1.size)
    rw [← hv2]; exact h.alloc h.size _
  clear hv2 k2 hA1 hB1
  generalize u2.heap.size = g2 at hC2 ⊢
  go_wp2_with fail
  refine (S3 _).mono ?_
  rintro e u3 ⟨rfl, k3⟩
  go_upto_region 4 with fail
  generalize hv3 : u3.alloc _ = v3
  have hA3 : Blk g1 (sg 2 3 3 0 tx sa) 24 v3 := by rw [← hv3]; exact (hA2.keep k3).alloc _
  have hC3 : Blk g2 (sg 2 3 3 0 ty sb) 24 v3 := by rw [← hv3]; exact (hC2.keep k3).alloc _
  have hD3 : Blk u3.heap.size (sg 2 1 3 0 ty sc) 24 v3 := by rw [← hv3]; exact Blk.new _ _ u3
  have hB3 : Below w.heap.size w v3 := by
    have h := hB2.trans (k3.mono hB2.size)
    rw [← hv3]; exact h.alloc h.size _
  clear hv3 k3 hA2 hC2 hB2
  generalize u3.heap.size = g3 at hD3 ⊢
  go_wp2_with fail
  refine (S4 _).mono ?_
  rintro e u4 ⟨rfl, k4⟩
  go_upto_region 5 with fail
  generalize hv4 : u4.alloc _ = v4
  have hA4 : Blk g1 (sg 2 3 3 0 tx sa) 24 v4 := by rw [← hv4]; exact (hA3.keep k4).alloc _
  have hC4 : Blk g2 (sg 2 3 3 0 ty sb) 24 v4 := by rw [← hv4]; exact (hC3.keep k4).alloc _
  have hD4 : Blk g3 (sg 2 1 3 0 ty sc) 24 v4 := by rw [← hv4]; exact (hD3.keep k4).alloc _
  have hE4 : Blk u4.heap.size (sg 2 3 3 1 ty sd) 24 v4 := by rw [← hv4]; exact Blk.new _ _ u4
  have hB4 : Below w.heap.size w v4 := by
    have h := hB3.trans (k4.mono hB3.size)
    rw [← hv4]; exact h.alloc h.size _
  clear hv4 k4 hA3 hC3 hD3 hB3
  generalize u4.heap.size = g4 at hE4 ⊢
  obtain ⟨c0, c1, c2, c3, c4, c5⟩ := sg_at hA4
  go_upto_region 6 with fail
  clear c0 c1 c2 c3 c4 c5
  generalize hv5 : v4.alloc _ = v5
  have hA5 : Blk g1 (sg 2 3 3 0 tx sa) 24 v5 := by rw [← hv5]; exact hA4.alloc _
  have hC5 : Blk g2 (sg 2 3 3 0 ty sb) 24 v5 := by rw [← hv5]; exact hC4.alloc _
  have hD5 : Blk g3 (sg 2 1 3 0 ty sc) 24 v5 := by rw [← hv5]; exact hD4.alloc _
  have hE5 : Blk g4 (sg 2 3 3 1 ty sd) 24 v5 := by rw [← hv5]; exact hE4.alloc _
  have hF5 : Blk v4.heap.size (sg 2 3 3 0 tx sa) 24 v5 := by rw [← hv5]; exact Blk.new _ _ v4
  have hB5 : Below w.heap.size w v5 := by rw [← hv5]; exact hB4.alloc hB4.size _
  have n1 := hA4.lt
  have n2 := hC4.lt
  have n3 := hD4.lt
  have n4 := hE4.lt
  have hwg := hB4.size
  clear hv5 hA4 hC4 hD4 hE4 hB4
  generalize v4.heap.size = g5 at hF5 n1 n2 n3 n4 hwg ⊢
  have c5 : v5.cell? ⟨g5, 5, none⟩ = some (.string sa) := hF5.cell 5
  have f5 := hF5.free 5
  go_upto_region 7 with fail
  clear c5 f5
  generalize hv6 : v5.setCell _ _ = v6
  have hA6 : Blk g1 (sg 2 3 3 0 tx sa) 24 v6 := by rw [← hv6]; exact hA5.other _ _ (by omega)
  have hC6 : Blk g2 (sg 2 3 3 0 ty sb) 24 v6 := by rw [← hv6]; exact hC5.other _ _ (by omega)
  have hD6 : Blk g3 (sg 2 1 3 0 ty sc) 24 v6 := by rw [← hv6]; exact hD5.other _ _ (by omega)
  have hE6 : Blk g4 (sg 2 3 3 1 ty sd) 24 v6 := by rw [← hv6]; exact hE5.other _ _ (by omega)
  have hF6 : Blk g5 (sg 2 3 3 0 tx (sa ++ ⟨#[48]⟩)) 24 v6 := by rw [← hv6]; exact hF5.set 5 _
  have hB6 : Below w.heap.size w v6 := by rw [← hv6]; exact hB5.setCell (p := ⟨g5, 5, none⟩) hwg _
  clear hv6 hA5 hC5 hD5 hE5 hF5 hB5
  obtain ⟨a0, a1, a2, a3, a4, a5⟩ := sg_at hA6
  obtain ⟨b0, b1, b2, b3, b4, b5⟩ := sg_at hC6
  go_upto_region 8 with fail
  clear a0 a1 a2 a3 a4 a5 b0 b1 b2 b3 b4 b5
  have K0 : Bag g1 g2 g3 g4 g5 v6.heap.size sa sb sc sd w (v6.alloc (.cells (([(ty, sb), (tx, sa), (tx, sa)] : List (ByteArray × ByteArray)).flatMap fun q => sg 2 3 3 0 q.1 q.2).toArray 24)) :=
    ⟨hA6.alloc _, hC6.alloc _, hD6.alloc _, hE6.alloc _, hF6.alloc _, Blk.new _ _ v6, hB6.alloc hB6.size _⟩
  generalize hv7 : v6.alloc _ = v7
  have K : Bag g1 g2 g3 g4 g5 v6.heap.size sa sb sc sd w v7 := by rw [← hv7]; exact K0
  clear hv7 K0 hA6 hC6 hD6 hE6 hF6 hB6 n1 n2 n3 n4 hwg
  generalize v6.heap.size = gl at K ⊢
  obtain ⟨a0, a1, a2, a3, a4, a5⟩ := sg_at K.1
  go_wp2_with fail
  refine (V1 _).mono ?_
  rintro e x1 ⟨rfl, k⟩
  have K1 := K.keep k
  clear K k a0 a1 a2 a3 a4 a5
  obtain ⟨b0, b1, b2, b3, b4, b5⟩ := sg_at K1.2.1
  go_wp2_with fail
  refine (V2 _).mono ?_
  rintro e x2 ⟨rfl, k⟩
  have K2 := K1.keep k
  clear K1 k b0 b1 b2 b3 b4 b5
  obtain ⟨a0, a1, a2, a3, a4, a5⟩ := sg_at K2.1
  obtain ⟨b0, b1, b2, b3, b4, b5⟩ := sg_at K2.2.1
  go_wp2_with fail
  refine (conflict_yes sa sb _ V1 V2).mono ?_
  rintro e x3 ⟨rfl, k⟩
  have K3 := K2.keep k
  clear K2 k a0 a1 a2 a3 a4 a5 b0 b1 b2 b3 b4 b5
  obtain ⟨a0, a1, a2, a3, a4, a5⟩ := sg_at K3.1
  obtain ⟨b0, b1, b2, b3, b4, b5⟩ := sg_at K3.2.2.1
  go_wp2_with fail
  refine (conflict_kind sa sc _).mono ?_
  rintro e x4 ⟨rfl, k⟩
  have K4 := K3.keep k
  clear K3 k a0 a1 a2 a3 a4 a5 b0 b1 b2 b3 b4 b5
  obtain ⟨a0, a1, a2, a3, a4, a5⟩ := sg_at K4.1
  obtain ⟨b0, b1, b2, b3, b4, b5⟩ := sg_at K4.2.2.2.1
  go_wp2_with fail
  refine (conflict_slot sa sd _).mono ?_
  rintro e x5 ⟨rfl, k⟩
  have K5 := K4.keep k
  clear K4 k a0 a1 a2 a3 a4 a5 b0 b1 b2 b3 b4 b5
  obtain ⟨a0, a1, a2, a3, a4, a5⟩ := sg_at K5.2.2.2.2.1
  go_wp2_with fail
  refine (V3 _).mono ?_
  rintro e x6 ⟨rfl, k⟩
  have K6 := K5.keep k
  clear K5 k a0 a1 a2 a3 a4 a5
  have R1 := signers_any [(ty, sb), (tx, sa), (tx, sa)] gl 3 x6 (by simp) (fun q hq => by simp only [List.mem_cons, List.not_mem_nil, or_false] at hq; rcases hq with rfl | rfl | rfl <;> exact (by decide : tx.size ≤ 64)) (rows_of K6.2.2.2.2.2.1)
  rw [G1] at R1
  go_wp2_with fail
  refine R1.mono ?_
  rintro e x7 ⟨rfl, k⟩
  have K7 := K6.keep k
  clear K6 k R1
  obtain ⟨a0, a1, a2, a3, a4, a5⟩ := sg_at K7.2.2.2.2.1
  have hN : Blk x7.heap.size (([(tx, sa ++ ⟨#[48]⟩)] : List (ByteArray × ByteArray)).flatMap fun q => sg 2 3 3 0 q.1 q.2) 24 (x7.alloc (.cells (([(tx, sa ++ ⟨#[48]⟩)] : List (ByteArray × ByteArray)).flatMap fun q => sg 2 3 3 0 q.1 q.2).toArray 24)) := Blk.new _ _ x7
  have R2 := signers_any [(tx, sa ++ ⟨#[48]⟩)] x7.heap.size 1 _ (by simp) (fun q hq => by simp only [List.mem_cons, List.not_mem_nil, or_false] at hq; subst hq; exact (by decide : tx.size ≤ 64)) (rows_of hN)
  rw [G2] at R2
  have hBf := K7.2.2.2.2.2.2
  have R3 := R2.mono (R' := fun e w' => e = .returned (.int .u16 0) ∧ Below w.heap.size w w') (fun e w' ⟨h1, h2⟩ => ⟨h1, (hBf.alloc hBf.size _).trans (h2.mono (hBf.alloc hBf.size _).size)⟩)
  clear R2 hN K7
  go_wp2_with fail
  refine R3.mono ?_
  rintro e x8 ⟨rfl, k⟩
  go_wp2_with fail
  go_ret
  exact ⟨rfl, k⟩

set_option maxRecDepth 100000 in
theorem sealAwake_any (w : World) : Calls Try.prog 5 #[] w fun e w' => e = .returned (.bool true) ∧ Below w.heap.size w w' := by
  have i1 : InRange 2 3 3 0 := by unfold InRange; omega
  have i2 : InRange 2 1 3 0 := by unfold InRange; omega
  have i3 : InRange 2 3 3 1 := by unfold InRange; omega
  have dx : tx.size ≤ 64 := by decide
  have dy : ty.size ≤ 64 := by decide
  have hne : ((sigOf 2 3 3 0 tx ++ ⟨#[48]⟩).toList == (sigOf 2 3 3 0 tx).toList) = false := by
    rw [beq_eq_false_iff_ne]
    intro h
    have h2 := congrArg List.length h
    rw [Lib.toList_data, Lib.toList_data] at h2
    simp at h2
  have hV : ∀ s : ByteArray, (s.toList == s.toList) = true := fun s => by simp
  refine live (sigOf 2 3 3 0 tx) (sigOf 2 3 3 0 ty) (sigOf 2 1 3 0 ty) (sigOf 2 3 3 1 ty) w (sig_size _ _ _ _ _)
    (fun u => sign_any 2 3 3 0 tx u i1 dx) (fun u => sign_any 2 3 3 0 ty u i1 dy) (fun u => sign_any 2 1 3 0 ty u i2 dy) (fun u => sign_any 2 3 3 1 ty u i3 dy)
    (fun u => ?_) (fun u => ?_) (fun u => ?_) ?_ ?_
  · have h := verify_any 2 3 3 0 tx (sigOf 2 3 3 0 tx) u i1 dx
    rwa [hV] at h
  · have h := verify_any 2 3 3 0 ty (sigOf 2 3 3 0 ty) u i1 dy
    rwa [hV] at h
  · have h := verify_any 2 3 3 0 tx (sigOf 2 3 3 0 tx ++ ⟨#[48]⟩) u i1 dx
    rwa [hne] at h
  · have h : good (tx, sigOf 2 3 3 0 tx) = true := by unfold good; simp
    unfold outOf
    rw [if_pos]
    simp only [List.any_cons, h, Bool.true_or, Bool.or_true]
  · have h : good (tx, sigOf 2 3 3 0 tx ++ ⟨#[48]⟩) = false := by unfold good; rw [hne]; simp
    unfold outOf
    rw [if_neg]
    simp only [List.any_cons, h, List.any_nil, Bool.or_false]
    decide
end Go.Proofs.Ytkabkcokklgfoaa
