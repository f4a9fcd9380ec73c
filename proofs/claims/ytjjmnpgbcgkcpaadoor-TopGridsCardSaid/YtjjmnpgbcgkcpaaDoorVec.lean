/-
  The members of a set; lists of integers in memory of their own.
-/
import Derived.Test.YtjjmnpgbcgkcpaaDoorMem
set_option linter.unusedVariables false
namespace Go.Proofs.YtjjmnpgbcgkcpaaDoor
open Go.RowKit

/-- a slice that the call itself has made (or nil) holds these integers -/
def OwnsI (B : Nat) (v : Value) (xs : List Int) (w : World) : Prop := w.ownsRow B 3 1 v xs.length (xs.map (Value.int .i64))
theorem infoInt : (Tryd.prog.info? 3).map (fun i => (i.zero, i.size, i.bytes)) = some (some (.int .i64 0), 1, 8) := by kernel_rfl
theorem one_at (w : World) (v : Value) (T : TypeId) : ∀ j u, [v][j]? = some u → (w.alloc (.cells #[v] T)).cell? ((⟨w.heap.size, 0, none⟩ : Addr).add j) = some u := by
  intro j u hj
  match j, hj with
  | 0, hj =>
    simp only [List.getElem?_cons_zero, Option.some.injEq] at hj
    subst hj
    exact cell_box w v T
theorem one_cell (v : Value) (h : v.oneCell' = true) : ∀ u ∈ [v], u.oneCell' = true := by
  intro u hu; simp at hu; subst hu; exact h
theorem owns_slice {B : Nat} {e : TypeId} {k : Nat} {v : Value} {n : Nat} {xs : List Value} {w : World} (h : w.ownsRow B e k v n xs) : ∃ ao cap, v = .slice ao n cap := by
  rcases h.2 with ⟨hv, h0⟩ | ⟨g, cap, cur, hv, _⟩
  · exact ⟨none, 0, by rw [hv, h0]⟩
  · exact ⟨_, _, hv⟩

theorem app_below {w wr w1 : World} {e : TypeId} {k n : Nat} {v : Value} {xs : List Value} {o : Obj} (hown : wr.ownsRow w.heap.size e k v n xs) (hB : Below w.heap.size w wr) (hg : (wr.alloc o).grownBy w1 v.ownBlock) : Below w.heap.size w w1 :=
  (hB.alloc hB.size o).grown hg (by have := hB.size; simp; omega) (fun j hj => (hown.lt j hj).1)
theorem app_ints {B : Nat} {w1 : World} {v : Value} {pre : List Int} {c : Int} (h : w1.ownsRow B 3 1 v (pre.length + 1) (List.map (Value.int .i64) pre ++ [.int .i64 c])) : OwnsI B v (pre ++ [c]) w1 := by
  unfold OwnsI
  rw [List.length_append, List.map_append]
  exact h

namespace T
def memF : Nat → V → List Int
  | 0, _ => []
  | f + 1, s => if s = 0#16 then [] else tz s :: memF f (s &&& (s - 1#16))
def members (s : V) : List Int := memF 65536 s
theorem memF_zero : ∀ f, memF f 0#16 = []
  | 0 => rfl
  | _ + 1 => rfl
theorem low_lt (s : V) (h : s ≠ 0#16) : (s &&& (s - 1#16)).toNat < s.toNat := by
  have h1 : s.toNat ≠ 0 := fun h2 => h (BitVec.eq_of_toNat_eq h2)
  have h2 : (s - 1#16).toNat = s.toNat - 1 := by
    rw [BitVec.toNat_sub]
    have := s.isLt
    have e : (1#16).toNat = 1 := rfl
    omega
  rw [BitVec.toNat_and, h2]
  have : s.toNat &&& (s.toNat - 1) ≤ s.toNat - 1 := Nat.and_le_right
  omega
theorem memF_length : ∀ f s, (memF f s).length ≤ f
  | 0, _ => Nat.le_refl 0
  | f + 1, s => by
    unfold memF
    split
    · simp
    · have := memF_length f (s &&& (s - 1#16)); simp only [List.length_cons]; omega
theorem memF_small : ∀ f s, ∀ x ∈ memF f s, 0 ≤ x ∧ x < 32
  | 0, _ => by simp [memF]
  | f + 1, s => by
    unfold memF
    split
    · simp
    · intro x hx
      rcases List.mem_cons.1 hx with rfl | h
      · exact ⟨tz_ge s, tz_lt s⟩
      · exact memF_small f _ x h
end T

theorem msub1 (a : V) (h : a ≠ 0#16) : IntKind.u16.wrap (M a - 1) = M (a - 1#16) := by
  have h1 : a.toNat ≠ 0 := fun h2 => h (BitVec.eq_of_toNat_eq h2)
  unfold M
  rw [IntKind.wrap_u16, BitVec.toNat_sub]
  have := a.isLt
  have e : (1#16).toNat = 1 := rfl
  omega

set_option maxRecDepth 100000 in
set_option maxHeartbeats 60000 in
theorem members_any (s : V) (w : World) (hT : Tab w) :
    Calls Tryd.prog 45 #[.int .u16 (M s)] w fun e w' => ∃ v, e = .returned v ∧ OwnsI w.heap.size v (T.members s) w' ∧ Below w.heap.size w w' := by
  obtain ⟨i0, hi, hz0, hz1, hz2⟩ := info_parts infoInt
  have h1 := mand
  have HT := Lib.hid hT
  clear hT
  go_enter Tryd.func45, Tryd.ntmps45
  go_wp2_with fail
  go_loopw [0, 3] (fun x v wr => ∃ (f : Nat) (t : V) (pre : List Int), x = .int .u16 (M t) ∧ t.toNat ≤ f ∧ pre.length + f ≤ 65536 ∧ OwnsI w.heap.size v pre wr ∧ Below w.heap.size w wr ∧ ∀ _ : Unit, pre ++ T.memF f t = T.members s) (fun x _ _ => (intOf x).toNat)
  case atStart => exact ⟨65536, s, [], rfl, by have := s.isLt; omega, by simp, World.ownsRow_nil _ _ _ _, Below.refl _ _, fun _ => rfl⟩
  case round =>
    obtain ⟨f, t, pre, rfl, hf, hl, hown, hB, Hr⟩ := hrel
    by_cases h0 : t = 0#16
    · have hz : (M t != 0) = false := by rw [h0]; rfl
      have Hr2 : ∀ _ : Unit, pre = T.members s := fun _ => by
        have h2 := Hr ()
        rw [h0, T.memF_zero, List.append_nil] at h2
        exact h2
      clear h0 Hr hf hl
      obtain ⟨ao, cap, rfl⟩ := owns_slice hown
      go_wp2_with fail
      go_ret
      refine ⟨_, rfl, ?_, hB⟩
      rw [← Hr2 ()]
      exact hown
    · have hz : (M t != 0) = true := by
        have := M_zero t
        rw [bne, this]; simpa using h0
      have hsub := msub1 t h0
      have hlow := T.low_lt t h0
      have htz := tz_any t wr h0 (HT.out.keep hB)
      have hsz := hB.size
      obtain ⟨f', rfl⟩ : ∃ f', f = f' + 1 := ⟨f - 1, by omega⟩
      have Hr2 : ∀ _ : Unit, (pre ++ [T.tz t]) ++ T.memF f' (t &&& (t - 1#16)) = T.members s := fun _ => by
        rw [← Hr (), T.memF, if_neg h0, List.append_assoc]; rfl
      clear Hr h0
      generalize T.tz t = c at htz Hr2
      unfold OwnsI at hown
      go_wp2_with (first | (go_at_call 50; refine htz.mono ?_; rintro e w' ⟨rfl, hw⟩; rw [hw]; clear hw w') | (at_builtin; refine wpList_append_own _ rfl _ _ 40 rfl w.heap.size 3 i0 (.int .i64 0) 1 8 Tryd.underlying40 hi hz0 hz1 hz2 rfl (by decide) _ _ _ rfl (hown.alloc _) ⟨wr.heap.size, 0, none⟩ 1 1 [.int .i64 c] rfl rfl (one_at _ _ _) (one_cell _ rfl) (by unfold maxLen; omega) (by omega) (by simp; omega) ?_))
      intro v' w1 hown' hgrow _
      have hB1 := app_below hown hB hgrow
      have hown1 := app_ints hown'
      obtain ⟨ao, cp, rfl⟩ := owns_slice hown'
      clear hown hown' hgrow htz hB
      go_wp2_with fail
      go_roundw
      case rel => exact ⟨f', _, pre ++ [c], rfl, by omega, by rw [List.length_append]; simp; omega, hown1, hB1, Hr2⟩
      case measure => simpa [intOf, M] using hlow

/-- what an owned slice holds, as cells -/
theorem owns_cells {w : World} {B : Nat} {e : TypeId} {ao : Option Addr} {n cap : Nat} {xs : List Value} {f : Nat → Value} (h : w.ownsRow B e 1 (.slice ao n cap) n xs) (hf : ∀ i, i < n → xs[i]? = some (f i)) : Cells w ao n f := by
  intro i hi
  rcases h.2 with ⟨hv, h0⟩ | ⟨g, c, cur, hv, _⟩
  · omega
  · injection hv with h1 h2 h3
    subst h1 h3
    refine ⟨g, 0, rfl, ?_⟩
    have := h.cells rfl i (f i) (hf i hi)
    by_cases h0 : i = 0
    · subst h0; simpa [Addr.add] using this
    · simpa [Addr.add, h0] using this
def intAt (xs : List Int) (i : Nat) : Value := .int .i64 (xs.getD i 0)
/-- v is a slice that reads as the integers xs -/
def Ints (w : World) (v : Value) (xs : List Int) : Prop := ∃ ao cap, v = .slice ao xs.length cap ∧ Cells w ao xs.length (intAt xs) ∧ (ao = none → cap = 0)
theorem Ints.keep {w w' : World} {v : Value} {xs : List Int} (h : Ints w v xs) (hB : Below w.heap.size w w') : Ints w' v xs := by
  obtain ⟨ao, cap, e, h1, h2⟩ := h
  exact ⟨ao, cap, e, h1.keep hB, h2⟩
theorem ownsI_ints {w : World} {B : Nat} {v : Value} {xs : List Int} (h : OwnsI B v xs w) : Ints w v xs := by
  obtain ⟨ao, cap, hv⟩ := owns_slice h
  refine ⟨ao, cap, hv, ?_, ?_⟩
  · unfold OwnsI at h
    rw [hv] at h
    refine owns_cells h (fun i hi => ?_)
    simp [intAt, hi]
  · rintro rfl
    rcases h.2 with ⟨h1, _⟩ | ⟨g, c, cur, h1, _⟩
    · rw [hv] at h1; injection h1
    · rw [hv] at h1; injection h1 with h1; cases h1
theorem members_length (s : V) : (T.members s).length ≤ 65536 := T.memF_length _ _
theorem members_small (s : V) : ∀ x ∈ T.members s, 0 ≤ x ∧ x < 32 := T.memF_small _ _

end Go.Proofs.YtjjmnpgbcgkcpaaDoor
