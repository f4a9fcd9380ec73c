/-
  Lists that are read: the program's GetList and GetInts, and the reference's.
-/
import Derived.Test.YtkabkcokklgfoaaPutList
set_option linter.unusedVariables false
namespace Go.Proofs.Ytkabkcokklgfoaa
open Go.RowKit

/-- a slice that the call itself has made (or nil) holds these strings, these integers -/
def OwnsS (B : Nat) (v : Value) (xs : List (List UInt8)) (w : World) : Prop := w.ownsRow B 9 1 v xs.length (xs.map (fun x => Value.string (S x)))
def OwnsI (B : Nat) (v : Value) (xs : List Int) (w : World) : Prop := w.ownsRow B 3 1 v xs.length (xs.map (Value.int .i64))

/-- what a reader of a list leaves -/
def RetS (B : Nat) (r : List (List UInt8) × Nat × Nat) (w : World) (e : Ending) (w' : World) : Prop :=
  ∃ v, e = .returned (.tuple #[v, .int .i64 r.2.1, .int .i64 r.2.2]) ∧ OwnsS B v r.1 w' ∧ Below B w w'
def RetI (B : Nat) (r : List Int × Nat × Nat) (w : World) (e : Ending) (w' : World) : Prop :=
  ∃ v, e = .returned (.tuple #[v, .int .i64 r.2.1, .int .i64 r.2.2]) ∧ OwnsI B v r.1 w' ∧ Below B w w'

theorem retS_mk {B : Nat} {r : List (List UInt8) × Nat × Nat} {xs : List (List UInt8)} {a e : Nat} {w w' : World} {v : Value} {x y : Int} (h : r = (xs, a, e)) (hx : x = a) (hy : y = e) (ho : OwnsS B v xs w') (hB : Below B w w') :
    RetS B r w (.returned (.tuple #[v, .int .i64 x, .int .i64 y])) w' := by
  subst h hx hy; exact ⟨v, rfl, ho, hB⟩
theorem retI_mk {B : Nat} {r : List Int × Nat × Nat} {xs : List Int} {a e : Nat} {w w' : World} {v : Value} {x y : Int} (h : r = (xs, a, e)) (hx : x = a) (hy : y = e) (ho : OwnsI B v xs w') (hB : Below B w w') :
    RetI B r w (.returned (.tuple #[v, .int .i64 x, .int .i64 y])) w' := by
  subst h hx hy; exact ⟨v, rfl, ho, hB⟩
theorem ownsS_nil (B : Nat) (w : World) : OwnsS B (.slice none 0 0) [] w := World.ownsRow_nil _ _ _ _
theorem ownsI_nil (B : Nat) (w : World) : OwnsI B (.slice none 0 0) [] w := World.ownsRow_nil _ _ _ _

theorem infoString : (Try.prog.info? 9).map (fun i => (i.zero, i.size, i.bytes)) = some (some (.string ⟨#[]⟩), 1, 16) := by kernel_rfl
theorem infoInt : (Try.prog.info? 3).map (fun i => (i.zero, i.size, i.bytes)) = some (some (.int .i64 0), 1, 8) := by kernel_rfl

theorem L_from (s : ByteArray) (a : Nat) : L (s.extract a s.size) = (L s).drop a := by
  show (s.extract a s.size).data.toList = _
  rw [Lib.extract_data, List.take_of_length_le]
  rw [List.length_drop, L_length]
  omega

theorem owns_slice {B : Nat} {e : TypeId} {v : Value} {n : Nat} {xs : List Value} {w : World} (h : w.ownsRow B e 1 v n xs) : ∃ ao cap, v = .slice ao n cap := by
  rcases h.2 with ⟨hv, h0⟩ | ⟨g, cap, cur, hv, _⟩
  · exact ⟨none, 0, by rw [hv, h0]⟩
  · exact ⟨_, _, hv⟩

/-- what a loop over the parts of a list carries: k parts are read, the next begins at a -/
def LRelS (s : ByteArray) (n k a : Nat) (v : Value) (w wr : World) : Prop :=
  k ≤ n ∧ a ≤ s.size ∧ k ≤ a ∧ ∃ acc : List (List UInt8), acc.length = k ∧ OwnsS w.heap.size v acc wr ∧ Below w.heap.size w wr ∧ V.listF V.getStr (n - k) ((L s).drop a) a acc = V.getStrs (L s)
def LRelI (s : ByteArray) (n k a : Nat) (v : Value) (w wr : World) : Prop :=
  k ≤ n ∧ a ≤ s.size ∧ k ≤ a ∧ ∃ acc : List Int, acc.length = k ∧ OwnsI w.heap.size v acc wr ∧ Below w.heap.size w wr ∧ V.listF V.getInt (n - k) ((L s).drop a) a acc = V.getInts (L s)


set_option maxRecDepth 100000 in
set_option maxHeartbeats 4000000 in
theorem listI_any (s : ByteArray) (w : World) (hs : s.size ≤ 1000000000) :
    Calls Try.prog 27 #[.string s, .func (Fn.func 28) #[] #[]] w (RetI w.heap.size (V.getInts (L s)) w) := by
  obtain ⟨i0, hi, hz0, hz1, hz2⟩ := info_parts infoInt
  obtain ⟨r, hr⟩ : ∃ r, V.get (L s) = r := ⟨_, rfl⟩
  have G := get_any s w (by unfold maxLen; omega)
  have hb := V.get_bound (L s)
  have hg : V.getInts (L s) = V.listOf V.getInt (L s) r := by unfold V.getInts V.getListOf; rw [hr]
  rw [hr] at G hb
  obtain ⟨n, k, e⟩ := r
  rw [L_length] at hb
  obtain ⟨hb1, hb2, hb3, hb4, hb5⟩ := hb
  have HG := Lib.hid G; clear G hr
  by_cases hz : e = 0
  · subst hz
    have hk0 : 0 < k := hb5 rfl
    clear hb5
    have Hg : Hid (V.listF V.getInt n ((L s).drop k) k [] = V.getInts (L s)) := Lib.hid (by rw [hg]; unfold V.listOf; rw [if_neg (by simp)])
    clear hg
    go_enter Try.func27, Try.ntmps27
    go_wp2_with (go_at_call 39; refine HG.out.mono ?_; rintro e w' ⟨rfl, rfl⟩)
    go_loopw [8, 10, 11, 12, 13, 24] (fun a v _ _ _ c wr => ∃ i b : Nat, c = .int .u64 i ∧ a = .int .i64 b ∧ LRelI s n i b v w wr) (fun a v _ _ _ c wr => n - (RowKit.intOf c).toNat)
    case atStart => exact ⟨0, k, rfl, rfl, by omega, by omega, by omega, [], rfl, World.ownsRow_nil _ _ _ _, Below.refl _ _, Hg.out⟩
    case round =>
      obtain ⟨i, a, rfl, rfl, hin, has, hia, acc, hacc, hown, hB, hrest⟩ := hrel
      have Hrest := Lib.hid hrest; clear hrest
      have Hacc := Lib.hid hacc; clear hacc
      have Hown := Lib.hid hown; clear hown
      have hsz := hB.size
      obtain ⟨p, hp⟩ : ∃ p, V.getInt ((L s).drop a) = p := ⟨_, rfl⟩
      have P := integer_any (s.extract a s.size) wr (by simp; omega)
      have hpb := V.getInt_part ((L s).drop a)
      have hpe := V.getInt_err ((L s).drop a)
      rw [L_from, hp] at P
      rw [hp] at hpb hpe
      have Hp := Lib.hid hp; clear hp
      obtain ⟨x, q, f⟩ := p
      rw [List.length_drop, L_length] at hpb
      have HP := Lib.hid P; clear P
      by_cases hlt : i < n
      · by_cases hf : f = 0
        · subst hf
          have hq := hpb.2 rfl
          obtain ⟨hq1, hq2⟩ := hq
          clear hpb hpe
          have hown := Hown.out
          unfold OwnsI at hown
          rw [Hacc.out] at hown
          go_wp2_with (first | (go_at_call 28; refine HP.out.mono ?_; rintro e w' ⟨rfl, rfl⟩) | (at_builtin; refine wpList_append_own _ rfl _ _ 37 rfl w.heap.size 3 i0 (.int .i64 0) 1 8 Try.underlying37 hi hz0 hz1 hz2 rfl (by decide) _ _ _ rfl (hown.alloc _) ⟨wr.heap.size, 0, none⟩ 1 1 [.int .i64 x] rfl rfl (one_at _ _ _) (one_cell _ rfl) (by unfold maxLen; omega) (by omega) (by simp; omega) ?_))
          intro v' w1 hown' hgrow hne
          have hB1 := (hB.alloc hsz (.cells #[.int .i64 x] 3)).grown hgrow (by simp; omega) (fun j hj => (hown.lt j hj).1)
          have hown1 : OwnsI w.heap.size v' (acc ++ [x]) w1 := by
            unfold OwnsI
            rw [List.length_append, List.map_append, Hacc.out]
            exact hown'
          have Hown1 := Lib.hid hown1
          obtain ⟨ao, cp, hv⟩ := owns_slice hown'
          rw [hv] at Hown1
          rw [hv]
          clear hown hown' hgrow hne hown1 hv
          go_wp2
          go_roundw
          case rel =>
            refine ⟨i + 1, a + q, by go_num, by go_num, by omega, by omega, by omega, acc ++ [x], by rw [List.length_append, Hacc.out]; rfl, Hown1.out, hB1, ?_⟩
            have h1 := Hrest.out
            rw [show n - i = (n - (i + 1)) + 1 from by omega, V.listF, Hp.out, if_neg (by simp), List.drop_drop] at h1
            exact h1
          case measure => simp [RowKit.intOf]; omega
        · have hz' : ((f : Int) != 0) = true := by simp; omega
          have Hend : Hid (V.getInts (L s) = ([], 0, f)) := Lib.hid (by
            have h1 := Hrest.out
            rw [show n - i = (n - (i + 1)) + 1 from by omega, V.listF, Hp.out, if_pos hf] at h1
            exact h1.symm)
          have he0 := hpe hf
          simp only [Prod.mk.injEq] at he0
          obtain ⟨rfl, rfl, _⟩ := he0
          clear hpb hpe
          go_wp2_with (go_at_call 28; refine HP.out.mono ?_; rintro e w' ⟨rfl, rfl⟩)
          go_ret3
          exact retI_mk Hend.out rfl rfl (ownsI_nil _ _) hB
      · have Hend : Hid (V.getInts (L s) = (acc, a, 0)) := Lib.hid (by
          have h1 := Hrest.out
          rw [show n - i = 0 from by omega, V.listF] at h1
          exact h1.symm)
        clear hpb hpe
        go_wp2_with fail
        go_ret3
        exact retI_mk Hend.out rfl rfl Hown.out hB

  · have hz' : ((e : Int) != 0) = true := by simp; omega
    have Hg : Hid (V.getInts (L s) = ([], 0, e)) := Lib.hid (by rw [hg]; unfold V.listOf; rw [if_pos hz])
    clear hg
    go_enter Try.func27, Try.ntmps27
    go_wp2_with (go_at_call 39; refine HG.out.mono ?_; rintro e w' ⟨rfl, rfl⟩)
    go_ret3
    exact retI_mk Hg.out rfl rfl (ownsI_nil _ _) (Below.refl _ _)

/-- the length of a slice -/
def lenOf : Value → Nat
  | .slice _ n _ => n
  | _ => 0


set_option maxRecDepth 100000 in
set_option maxHeartbeats 4000000 in
theorem refGetInts_any (s : ByteArray) (w : World) (hs : s.size ≤ 1000000000) :
    Calls Try.prog 18 #[.string s] w (RetI w.heap.size (V.getInts (L s)) w) := by
  obtain ⟨i0, hi, hz0, hz1, hz2⟩ := info_parts infoInt
  obtain ⟨r, hr⟩ : ∃ r, V.get (L s) = r := ⟨_, rfl⟩
  have G := refGet_any s w (by unfold maxLen; omega)
  have hb := V.get_bound (L s)
  have hg : V.getInts (L s) = V.listOf V.getInt (L s) r := by unfold V.getInts V.getListOf; rw [hr]
  rw [hr] at G hb
  obtain ⟨n, k, e⟩ := r
  rw [L_length] at hb
  obtain ⟨hb1, hb2, hb3, hb4, hb5⟩ := hb
  have HG := Lib.hid G; clear G hr
  by_cases hz : e = 0
  · subst hz
    have hk0 : 0 < k := hb5 rfl
    clear hb5
    have Hg : Hid (V.listF V.getInt n ((L s).drop k) k [] = V.getInts (L s)) := Lib.hid (by rw [hg]; unfold V.listOf; rw [if_neg (by simp)])
    clear hg
    go_enter Try.func18, Try.ntmps18
    go_wp2_with (go_at_call 31; refine HG.out.mono ?_; rintro e w' ⟨rfl, rfl⟩)
    go_loopw [6, 8, 9, 10, 11] (fun a v _ _ _ wr => ∃ (i b : Nat) (ao : Option Addr) (cp : Nat), v = .slice ao i cp ∧ a = .int .i64 b ∧ LRelI s n i b v w wr) (fun a v _ _ _ wr => n - lenOf v)
    case atStart => exact ⟨0, k, none, 0, rfl, rfl, by omega, by omega, by omega, [], rfl, World.ownsRow_nil _ _ _ _, Below.refl _ _, Hg.out⟩
    case round =>
      obtain ⟨i, a, ao0, cp0, rfl, rfl, hin, has, hia, acc, hacc, hown, hB, hrest⟩ := hrel
      have Hrest := Lib.hid hrest; clear hrest
      have Hacc := Lib.hid hacc; clear hacc
      have Hown := Lib.hid hown; clear hown
      have hsz := hB.size
      obtain ⟨p, hp⟩ : ∃ p, V.get ((L s).drop a) = p := ⟨_, rfl⟩
      have P := refGet_any (s.extract a s.size) wr (by unfold maxLen; simp; omega)
      have hpb0 := V.get_bound ((L s).drop a)
      have hpe := V.get_err ((L s).drop a)
      rw [L_from, hp] at P
      rw [hp] at hpb0 hpe
      have Hp := Lib.hid (show V.getInt ((L s).drop a) = V.intOf p by unfold V.getInt; rw [hp]); clear hp
      obtain ⟨x, q, f⟩ := p
      rw [List.length_drop, L_length] at hpb0
      have hpx := hpb0.1
      have hpb : f ≤ 9 ∧ (f = 0 → 1 ≤ q ∧ q ≤ s.size - a) := ⟨hpb0.2.2.2.1, fun h => ⟨hpb0.2.2.2.2 h, hpb0.2.1⟩⟩
      clear hpb0
      have HP := Lib.hid P; clear P
      by_cases hlt : i < n
      · by_cases hf : f = 0
        · subst hf
          have hq := hpb.2 rfl
          obtain ⟨hq1, hq2⟩ := hq
          clear hpb hpe
          have hown := Hown.out
          unfold OwnsI at hown
          rw [Hacc.out] at hown
          go_wp2_with (first | (go_at_call 31; refine HP.out.mono ?_; rintro e w' ⟨rfl, rfl⟩) | (go_at_call 32; refine (refInteger_any x _ hpx).mono ?_; rintro e w' ⟨rfl, rfl⟩) | (at_builtin; refine wpList_append_own _ rfl _ _ 37 rfl w.heap.size 3 i0 (.int .i64 0) 1 8 Try.underlying37 hi hz0 hz1 hz2 rfl (by decide) _ _ _ rfl (hown.alloc _) ⟨wr.heap.size, 0, none⟩ 1 1 [.int .i64 (V.unzig x)] rfl rfl (one_at _ _ _) (one_cell _ rfl) (by unfold maxLen; omega) (by omega) (by simp; omega) ?_))
          intro v' w1 hown' hgrow hne
          have hB1 := (hB.alloc hsz (.cells #[.int .i64 (V.unzig x)] 3)).grown hgrow (by simp; omega) (fun j hj => (hown.lt j hj).1)
          have hown1 : OwnsI w.heap.size v' (acc ++ [V.unzig x]) w1 := by
            unfold OwnsI
            rw [List.length_append, List.map_append, Hacc.out]
            exact hown'
          have Hown1 := Lib.hid hown1
          obtain ⟨ao, cp, hv⟩ := owns_slice hown'
          rw [hv] at Hown1
          rw [hv]
          clear hown hown' hgrow hne hown1 hv
          go_wp2
          go_roundw
          case rel =>
            refine ⟨i + 1, a + q, ao, cp, rfl, by go_num, by omega, by omega, by omega, acc ++ [V.unzig x], by rw [List.length_append, Hacc.out]; rfl, Hown1.out, hB1, ?_⟩
            have h1 := Hrest.out
            rw [show n - i = (n - (i + 1)) + 1 from by omega, V.listF, Hp.out, V.intOf, if_neg (by simp), if_neg (by simp), List.drop_drop] at h1
            exact h1
          case measure => simp [lenOf]; omega
        · have hz' : ((f : Int) != 0) = true := by simp; omega
          have Hend : Hid (V.getInts (L s) = ([], 0, f)) := Lib.hid (by
            have h1 := Hrest.out
            rw [show n - i = (n - (i + 1)) + 1 from by omega, V.listF, Hp.out, V.intOf, if_pos hf, if_pos hf] at h1
            exact h1.symm)
          have he0 := hpe hf
          simp only at he0
          obtain ⟨rfl, rfl⟩ := he0
          clear hpb hpe
          go_wp2_with (go_at_call 31; refine HP.out.mono ?_; rintro e w' ⟨rfl, rfl⟩)
          go_ret3
          exact retI_mk Hend.out rfl rfl (ownsI_nil _ _) hB
      · have Hend : Hid (V.getInts (L s) = (acc, a, 0)) := Lib.hid (by
          have h1 := Hrest.out
          rw [show n - i = 0 from by omega, V.listF] at h1
          exact h1.symm)
        clear hpb hpe
        go_wp2_with fail
        go_ret3
        exact retI_mk Hend.out rfl rfl Hown.out hB

  · have hz' : ((e : Int) != 0) = true := by simp; omega
    have Hg : Hid (V.getInts (L s) = ([], 0, e)) := Lib.hid (by rw [hg]; unfold V.listOf; rw [if_pos hz])
    clear hg
    go_enter Try.func18, Try.ntmps18
    go_wp2_with (go_at_call 31; refine HG.out.mono ?_; rintro e w' ⟨rfl, rfl⟩)
    go_ret3
    exact retI_mk Hg.out rfl rfl (ownsI_nil _ _) (Below.refl _ _)

end Go.Proofs.Ytkabkcokklgfoaa
