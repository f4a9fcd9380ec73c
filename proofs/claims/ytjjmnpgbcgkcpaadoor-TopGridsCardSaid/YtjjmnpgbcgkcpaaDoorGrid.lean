/-
  The read and the write system of a grid.
-/
import Derived.Test.YtjjmnpgbcgkcpaaDoorThrWalk
set_option linter.unusedVariables false
namespace Go.Proofs.YtjjmnpgbcgkcpaaDoor
open Go.RowKit

namespace T
def all (l : List Ex) : Ex := thr (l.length : Int) l
def one (l : List Ex) : Ex := thr 1 l
def row (c r : Nat) : List Ex := servers (upTo (r * c) c)
def reads (c n : Nat) : List Ex := (List.range n).map fun r => all (row c r)
def writes (c n : Nat) : List Ex := (List.range n).map fun r => one (row c r)
theorem reads_succ (c n : Nat) : reads c (n + 1) = reads c n ++ [all (row c n)] := by unfold reads; rw [List.range_succ, List.map_append]; rfl
theorem writes_succ (c n : Nat) : writes c (n + 1) = writes c n ++ [one (row c n)] := by unfold writes; rw [List.range_succ, List.map_append]; rfl
theorem small_row : ∀ r : Fin 4, ∀ c : Fin 4, Small (row c.1 r.1) := by unfold Small; decide
theorem small_reads : ∀ r : Fin 4, ∀ c : Fin 4, Small (reads c.1 r.1) ∧ Small (writes c.1 r.1) := by unfold Small; decide
end T

theorem blk_typed {w : World} {b : Nat} {l : List Value} (h : Blk b l 24 w) : ∀ g, some b = some g → ∃ C fr T, w.heap[g]? = some (.cells C T fr) ∧ T ≠ 59 ∧ T ≠ 3 := fun g hg => by
  have e := Option.some.inj hg
  subst e
  exact ⟨_, _, _, h, by decide, by decide⟩
theorem grown_setRow (w : World) (g : Nat) (cs : Array Value) : w.grownBy (w.setRow g cs) (some g) := ⟨rfl, rfl, rfl, by rw [setRow_size]; exact Nat.le_refl _, fun k _ hk => setRow_other _ _ _ _ (fun e => hk (by rw [e]))⟩
theorem results_row_row_tmp {P : Program} {fn : Func} {p q u : Tmp} {ty : TypeId} (h : fn.results = #[.cell p ty, .cell q ty, .tmp u]) (tmps : Array Value) (w : World) (g g2 : Nat) (t : TypeId) (cs cs2 : Array Value) (fr : Nat × Nat) (d : TypeDesc)
    (hp : tmps.getD p undef = .pointer (some ⟨g, 0, none⟩)) (hq : tmps.getD q undef = .pointer (some ⟨g2, 0, none⟩)) (hg : w.heap[g]? = some (.cells cs t fr)) (hg2 : w.heap[g2]? = some (.cells cs2 t fr))
    (hu : P.underlying ty = some d) (hd : (match d with | .struct _ | .array _ _ => true | _ => false) = true) (hi : (P.info? ty).map (·.size) = some cs.size) (hi2 : (P.info? ty).map (·.size) = some cs2.size) :
    (results fn tmps).run P w = .ok (.tuple #[.agg cs, .agg cs2, tmps.getD u undef]) w := by
  have hp' : tmps[p]?.getD undef = .pointer (some ⟨g, 0, none⟩) := by simpa using hp
  have hq' : tmps[q]?.getD undef = .pointer (some ⟨g2, 0, none⟩) := by simpa using hq
  simp only [results, h]
  simp [Sem.run_bind, Result.andThen, hp', hq', asAddr, run_loadVar_row w g t ty cs fr d hg hu hd hi, run_loadVar_row w g2 t ty cs2 fr d hg2 hu hd hi2]

set_option maxRecDepth 100000 in
set_option maxHeartbeats 200000 in
theorem all_any (v0 : Value) (l : List Ex) (w : World) (hv : ExsAt w v0 l) (hs : T.Small l) :
    Calls Tryd.prog 12 #[v0] w fun e w' => ∃ nv, e = .returned (.agg #[nv, .int .i64 (T.all l).2]) ∧ NodesAt w' nv (T.all l).1 ∧ Below w.heap.size w w' := by
  obtain ⟨ao, cap, rfl, _⟩ := id hv
  have hT := threshold_any (l.length : Int) _ l (w.alloc (.cells #[.slice none 0 0, .int .i64 0] 24)) (hv.keep (below_box _ _)) hs
  have ha : T.thr (l.length : Int) l = T.all l := rfl
  rw [ha] at hT
  generalize T.all l = x at hT
  clear hv ha
  have hA := Blk.new [.slice none 0 0, .int .i64 0] 24 w
  have hB := below_box w (.cells #[.slice none 0 0, .int .i64 0] 24)
  go_enter Tryd.func12, Tryd.ntmps12
  go_upto_region 1 with fail
  go_wp2_with (first
    | (go_at_call 28; refine hT.mono ?_; rintro e w2 ⟨nv, rfl, hN, hB2⟩; have hA2 := hA.keep hB2; have hB3 := hB.trans (hB2.mono hB.size); obtain ⟨nb, ncap, rfl, _⟩ := hN.rd; clear hT hA hB hB2)
    | (refine wpList_store_row rfl 24 (.tmp 2) (.tmp 6) rfl w.heap.size #[.slice (some ⟨nb, 0, none⟩) x.1.length ncap, .int .i64 x.2] rfl rfl 24 _ hA2 (by kernel_rfl) (by kernel_rfl) (by simp [Value.oneCell']) ?_))
  exact bodyPost_ret (results_cell_row rfl _ _ w.heap.size 24 #[.slice (some ⟨nb, 0, none⟩) x.1.length ncap, .int .i64 x.2] (0, 0) _ rfl (setRow_heap _ _ _ _ _ _ hA2) Tryd.underlying24 rfl (by kernel_rfl)) rfl
    ⟨_, rfl, hN.kept (grown_setRow _ _ _) (blk_typed hA2), Below.setRow _ hB3 (Nat.le_refl _)⟩

set_option maxRecDepth 100000 in
set_option maxHeartbeats 200000 in
theorem one_any (v0 : Value) (l : List Ex) (w : World) (hv : ExsAt w v0 l) (hs : T.Small l) :
    Calls Tryd.prog 13 #[v0] w fun e w' => ∃ nv, e = .returned (.agg #[nv, .int .i64 (T.one l).2]) ∧ NodesAt w' nv (T.one l).1 ∧ Below w.heap.size w w' := by
  obtain ⟨ao, cap, rfl, _⟩ := id hv
  have hT := threshold_any 1 _ l (w.alloc (.cells #[.slice none 0 0, .int .i64 0] 24)) (hv.keep (below_box _ _)) hs
  have ha : T.thr 1 l = T.one l := rfl
  rw [ha] at hT
  generalize T.one l = x at hT
  clear hv ha
  have hA := Blk.new [.slice none 0 0, .int .i64 0] 24 w
  have hB := below_box w (.cells #[.slice none 0 0, .int .i64 0] 24)
  go_enter Tryd.func13, Tryd.ntmps13
  go_upto_region 1 with fail
  go_wp2_with (first
    | (go_at_call 28; refine hT.mono ?_; rintro e w2 ⟨nv, rfl, hN, hB2⟩; have hA2 := hA.keep hB2; have hB3 := hB.trans (hB2.mono hB.size); obtain ⟨nb, ncap, rfl, _⟩ := hN.rd; clear hT hA hB hB2)
    | (refine wpList_store_row rfl 24 (.tmp 2) (.tmp 4) rfl w.heap.size #[.slice (some ⟨nb, 0, none⟩) x.1.length ncap, .int .i64 x.2] rfl rfl 24 _ hA2 (by kernel_rfl) (by kernel_rfl) (by simp [Value.oneCell']) ?_))
  exact bodyPost_ret (results_cell_row rfl _ _ w.heap.size 24 #[.slice (some ⟨nb, 0, none⟩) x.1.length ncap, .int .i64 x.2] (0, 0) _ rfl (setRow_heap _ _ _ _ _ _ hA2) Tryd.underlying24 rfl (by kernel_rfl)) rfl
    ⟨_, rfl, hN.kept (grown_setRow _ _ _) (blk_typed hA2), Below.setRow _ hB3 (Nat.le_refl _)⟩

theorem OwnExs.kept {B : Nat} {v : Value} {l : List (Ex × Value)} {w w' : World} {row : Option Nat} (h : OwnExs B v l w) (hg : w.grownBy w' row) (hv : v.ownBlock = none ∨ v.ownBlock ≠ row) (hrow : ∀ g, row = some g → ∃ C fr T, w.heap[g]? = some (.cells C T fr) ∧ T ≠ 59 ∧ T ≠ 3) : OwnExs B v l w' :=
  ⟨h.1.kept hg hv, fun p hp => (h.2 p hp).kept hg hrow⟩
theorem exs_typed {B : Nat} {v : Value} {l : List (Ex × Value)} {w : World} (h : OwnExs B v l w) : ∀ g, v.ownBlock = some g → ∃ C fr T, w.heap[g]? = some (.cells C T fr) ∧ T ≠ 59 ∧ T ≠ 3 := fun g hg => by
  obtain ⟨C, fr, T, q1, rfl⟩ := own_typed h.1 g hg
  exact ⟨C, fr, _, q1, by decide, by decide⟩

/-- where a grid is being built -/
structure GI (w : World) (v7 v8 : Value) (lr lw : List (Ex × Value)) (u : World) : Prop where
  res : Blk w.heap.size [.slice none 0 0, .int .i64 0] 24 u
  res2 : Blk (w.heap.size + 1) [.slice none 0 0, .int .i64 0] 24 u
  rd : OwnExs w.heap.size v7 lr u
  wr : OwnExs w.heap.size v8 lw u
  apart : v7.ownBlock = none ∨ v7.ownBlock ≠ v8.ownBlock
  new1 : v7.ownBlock ≠ some w.heap.size ∧ v7.ownBlock ≠ some (w.heap.size + 1)
  new2 : v8.ownBlock ≠ some w.heap.size ∧ v8.ownBlock ≠ some (w.heap.size + 1)
  below : Below w.heap.size w u
theorem GI.keep {w u u' : World} {v7 v8 : Value} {lr lw : List (Ex × Value)} (h : GI w v7 v8 lr lw u) (hB : Below u.heap.size u u') : GI w v7 v8 lr lw u' :=
  ⟨h.res.keep hB, h.res2.keep hB, h.rd.keep hB, h.wr.keep hB, h.apart, h.new1, h.new2, h.below.trans (hB.mono h.below.size)⟩
theorem flip_apart {a b : Option Nat} (h : a = none ∨ a ≠ b) : b = none ∨ b ≠ a := by
  rcases h with h | h
  · subst h
    cases b with
    | none => exact .inl rfl
    | some g => exact .inr (fun e => by cases e)
  · exact .inr (fun e => h e.symm)
theorem GI.read {w u w1 : World} {v7 v8 nv : Value} {x : Ex} {lr lw : List (Ex × Value)} {g n cap : Nat} (h : GI w v7 v8 lr lw u) (hn : NodesAt u nv x.1) (hg : u.grownBy w1 v7.ownBlock)
    (ho : w1.ownsRow w.heap.size 24 2 (.slice (some ⟨g, 0, none⟩) n cap) (lr.length + 1) ((lr.flatMap fun p => exRow p.1 p.2) ++ exRow x nv)) (hb : v7.ownBlock = some g ∨ g = u.heap.size) :
    GI w (.slice (some ⟨g, 0, none⟩) n cap) v8 (lr ++ [(x, nv)]) lw w1 := by
  refine ⟨h.res.grown hg (fun e => h.new1.1 e.symm), h.res2.grown hg (fun e => h.new1.2 e.symm), h.rd.snoc hn hg ho, h.wr.kept hg (flip_apart h.apart) (exs_typed h.rd), ?_, ?_, h.new2, h.below.grown hg h.below.size (fun k hk => (h.rd.1.lt k hk).1)⟩
  · rcases hb with hb | hb
    · rcases h.apart with h1 | h1
      · rw [h1] at hb; cases hb
      · exact .inr (by rw [hb] at h1; exact h1)
    · exact flip_apart (by rw [hb]; exact own_lt h.wr.1 _ (Nat.le_refl _))
  · rcases hb with hb | hb
    · exact ⟨fun e => h.new1.1 (hb.trans e), fun e => h.new1.2 (hb.trans e)⟩
    · have h1 := h.res.lt
      have h2 := h.res2.lt
      refine ⟨fun e => ?_, fun e => ?_⟩
      · have : g = w.heap.size := Option.some.inj e
        omega
      · have : g = w.heap.size + 1 := Option.some.inj e
        omega
theorem GI.swap {w u : World} {v7 v8 : Value} {lr lw : List (Ex × Value)} (h : GI w v7 v8 lr lw u) : GI w v8 v7 lw lr u := ⟨h.res, h.res2, h.wr, h.rd, flip_apart h.apart, h.new2, h.new1, h.below⟩

set_option maxRecDepth 100000 in
set_option maxHeartbeats 400000 in
theorem grid_any (a b : Nat) (ha : 1 ≤ a ∧ a ≤ 3) (hb : 1 ≤ b ∧ b ≤ 3) (w : World) :
    Calls Tryd.prog 4 #[.int .i64 (a : Int), .int .i64 (b : Int)] w fun e w' => ∃ nv nv', e = .returned (.tuple #[.agg #[nv, .int .i64 (T.one (T.reads b a)).2], .agg #[nv', .int .i64 (T.all (T.writes b a)).2], .int .i64 0]) ∧
      NodesAt w' nv (T.one (T.reads b a)).1 ∧ NodesAt w' nv' (T.all (T.writes b a)).1 ∧ Below w.heap.size w w' := by
  have hab : (a : Int) * b ≤ 9 := by
    have := Nat.mul_le_mul ha.2 hb.2
    exact_mod_cast this
  have hab0 : 0 ≤ (a : Int) * b := Int.mul_nonneg (by omega) (by omega)
  have hrb : ∀ r : Nat, r < a → (r : Int) * b ≤ 9 ∧ 0 ≤ (r : Int) * b := fun r hr => ⟨by
    have := Nat.mul_le_mul (show r ≤ 3 by omega) hb.2
    exact_mod_cast this, Int.mul_nonneg (by omega) (by omega)⟩
  go_enter Tryd.func4, Tryd.ntmps4
  go_upto_region 1 with fail
  generalize hw1 : World.alloc _ _ = w1
  have hA : Blk w.heap.size [.slice none 0 0, .int .i64 0] 24 w1 := by rw [← hw1]; exact (Blk.new _ _ w).alloc _
  have hA2 : Blk (w.heap.size + 1) [.slice none 0 0, .int .i64 0] 24 w1 := by
    rw [← hw1]
    have h := Blk.new [.slice none 0 0, .int .i64 0] 24 (w.alloc (.cells #[.slice none 0 0, .int .i64 0] 24))
    rw [World.size_alloc] at h
    exact h
  have hB : Below w.heap.size w w1 := by rw [← hw1]; exact ((Below.refl _ w).alloc (Nat.le_refl _) _).alloc (by simp) _
  clear hw1
  go_wp2_with fail
  have hI : GI w (.slice none 0 0) (.slice none 0 0) [] [] w1 := ⟨hA, hA2, OwnExs.nil _ _, OwnExs.nil _ _, .inl rfl, ⟨(fun e => by cases e), (fun e => by cases e)⟩, ⟨(fun e => by cases e), (fun e => by cases e)⟩, hB⟩
  clear hA hA2 hB
  go_loopw [7, 8, 36] (fun v7 v8 x u => ∃ (i : Nat) (lr lw : List (Ex × Value)), x = .int .i64 (i : Int) ∧ i ≤ a ∧ lr.map (·.1) = T.reads b i ∧ lw.map (·.1) = T.writes b i ∧ GI w v7 v8 lr lw u) (fun _ _ x _ => a - (intOf x).toNat)
  case atStart => exact ⟨0, [], [], rfl, by omega, rfl, rfl, hI⟩
  case round =>
    clear hI
    obtain ⟨i, lr, lw, rfl, hi, hlr, hlw, hI⟩ := hrel
    by_cases hlt : i < a
    · have hpr := hrb i hlt
      have hU := upTo_any (i * b) b (by have := Nat.mul_le_mul (show i ≤ 3 by omega) hb.2; omega) (by omega) wr
      rw [Int.natCast_mul] at hU
      have hlr2 := T.reads_succ b i
      have hlw2 := T.writes_succ b i
      have hsm : T.Small (T.row b i) := T.small_row ⟨i, by omega⟩ ⟨b, by omega⟩
      have hlen1 : lr.length ≤ 3 := by
        have h1 := congrArg List.length hlr
        rw [List.length_map] at h1
        rw [h1]; unfold T.reads; simp; omega
      have hlen2 : lw.length ≤ 3 := by
        have h1 := congrArg List.length hlw
        rw [List.length_map] at h1
        rw [h1]; unfold T.writes; simp; omega
      have hlu : (T.upTo (i * b) b).length ≤ 1000 := by unfold T.upTo; simp; omega
      have hrow : T.servers (T.upTo (i * b) b) = T.row b i := rfl
      rw [← hrow] at hsm hlr2 hlw2
      generalize T.upTo (i * b) b = us at hU hrow hsm hlr2 hlw2 hlu
      clear hrow hrb
      go_upto_region 10 with (first
        | (go_at_call 11; refine hU.mono ?_; rintro e w2 ⟨v, rfl, hown, hB2⟩; have hS := servers_any v us hlu w2 (ownsI_ints hown); obtain ⟨_, _, rfl⟩ := owns_slice hown; clear hown hU)
        | (go_at_call 10; refine hS.mono ?_; rintro e w3 ⟨vs, ls, rfl, hE, hls, hB3⟩))
      have hI3 := (hI.keep hB2).keep hB3
      have hvs : vs.ownBlock = none ∨ vs.ownBlock ≠ u7.ownBlock := by
        cases hv1 : vs.ownBlock with
        | none => exact .inl rfl
        | some g1 =>
          refine .inr fun e => ?_
          have h1 := (hE.1.lt g1 hv1).1
          have h2 := (hI.rd.1.lt g1 e.symm).2
          have := hB2.size
          omega
      have hEx := hE.at
      rw [hls] at hEx
      have hA := all_any vs _ w3 hEx hsm
      clear hI hB2 hB3
      generalize T.all (T.servers us) = xa at hA hlr2
      obtain ⟨va, vc, rfl⟩ := owns_slice hE.1
      obtain ⟨ra, rc, rfl⟩ := owns_slice hI3.rd.1
      obtain ⟨wa, wc, rfl⟩ := owns_slice hI3.wr.1
      go_upto_region 11 with (first
        | (go_at_call 12; refine hA.mono ?_; rintro e w4 ⟨nv, rfl, hN4, hB4⟩; obtain ⟨nb, ncap, rfl, _⟩ := hN4.rd; have hI5 := (hI3.keep hB4).keep (below_box w4 (.cells (exRow xa (.slice (some ⟨nb, 0, none⟩) xa.1.length ncap)).toArray 24)); have hE5 := (hE.keep hB4).keep (below_box w4 (.cells (exRow xa (.slice (some ⟨nb, 0, none⟩) xa.1.length ncap)).toArray 24)); have hN5 := hN4.keep (below_box w4 (.cells (exRow xa (.slice (some ⟨nb, 0, none⟩) xa.1.length ncap)).toArray 24)); have hsz5 := hI5.below.size; clear hA hI3 hB4 hN4 hE)
        | (at_builtin; refine wpList_app1 rfl _ _ 38 rfl w.heap.size 24 2 elemExpr _ _ _ rfl hI5.rd.1 ⟨_, 0, none⟩ 1 (exRow xa (.slice (some ⟨nb, 0, none⟩) xa.1.length ncap)) rfl rfl (blk_new_cells _ _ _) (by simp [exRow, Value.oneCell']) (by omega) hsz5 ?_; rintro g2 cap2 w6 hown' hgrow hg2))
      have hI6 := hI5.read hN5 hgrow hown' hg2
      have hE6 := hE5.kept hgrow hvs (exs_typed hI5.rd)
      have hEx6 := hE6.at
      rw [hls] at hEx6
      have hA := one_any _ _ w6 hEx6 hsm
      clear hI5 hE5 hN5 hgrow hown' hg2 hE6 hEx6 hsz5
      generalize T.one (T.servers us) = xo at hA hlw2
      go_upto_region 12 with (first
        | (go_at_call 13; refine hA.mono ?_; rintro e w7 ⟨nv2, rfl, hN4, hB4⟩; obtain ⟨nb2, ncap2, rfl, _⟩ := hN4.rd; have hI7 := ((hI6.keep hB4).keep (below_box w7 (.cells (exRow xo (.slice (some ⟨nb2, 0, none⟩) xo.1.length ncap2)).toArray 24))).swap; have hN5 := hN4.keep (below_box w7 (.cells (exRow xo (.slice (some ⟨nb2, 0, none⟩) xo.1.length ncap2)).toArray 24)); have hsz5 := hI7.below.size; clear hA hI6 hB4 hN4)
        | (at_builtin; refine wpList_app1 rfl _ _ 38 rfl w.heap.size 24 2 elemExpr _ _ _ rfl hI7.rd.1 ⟨_, 0, none⟩ 1 (exRow xo (.slice (some ⟨nb2, 0, none⟩) xo.1.length ncap2)) rfl rfl (blk_new_cells _ _ _) (by simp [exRow, Value.oneCell']) (by omega) hsz5 ?_; rintro g3 cap3 w8 hown' hgrow hg2))
      have hI8 := (hI7.read hN5 hgrow hown' hg2).swap
      clear hI7 hN5 hgrow hown' hg2 hsz5
      go_wp2_with fail
      go_roundw
      case rel => exact ⟨i + 1, _, _, by go_num, by omega, by rw [List.map_append, hlr2, hlr]; rfl, by rw [List.map_append, hlw2, hlw]; rfl, hI8⟩
      case measure => simp [intOf]; omega
    · obtain rfl : i = a := by omega
      have hs1 : T.Small (T.reads b i) ∧ T.Small (T.writes b i) := T.small_reads ⟨i, by omega⟩ ⟨b, by omega⟩
      have hE1 := hI.rd.at
      have hE2 := hI.wr.at
      rw [hlr] at hE1
      rw [hlw] at hE2
      obtain ⟨ra, rc, rfl⟩ := owns_slice hI.rd.1
      obtain ⟨wa, wc, rfl⟩ := owns_slice hI.wr.1
      have hO := one_any _ _ wr hE1 hs1.1
      have hA := fun u hu => all_any _ _ u (hE2.keep (w' := u) hu) hs1.2
      have b1 := hI.res
      have b2 := hI.res2
      have bB := hI.below
      clear hI hE1 hE2 hlr hlw hs1 hrb
      obtain ⟨xo, hxo⟩ : ∃ xo, ∀ _ : Unit, T.one (T.reads b i) = xo := ⟨_, fun _ => rfl⟩
      obtain ⟨xa, hxa⟩ : ∃ xa, ∀ _ : Unit, T.all (T.writes b i) = xa := ⟨_, fun _ => rfl⟩
      rw [hxo ()] at hO
      rw [hxa ()] at hA
      go_wp2_with (first
        | (go_at_call 13; refine hO.mono ?_; rintro e w2 ⟨nv1, rfl, hN1, hB1⟩; obtain ⟨nb1, nc1, rfl, _⟩ := hN1.rd; have hA2 := hA w2 hB1; have b3 := b1.keep hB1; have b4 := b2.keep hB1; have b5 := bB.trans (hB1.mono bB.size); clear hO hA hB1 b1 b2 bB)
        | (go_at_call 12; refine hA2.mono ?_; rintro e w3 ⟨nv2, rfl, hN2, hB2⟩; obtain ⟨nb2, nc2, rfl, _⟩ := hN2.rd; have hN3 := hN1.keep hB2; have b6 := b3.keep hB2; have b7 := b4.keep hB2; have b8 := b5.trans (hB2.mono b5.size); clear hA2 hB2 b3 b4 b5 hN1)
        | (refine wpList_store_row rfl 24 (.tmp 4) (.tmp 57) rfl w.heap.size #[.slice (some ⟨nb1, 0, none⟩) xo.1.length nc1, .int .i64 xo.2] rfl rfl 24 _ b6 (by kernel_rfl) (by kernel_rfl) (by simp [Value.oneCell']) ?_)
        | (refine wpList_store_row rfl 24 (.tmp 5) (.tmp 59) rfl (w.heap.size + 1) #[.slice (some ⟨nb2, 0, none⟩) xa.1.length nc2, .int .i64 xa.2] rfl rfl 24 _ (b7.setRow _ (by omega)) (by kernel_rfl) (by kernel_rfl) (by simp [Value.oneCell']) ?_))
      have s1 : Blk w.heap.size [.slice (some ⟨nb1, 0, none⟩) xo.1.length nc1, .int .i64 xo.2] 24 (w3.setRow w.heap.size #[.slice (some ⟨nb1, 0, none⟩) xo.1.length nc1, .int .i64 xo.2]) := setRow_heap _ _ _ _ _ _ b6
      have s2 : Blk (w.heap.size + 1) [.slice none 0 0, .int .i64 0] 24 (w3.setRow w.heap.size #[.slice (some ⟨nb1, 0, none⟩) xo.1.length nc1, .int .i64 xo.2]) := b7.setRow _ (by omega)
      refine bodyPost_ret (results_row_row_tmp rfl _ _ w.heap.size (w.heap.size + 1) 24 #[.slice (some ⟨nb1, 0, none⟩) xo.1.length nc1, .int .i64 xo.2] #[.slice (some ⟨nb2, 0, none⟩) xa.1.length nc2, .int .i64 xa.2] (0, 0) _ rfl rfl
        (s1.setRow _ (by omega)) (setRow_heap _ _ _ _ _ _ s2) Tryd.underlying24 rfl (by kernel_rfl) (by kernel_rfl)) rfl ?_
      rw [hxo (), hxa ()]
      exact ⟨_, _, rfl, (hN3.kept (grown_setRow _ _ _) (blk_typed b6)).kept (grown_setRow _ _ _) (blk_typed s2), (hN2.kept (grown_setRow _ _ _) (blk_typed b6)).kept (grown_setRow _ _ _) (blk_typed s2), Below.setRow _ (Below.setRow _ b8 (Nat.le_refl _)) (Nat.le_succ _)⟩
end Go.Proofs.YtjjmnpgbcgkcpaaDoor
