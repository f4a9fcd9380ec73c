/-
  The statement BallotHighest: Highest and Longest return what the reference returns, for all lists of at most 20 statuses; conditions: none beyond the row's own (three tables of the library are laid as the program's text lays them).
-/
import Derived.Test.YtnhbgjgfneoajaaDoorRows
import Derived.Test.YtnhbgjgfneoajaaDoorCards
import Derived.Test.YtnhbgjgfneoajaaDoorTie
import Derived.Test.YtnhbgjgfneoajaaDoorStatus
import Derived.Test.YtnhbgjgfneoajaaDoorRefHigh
import Derived.Test.YtnhbgjgfneoajaaDoorEqual
import Derived.SizedLaws
import Derived.OpenShut
import Derived.ProofKit
import Derived.Below
import Derived.ShutString
import Derived.ChangeOld
import Derived.LaidLaws
import Derived.LaidHandle
import Derived.Lay
import Derived.Handed
import Derived.JoinedOf
import Derived.RowKitTokens
import Derived.SevenTiedAt
import Derived.MakeChecks
import Derived.LaidMore
import Derived.Stop.Joined
set_option linter.unusedVariables false
namespace Go.Proofs.YtnhbgjgfneoajaaDoor.ballotHighest
open Go.ChangeShapes Go.WideShapes Go.ChangeAt Go.RowKit
open Go.ChangeMaps (open_string shut_string)

theorem Stats.keep {w w' : World} {ao : Option Addr} {xs : List St} (h : Stats w ao xs) (hB : Below w.heap.size w w') : Stats w' ao xs := fun i s hs => by
  obtain ⟨⟨b, off, e1, e2, e3⟩, e4⟩ := h i s hs
  exact ⟨⟨b, off, e1, Nat.lt_of_lt_of_le e2 hB.size, range_keep e3 hB e2⟩, e4.keep (B := 0) hB⟩

/-- a slice of statuses that came in -/
def IsStats (w : World) (v : Value) (x : Option Addr × Nat × List St) : Prop := v = .slice x.1 x.2.2.length x.2.1 ∧ x.2.2.length ≤ maxLen ∧ Stats w x.1 x.2.2

theorem weightsAll_mem {H : Type} {P : Program} {e : TypeId} : ∀ {l : List (DataW H)} {d : DataW H}, d ∈ l → ∀ n ∈ d.weights P e, n ∈ DataW.weightsAll P e l
  | d' :: r, d, hd, n, hn => by
    simp only [DataW.weightsAll, List.mem_append]
    rcases List.mem_cons.1 hd with rfl | h
    · exact Or.inl hn
    · exact Or.inr (weightsAll_mem h n hn)

/-- the reach of a certificate inside a slice of statuses -/
theorem sized_cert {H : Type} {ts : List TypeId} {ds : List (DataW H)} (h : (DataW.weightsEach Tryd.prog ts ds).all (· ≤ reachBytes) = true) {elems spare parts e' sp' : List (DataW H)}
    (ht : ts[0]? = some 31) (hd : ds[0]? = some (.slice elems spare)) (hx : DataW.agg parts ∈ elems) (hp : parts[5]? = some (.slice e' sp')) : e'.length * 64 ≤ 140737488355328 := by
  have hb : Tryd.prog.bytesOf 34 = 64 := by kernel_rfl
  have h1 : (e'.length + sp'.length) * Tryd.prog.bytesOf 34 ≤ reachBytes := by
    refine of_decide_eq_true (List.all_eq_true.1 h _ (DataW.weights_mem_each ht hd _ ?_))
    simp only [DataW.weights, Tryd.underlying31, List.mem_cons, List.mem_append]
    refine Or.inr (Or.inl (weightsAll_mem hx _ ?_))
    simp only [DataW.weights, Tryd.underlying36]
    refine DataW.weights_mem_each (j := 5) (t := 32) rfl hp _ ?_
    simp [DataW.weights, Tryd.underlying32]
  rw [hb] at h1
  unfold reachBytes at h1
  omega

set_option maxRecDepth 100000 in
theorem openStats {H : Type} {enc : TypeId × Value → H} {W : World} {base : Nat} {v : Value} {d : DataW H} {p : List MemPlace} (hv : Value.okWide Tryd.prog W .any base 31 v)
    (h : DataW.Trod enc Tryd.prog W 0 (fun _ => true) true 31 v d p)
    (hw : ∀ elems spare, d = .slice elems spare → ∀ parts e' sp', DataW.agg parts ∈ elems → parts[5]? = some (.slice e' sp') → e'.length * 64 ≤ 140737488355328) :
    ∃ x : Option Addr × Nat × List St, IsStats W v x := by
  obtain ⟨a0, len0, cap0, rfl⟩ := okWide_slice Tryd.underlying31 hv
  obtain ⟨fuel, hf⟩ := h
  rcases rows_in2 Tryd.underlying31 (show Tryd.prog.cellsOf 36 = 12 by kernel_rfl) (by omega) hf with hcs | ⟨a, len, cap, n, els, rest, hcs, hl, hm, hd, hel, hr⟩
  · simp [Value.cells] at hcs
    obtain ⟨rfl, rfl, rfl⟩ := hcs
    exact ⟨(none, 0, []), rfl, by simp, fun i q hq => by simp at hq⟩
  · simp [Value.cells] at hcs
    obtain ⟨rfl, rfl, rfl⟩ := hcs
    have each : ∀ i, i < len0 → ∃ s : St, (∃ b off, a = ⟨b, off, none⟩ ∧ b < W.heap.size ∧ W.rangeAt b (off + i * 12) s.row) ∧ CertOk W s.c := by
      intro i hi
      obtain ⟨r, y, e0, e1, e2, e3, e4, e5⟩ := hr i hi
      obtain ⟨s, rfl, hc, _⟩ := status_of e5 e3 (fun parts e' sp' hy hp => hw els rest hd parts e' sp' (by rw [← hy]; exact List.mem_of_getElem? e0) hp)
      exact ⟨s, ⟨a.block, a.off, e1, e2, e4⟩, hc⟩
    have hall : ∃ xs : List St, xs.length = len0 ∧ ∀ i s, xs[i]? = some s → (∃ b off, a = ⟨b, off, none⟩ ∧ b < W.heap.size ∧ W.rangeAt b (off + i * 12) s.row) ∧ CertOk W s.c := by
      clear hv hf hr hl hel hd
      induction len0 with
      | zero => exact ⟨[], rfl, fun i q hq => by simp at hq⟩
      | succ n ih =>
        obtain ⟨xs, hxl, hx⟩ := ih (fun i hi => each i (by omega))
        obtain ⟨q, hq⟩ := each n (by omega)
        refine ⟨xs ++ [q], by simp [hxl], fun i q' hq' => ?_⟩
        by_cases hi : i < xs.length
        · rw [List.getElem?_append_left hi] at hq'
          exact hx i q' hq'
        · rw [List.getElem?_append_right (by omega)] at hq'
          have h0 : i - xs.length = 0 := by
            have := (List.getElem?_eq_some_iff.1 hq').1
            simp at this
            omega
          rw [h0] at hq'
          simp at hq'
          subst hq'
          have : i = n := by omega
          subst this
          exact hq
    obtain ⟨xs, hxl, hx⟩ := hall
    subst hxl
    exact ⟨(some a, cap0, xs), rfl, by simpa using Nat.le_trans hl hm, fun i q hq => by
      obtain ⟨⟨b, off, h1, h2, h3⟩, h4⟩ := hx i q hq
      exact ⟨⟨b, off, by rw [h1], h2, h3⟩, h4⟩⟩

/-- what the two Highest return, side by side -/
theorem pair {b : Option St} {e : Ending} {w : World} (h : HighPost b e w) : ∃ (s t : St) (er : Int), e = .returned (.tuple #[.agg s.row.toArray, .int .i64 er]) ∧
    (∀ e2, RefPost b e2 → e2 = .returned (.tuple #[.agg t.row.toArray, .int .i64 er])) ∧ SameCert w s.c t.c ∧ { s with c := t.c } = t := by
  cases b with
  | none => exact ⟨St.zero, St.zero, 4, h, fun e2 h2 => h2, SameCert.nil w, rfl⟩
  | some t =>
    obtain ⟨c', h1, h2⟩ := h
    exact ⟨{ t with c := c' }, t, 0, h1, fun e2 h3 => h3, h2.symm, rfl⟩
theorem ones {w : World} {c c' : Value} (h : SameCert w c c') : c.oneCell' = true ∧ c'.oneCell' = true := by
  obtain ⟨_, _, _, _, _, h1, h2, _⟩ := h
  rw [h1, h2]
  exact ⟨rfl, rfl⟩

set_option maxRecDepth 100000 in
set_option maxHeartbeats 1500000 in
theorem walk (v : Value) (x : Option Addr × Nat × List St) (len wb : Int) (w : World) (hx : IsStats w v x) (_ : (Lit.int .i64 len).wf = true) (w2 : (Lit.int .u16 wb).wf = true) :
    Calls Tryd.prog 5 #[v, .int .i64 len, .int .u16 wb] w fun e w' => e = .returned (.bool true) ∧ Below w.heap.size w w' := by
  obtain ⟨ao, cap, xs⟩ := x
  obtain ⟨hv, hlm, hx⟩ := hx
  simp only at hv hlm hx
  subst hv
  unfold maxLen at hlm
  have hwb : 0 ≤ wb ∧ wb ≤ 65535 := by simpa [Lit.wf, IntKind.min, IntKind.max, IntKind.signed, IntKind.bits] using w2
  clear w2
  by_cases hs : xs.length ≤ 20
  · have hs1 : (xs.length : Int) ≤ 20 := by omega
    go_enter Tryd.func5, Tryd.ntmps5
    go_wp2_with fail
    refine (balAwake_any w).mono ?_
    rintro e w1 ⟨rfl, hB⟩
    have hx1 := Stats.keep hx hB
    have P := highest_any xs ao cap len wb w1 hx1 hs hwb.1 hwb.2
    have R := fun u hu => refHighest_any xs ao cap len wb u (Stats.keep (w' := u) hx hu) hs hwb.1 hwb.2
    have L1 := fun u hu => longest_any xs ao cap u (Stats.keep (w' := u) hx hu) hs
    have L2 := fun u hu => refLongest_any xs ao cap u (Stats.keep (w' := u) hx hu) hs
    generalize best len wb xs = bb at P R
    generalize longR xs xs.length = lr at L1 L2
    clear hx1 hx hwb
    go_wp2_with fail
    refine P.mono ?_
    rintro e w2 ⟨hp, k2⟩
    obtain ⟨s, t, er, rfl, hr, hsame, heq⟩ := pair hp
    obtain ⟨o1, o2⟩ := ones hsame
    have hB2 := hB.trans (k2.mono hB.size)
    clear P hp k2 hB
    go_upto_region 4 with (refine wpList_store_row rfl 36 (.tmp 7) (.tmp 24) rfl w2.heap.size s.row.toArray rfl rfl 36 _ (heap_alloc_new _ _) (by kernel_rfl) (by rfl) (row_ones s o1) ?_)
    generalize hwv : World.setRow _ _ _ = w3
    have hX : Blk w2.heap.size s.row 36 w3 := by rw [← hwv]; exact setRow_heap _ _ _ _ _ _ (heap_alloc_new _ _)
    have k3 : Below w2.heap.size w2 w3 := by rw [← hwv]; exact Dg.Below.setRow _ ((Below.refl _ w2).alloc (Nat.le_refl _) _) (Nat.le_refl _)
    have hsame3 := hsame.keep k3
    have hB3 := hB2.trans (k3.mono hB2.size)
    clear hwv k3 hsame hB2
    generalize w2.heap.size = g at hX ⊢
    go_wp2_with fail
    refine (R _ hB3).mono ?_
    rintro e w4 ⟨hp2, k4⟩
    obtain rfl := hr e hp2
    have hX4 := hX.keep k4
    have hsame4 := hsame3.keep k4
    have hB4 := hB3.trans (k4.mono hB3.size)
    clear R hr hp2 hX hsame3 hB3 k4
    go_upto_region 5 with (refine wpList_store_row rfl 36 (.tmp 9) (.tmp 31) rfl w4.heap.size t.row.toArray rfl rfl 36 _ (heap_alloc_new _ _) (by kernel_rfl) (by rfl) (row_ones t o2) ?_)
    generalize hwv : World.setRow _ _ _ = w5
    have hY : Blk w4.heap.size t.row 36 w5 := by rw [← hwv]; exact setRow_heap _ _ _ _ _ _ (heap_alloc_new _ _)
    have k5 : Below w4.heap.size w4 w5 := by rw [← hwv]; exact Dg.Below.setRow _ ((Below.refl _ w4).alloc (Nat.le_refl _) _) (Nat.le_refl _)
    have hX5 := hX4.keep k5
    have hsame5 := hsame4.keep k5
    have hB5 := hB4.trans (k5.mono hB4.size)
    clear hwv k5 hX4 hsame4 hB4
    generalize w4.heap.size = g2 at hY ⊢
    have E := equal_any s t w5 hsame5 heq
    have HE : ∀ _ : Unit, _ := fun _ => heq
    obtain ⟨⟨a0, a1, a2, a3, a4, a5⟩, a6, a7, a8, a9, a10, a11⟩ := st_row hX5
    obtain ⟨⟨b0, b1, b2, b3, b4, b5⟩, b6, b7, b8, b9, b10, b11⟩ := st_row hY
    clear heq hsame5
    go_wp2_with fail
    refine E.mono ?_
    rintro e w6 ⟨rfl, k6⟩
    have hB6 := hB5.trans (k6.mono hB5.size)
    clear E a0 a1 a2 a3 a4 a5 a6 a7 a8 a9 a10 a11 b0 b1 b2 b3 b4 b5 b6 b7 b8 b9 b10 b11 hX5 hY k6 hB5
    go_wp2_with fail
    refine (L1 _ hB6).mono ?_
    rintro e w7 ⟨rfl, k7⟩
    have hB7 := hB6.trans (k7.mono hB6.size)
    go_wp2_with fail
    refine (L2 _ hB7).mono ?_
    rintro e w8 ⟨rfl, rfl⟩
    go_wp2_with fail
    go_ret
    exact ⟨rfl, hB7⟩
  · have hs1 : (20 : Int) < xs.length := by omega
    clear hx
    go_enter Tryd.func5, Tryd.ntmps5
    go_wp2_with fail
    refine (balAwake_any w).mono ?_
    rintro e w1 ⟨rfl, hB⟩
    go_wp2_with fail
    refine (balAwake_any w1).mono ?_
    rintro e w2 ⟨rfl, hB2⟩
    go_wp2_with fail
    go_ret
    exact ⟨rfl, hB.trans (hB2.mono hB.size)⟩


theorem own : ownKnob Tryd.prog.godebug = none := by kernel_rfl
theorem laidOut : laidOutB Tryd.prog = true := by kernel_rfl

set_option maxRecDepth 100000 in
theorem lifted (os : Os) (started : os.Started) (H : Type) (enc : TypeId × Value → H) :
    ReturnsInHanded {} Tryd.checked os 5 .any (fun w args => (Rows.ballotHighestSpec.pre enc Tryd.prog Tryd.f5 Rows.ballotHighestRow.domain false w args ∧ laidMetH Tryd.prog Rows.ballotHighestRow.laid w) ∧ sizedMet enc Tryd.prog Tryd.f5 (OpenSpec.ofChange Rows.ballotHighestSpec) false w args) (Rows.ballotHighestSpec.post enc Tryd.prog Tryd.f5 false true false false) := by
  refine returnsInHanded_of_change_and (C := Tryd.checked) (X := fun w _ => laidMetH Tryd.prog Rows.ballotHighestRow.laid w) (fun _ _ _ hh h => h.of_heap hh) own started (by kernel_rfl) Tryd.func5
    (ChangeSpec.witness_shaped (enc := enc) (C := Tryd.checked) (os := os) (X := fun w _ => laidMetH Tryd.prog Rows.ballotHighestRow.laid w) false (World.laidAll Tryd.prog os Rows.ballotHighestRow.laid) #[.slice none 0 0, .int .i64 0, .int .u16 0] 8 (World.laidAll_os _ _ _)
      (World.shaped_of_ZipB (by kernel_rfl) (by kernel_rfl)) (by kernel_rfl) (by kernel_rfl) (by kernel_rfl)
      (by rw [MakeChecks.laidMetH_plain _ _ _ (by kernel_rfl)]; exact laidMet_laidAll _ (by kernel_rfl) (by kernel_rfl))) ?_
  intro W base args ds gs before hval0 hW hcnd hsz hL _
  have hval : ∀ (j : Nat) t v, Tryd.f5.params[j]? = some t → args[j]? = some v → Value.okWide Tryd.prog W .any base t v := hval0
  have hW' := hW
  obtain ⟨p, q, hA0, hV, rfl, hfz, hnd⟩ := hW
  have hA : DataW.TrodAll enc Tryd.prog W 0 (fun _ => true) true Tryd.f5.params.toList args.toList ds p := hA0
  rw [Tryd.params5] at hA hval
  obtain ⟨v0, vs0, d0, ds0, p0, q0, hargs, rfl, rfl, h0, r0⟩ := trodAll_cons hA
  obtain ⟨v1, vs1, d1, ds1, p1, q1, rfl, rfl, rfl, h1, r1⟩ := trodAll_cons r0
  obtain ⟨v2, vs2, d2, ds2, p2, q2, rfl, rfl, rfl, h2, r2⟩ := trodAll_cons r1
  obtain ⟨rfl, rfl, rfl⟩ := trodAll_nil r2
  obtain rfl : args = #[v0, v1, v2] := by cases args; simp_all
  obtain ⟨rfl, rfl⟩ := trodVars_none hV
  have k0 := h0
  have lt0 : ∀ x ∈ p0, x.block < W.heap.size := by obtain ⟨m, hm⟩ := k0; exact DataW.trod_lt m _ _ _ hm
  obtain ⟨x0, w0⟩ := openStats (hval 0 31 v0 rfl rfl) h0 (fun elems spare hd0 parts e9 s9 hm hp => sized_cert hsz (by rw [Tryd.params5]; rfl) (by rw [hd0]; rfl) hm hp)
  obtain ⟨a1, rfl, rfl, rfl, w1⟩ := open_int Tryd.underlying3 (hval 1 3 v1 rfl rfl) h1
  obtain ⟨a2, rfl, rfl, rfl, w2⟩ := open_int Tryd.underlying29 (hval 2 29 v2 rfl rfl) h2
  clear hA0 hval0
  refine (walk v0 x0 a1 a2 W w0 w1 w2).mono fun e W' ⟨he, bel⟩ => ?_
  subst he
  exact ⟨_, rfl, _, _, _, [], _, [], hW', trodAll_mk1 (shut_bool Tryd.underlying4 _), (trodAll_cons_mk (Below.trod laidOut (by kernel_rfl) (of_decide_eq_true (by kernel_rfl)) k0 bel lt0) (trodAll_cons_mk (shut_int Tryd.underlying3 w1) (trodAll_cons_mk (shut_int Tryd.underlying29 w2) trodAll_mk0))), rfl, bel.frame _, fun h => by cases h⟩

theorem over : Rows.ballotHighestRow.holds Tryd.pinned (OpenSpec.ofChange Rows.ballotHighestSpec) :=
  OpenClaim.holds_of_wide 5 Tryd.f5 rfl rfl rfl rfl rfl rfl rfl ⟨rfl, rfl, rfl, rfl, rfl⟩ rfl rfl rfl rfl rfl (by kernel_rfl) Tryd.func5 (by kernel_rfl)
    (of_decide_eq_true (by kernel_rfl)) (by unfold Func.isWrapper; first | (rw [if_pos (by decide +kernel)]; kernel_rfl) | (rw [if_neg (by decide +kernel)]; exact ⟨rfl, rfl⟩))
    (fun os started H enc _ => lifted os started H enc)

/-- the statement: the card -/
theorem proved : Rows.BallotHighestCardSaid :=
  Claim7.holds_tied_plain_at .later [] [.data, .data, .data] true (true, "b20c2e075f4e133df883394281e1f614952e38fb2d3e53e161d2ba6f9371aac9") false over (fun _ h => by cases h) (by kernel_rfl) (fun _ h => by cases h) ballotHighest_row_tie rfl ⟨rfl, rfl⟩ (by kernel_rfl) rfl
    (fun f fn hf hfn => by
      obtain rfl : f = 5 := Option.some.inj ((show Tryd.prog.funcNamed "sederunt/sederuntlaw36.BallotHighest" = some 5 by kernel_rfl).symm.trans hf) |>.symm
      obtain rfl : fn = Tryd.f5 := (Option.some.inj (Tryd.func5.symm.trans hfn)).symm
      refine ⟨by kernel_rfl, fun j t ht => ?_⟩
      rw [Tryd.params5] at ht
      rcases j with _ | j
      · obtain rfl : t = 31 := by simpa using ht.symm
        exact (show Tryd.prog.wantsStandIn 31 = false by kernel_rfl)
      rcases j with _ | j
      · obtain rfl : t = 3 := by simpa using ht.symm
        exact (show Tryd.prog.wantsStandIn 3 = false by kernel_rfl)
      rcases j with _ | j
      · obtain rfl : t = 29 := by simpa using ht.symm
        exact (show Tryd.prog.wantsStandIn 29 = false by kernel_rfl)
      simp at ht
      )
    (by kernel_rfl)
#print axioms proved
end Go.Proofs.YtnhbgjgfneoajaaDoor.ballotHighest
