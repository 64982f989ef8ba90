/-
  laws.FnExactConfigMembers returns true for every input, on every schedule; the two package variables that its row lists hold what the program's text lays (tied). Conditions: none.
  The frame follows the frames of proof-skeleton.mjs and the kit's worked tied cards; the walk is FnExactConfigMembers_g.
-/
import Derived.Test.YtnifgfnhcjhodaaDoorRows
import Derived.Test.YtnifgfnhcjhodaaDoorCards
import Derived.Test.YtnifgfnhcjhodaaDoorTie
import Derived.WalkKit
import Derived.Conc.LeavingOf
import Derived.LaidMore
import Derived.Stop.Joined
import Derived.Stop.LaidErr
import Derived.Stop.LaidTwo
import Derived.Lib.SmallJoins
import Derived.SevenTiedAt
import Derived.OpenVars
import Derived.ProofKit
import Derived.OpenShut
import Derived.ShutString
import Derived.ChangeOld
import Derived.Below
import Derived.Test.YtnifgfnhcjhodaaDoorKExactConfigMembers
import Derived.Test.YtnifgfnhcjhodaaDoorA1
namespace Go.Proofs.YtnifgfnhcjhodaaDoor.fnExactConfigMembers
open Go.Proofs.YtnifgfnhcjhodaaDoor Go.ChangeShapes Go.WideShapes Go.ChangeAt Go.RowKit
open Go.ChangeMaps (open_string shut_string)
set_option linter.unusedVariables false

theorem own : ownKnob Tryd.prog.godebug = none := by kernel_rfl
theorem laidOut : laidOutB Tryd.prog = true := by kernel_rfl

/-- From one good run at every start to the row's contract, with one more condition on the world. -/
theorem leaving_and {H : Type} {enc : TypeId × Value → H} {a : Assume} {C : Checked} {os : Os} {f : FuncId} {fn : Func} {s : ChangeSpec} {conds : List PathCond} {apart fresh handsOn again : Bool} {X : World → Array Value → Prop}
    (hX : ∀ (w w' : World) (args : Array Value), w.heap = w'.heap → X w args → X w' args)
    (own : ownKnob C.prog.godebug = none) (started : os.Started) (hfn : C.prog.funcs[f]? = some fn)
    (witness : ∃ (w : World) (tape : Tape) (i : Input), w.os = os ∧ (w.forCall tape i).Shaped C.prog ∧ i.vars = [] ∧ Input.okWide C.prog (w.forCall tape i) .any w.heap.size f i ∧
      ((s.pre enc C.prog fn conds apart (w.forCall tape i).memory i.args ∧ X (w.forCall tape i).memory i.args) ∧ sizedMet enc C.prog fn (OpenSpec.ofChange s) apart (w.forCall tape i).memory i.args) ∧ a.holds C.prog (lone (Frame.enter C.prog f i.args .normal) [] (w.forCall tape i)))
    (runs : ∀ (W : World) (base : Nat) (args : Array Value) (ds gs : List (DataW H)) (before : List MemPlace),
      (∀ (j : Nat) t v, fn.params[j]? = some t → args[j]? = some v → Value.okWide C.prog W .any base t v) →
      DataW.Whole enc C.prog fn.params.toList s.vars apart W args.toList ds gs before → X W args →
      ∃ M last o w' t', runNT C.prog (M + 1) (Go.Conc.solo (Go.Conc.G (Frame.enter C.prog f args .normal) []) W) #[] = (.ended o w', t') ∧ runN C.prog M (Go.Conc.solo (Go.Conc.G (Frame.enter C.prog f args .normal) []) W) = .next last ∧
        step C.prog last = .ended o w' ∧ Go.Conc.Good C.prog (fun v W' => s.post enc C.prog fn apart fresh handsOn again W args v W') last o w' t') :
    ReturnsInLeavingWide a C os f .any (fun w args => (s.pre enc C.prog fn conds apart w args ∧ X w args) ∧ sizedMet enc C.prog fn (OpenSpec.ofChange s) apart w args) (s.post enc C.prog fn apart fresh handsOn again) := by
  refine returnsInLeavingWide_of_good own started witness ?_
  intro w tape i _ _ _ hok hpre hholds
  obtain ⟨_, _, _, fn', hfn', _, _, _, _, hval⟩ := hok
  have e : fn' = fn := Option.some.inj (hfn'.symm.trans hfn)
  subst e
  obtain ⟨⟨⟨ds, gs, before, hw, hc⟩, hx⟩, hz⟩ := hpre
  have hw' := DataW.Whole.of_heap (w' := w.forCall tape i) (by rfl) hw
  obtain ⟨M, last, o, w', t', h1, h2, h3, h4⟩ := runs (w.forCall tape i) w.heap.size i.args ds gs before hval hw' (hX _ _ _ (by rfl) hx)
  exact ⟨M, last, o, w', t', h1, h2, h3, h4.mono fun v hp => ChangeSpec.post_blind hp⟩

/-- A tied card of a function that starts goroutines. -/
theorem tied_goes (Lk : Looks) {p : Pinned} {s : OpenSpec} {c : OpenClaim} (kinds : List LaidKind) (tests : Bool) (har : Bool × String) (lk : Bool)
    (hc : c.holds p s) (hw : c.wfByText s = true) (htie : c.laidByTextAt Lk p kinds tests)
    (hst : c.start = .entering) (hnb : c.noBlocks = false ∧ c.again = false) (hm : p.checked.prog.mainIs = some (har.1, har.2.toList)) (hn : (!har.1 && har.2.isEmpty && !lk) = false)
    (hl : ∀ f fn, p.checked.prog.funcNamed c.func = some f → p.checked.prog.funcs[f]? = some fn → lk = p.checked.prog.looks [] ∧ ∀ (j : Nat) t, fn.params[j]? = some t → p.checked.prog.wantsStandIn t = false)
    (hg : true = c.goesBy p.checked.prog) :
    Claim7.holds p (.plain s) { stood := { row := c, standIns := [], harness := har, looks := lk }, kinds := [], alts := [], laidByText := true, laidKinds := kinds, laidTests := tests, laidLooks := Lk, goes := true } := by
  have h6 : Claim7.isSixth { stood := { row := c, standIns := [], harness := har, looks := lk }, kinds := [] } = false := by simpa [Claim7.isSixth] using hn
  exact ⟨Claim7.tied_new_at Lk kinds tests (Claim7.new_of_sixth hc har lk hst hnb hm h6 hl) hw, (fun _ h => by cases h), htie, (fun h => by cases h), hg⟩

theorem gI : Tryd.prog.globalNamed "loop.example/flexquorum/impl.errIncomplete" = some 0 := by kernel_rfl
theorem gU : Tryd.prog.globalNamed "loop.example/flexquorum/impl.errUnsafe" = some 1 := by kernel_rfl
theorem gIType : (Tryd.prog.globals[0]?).map (·.type) = some 43 := by kernel_rfl
theorem gUType : (Tryd.prog.globals[1]?).map (·.type) = some 43 := by kernel_rfl
theorem cellsE : Tryd.prog.cellsOf 151 = 1 := by kernel_rfl
theorem cellsS : Tryd.prog.cellsOf 9 = 1 := by kernel_rfl
theorem star : "*" ++ "errors.errorString" = "*errors.errorString" := by decide
theorem rowE (u : TypeId) (h : Tryd.prog.typeName? 3 u = some "*errors.errorString") : u = 124 :=
  typeName_ptr_named (nm := "errors.errorString") (by rw [star]; kernel_rfl) (by kernel_rfl) (by decide) u (by rw [star]; exact h)
theorem cells_ne {W : World} {a : Addr} {v : Value} {c : Array Value} {t : TypeId} (hc : W.cell? a = some v) (hb : W.heap[a.block]? = some (.cells c t (0, 0))) : c ≠ #[] := by
  rintro rfl
  obtain ⟨b, off, sp⟩ := a
  cases sp <;> simp [World.cell?, hb] at hc

theorem walk {a : Option Addr} {n c : Nat} {f : List (List Int)} {b : Option Addr} {m d : Nat} {g : List (List Int)} {a0 a1 : Addr} (w : World) (w0 : FamV w a n c f) (w1 : FamV w b m d g) (E : Errs w a0 a1) :
    ∃ M last o w' t', runNT Tryd.prog (M + 1) (Go.Conc.solo (Go.Conc.G (Frame.enter Tryd.prog 3 #[.agg #[.slice a n c, .slice b m d]] .normal) []) w) #[] = (.ended o w', t') ∧ runN Tryd.prog M (Go.Conc.solo (Go.Conc.G (Frame.enter Tryd.prog 3 #[.agg #[.slice a n c, .slice b m d]] .normal) []) w) = .next last ∧ step Tryd.prog last = .ended o w' ∧
      Go.Conc.Good Tryd.prog (fun v w' => v = .bool true ∧ Below w.heap.size w (World.re w' w.tape 0)) last o w' t' := by
  exact law_run (by kernel_rfl) (FnExactConfigMembers_g w0.1 w1.1 E)

/-- The heap that the door's own run leaves meets the condition. -/
theorem door_met (os : Os) (args : Array Value) : laidMetH Tryd.prog Rows.fnExactConfigMembersRow.laid ((World.doorLaid Tryd.prog 47 os).forCall (fun _ _ => 0) ⟨#[], args, []⟩).memory :=
  laidMetH_of_parts3 (fuel := 8) (laidMet_of_run' 8 (by kernel_rfl) (by kernel_rfl)) (by kernel_rfl) (by kernel_rfl)
set_option maxRecDepth 100000 in
theorem lifted (os : Os) (started : os.Started) (H : Type) (enc : TypeId × Value → H) :
    ReturnsInLeavingWide {} Tryd.checked os 3 .any (fun w args => (Rows.fnExactConfigMembersSpec.pre enc Tryd.prog Tryd.f3 [] false w args ∧ laidMetH Tryd.prog Rows.fnExactConfigMembersRow.laid w) ∧ sizedMet enc Tryd.prog Tryd.f3 (OpenSpec.ofChange Rows.fnExactConfigMembersSpec) false w args)
      (Rows.fnExactConfigMembersSpec.post enc Tryd.prog Tryd.f3 false true false false) := by
  refine leaving_and (C := Tryd.checked) (X := fun w _ => laidMetH Tryd.prog Rows.fnExactConfigMembersRow.laid w) (fun _ _ _ hh h => h.of_heap hh) own started Tryd.func3
    (ChangeSpec.witness_shaped (enc := enc) (C := Tryd.checked) (os := os) (X := fun w _ => laidMetH Tryd.prog Rows.fnExactConfigMembersRow.laid w) false (World.doorLaid Tryd.prog 47 os) #[.agg #[.slice none 0 0, .slice none 0 0]] 8 rfl (World.shaped_of_RefB (by kernel_rfl) (by kernel_rfl)) (by kernel_rfl) (by kernel_rfl) (by kernel_rfl) (door_met os _)) ?_
  intro W base args ds gs before hval0 hW hL
  have hval : ∀ (j : Nat) t v, Tryd.f3.params[j]? = some t → args[j]? = some v → Value.okWide Tryd.prog W .any base t v := hval0
  have hW' := hW
  obtain ⟨p, q, hA0, hV0, rfl, hfz, hnd⟩ := hW
  have hA : DataW.TrodAll enc Tryd.prog W 0 (fun _ => true) true Tryd.f3.params.toList args.toList ds p := hA0
  have hV : DataW.TrodVars enc Tryd.prog W (fun _ => true) ["loop.example/flexquorum/impl.errIncomplete", "loop.example/flexquorum/impl.errUnsafe"] gs q := hV0
  rw [Tryd.params3] at hA hval
  obtain ⟨v0, vs0, d0, ds0, p0, q0, hargs, rfl, rfl, h0, r0⟩ := trodAll_cons hA
  obtain ⟨rfl, rfl, rfl⟩ := trodAll_nil r0
  obtain rfl : args = #[v0] := by cases args; simp_all
  have k0 := h0
  have lt0 : ∀ x ∈ p0, x.block < W.heap.size := by obtain ⟨m, hm⟩ := k0; exact DataW.trod_lt m _ _ _ hm
  obtain ⟨c0, c1, y0, y1, nn, rfl, rfl, rfl, t0, t1⟩ := Go.Joins.open_agg2 Tryd.underlying24 (by kernel_rfl) (by kernel_rfl) (hval 0 24 v0 rfl rfl) h0
  obtain ⟨b0, l0, e0, hs0⟩ := Go.Joins.slice_form Tryd.underlying22 t0
  obtain ⟨b1, l1, e1, hs1⟩ := Go.Joins.slice_form Tryd.underlying22 t1
  obtain rfl : c0 = .slice b0 l0 e0 := by simpa using hs0
  obtain rfl : c1 = .slice b1 l1 e1 := by simpa using hs1
  obtain ⟨f0, w0⟩ := famV_of (⟨nn, t0⟩ : DataW.Trod enc Tryd.prog W 0 (fun _ => true) true 22 (.slice b0 l0 e0) y0.1 y0.2)
  obtain ⟨f1, w1⟩ := famV_of (⟨nn, t1⟩ : DataW.Trod enc Tryd.prog W 0 (fun _ => true) true 22 (.slice b1 l1 e1) y1.1 y1.2)
  have hL' : laidMet Tryd.prog [("loop.example/flexquorum/impl.errIncomplete", Rows.laid_loop_example_flexquorum_impl_errIncomplete), ("loop.example/flexquorum/impl.errUnsafe", Rows.laid_loop_example_flexquorum_impl_errUnsafe)] W := hL
  obtain ⟨a0, a1, s0, s1, cc0, cc1, u0, u1, hv0, hv1, hc0, hs0, hz0, hc1, hs1, hz1, hne, hb0, hb1⟩ := laid_sentinels2 hL' gI gIType gU gUType Tryd.underlying43 rowE Tryd.underlying124 Tryd.underlying151 rfl rfl Tryd.underlying9 cellsE cellsS
  have vr : ∀ {X : World}, X.var? Tryd.prog "loop.example/flexquorum/impl.errIncomplete" = some #[.iface 124 (.pointer (some a0))] → X.var? Tryd.prog "loop.example/flexquorum/impl.errUnsafe" = some #[.iface 124 (.pointer (some a1))] → ∀ sp : Nat → Bool,
      DataW.TrodVars enc Tryd.prog X sp ["loop.example/flexquorum/impl.errIncomplete", "loop.example/flexquorum/impl.errUnsafe"] [tok enc (.iface 124 (.pointer (some a0))), tok enc (.iface 124 (.pointer (some a1)))] [.cell 0 0, .cell 1 0] :=
    fun x0 x1 sp => vars_read2 enc gI gIType Tryd.underlying43 x0 trivial gU gUType Tryd.underlying43 x1 trivial sp
  obtain ⟨rfl, rfl⟩ := hV.unique (vr hv0 hv1 _)
  have E : Errs W a0 a1 := ⟨by simpa using World.var?_cell gI hv0 0, by simpa using World.var?_cell gU hv1 0, fun e => hne e.symm, ⟨cc0, u0, hb0, cells_ne hc0 hb0⟩, ⟨cc1, u1, hb1, cells_ne hc1 hb1⟩⟩
  clear hA0 hV0 hval0
  have hlt0 : 0 < W.heap.size := World.block_lt_of_cell? W _ E.g0
  have hlt1 : 1 < W.heap.size := World.block_lt_of_cell? W _ E.g1
  obtain ⟨M, last, o, W', t', r1, r2, r3, r4⟩ := walk W w0 w1 E
  refine ⟨M, last, o, W', t', r1, r2, r3, r4.mono fun v hF => post_re (T := W.tape) (d := 0) ?_⟩
  obtain ⟨rfl, bel⟩ := hF
  exact ⟨_, _, _, [], _, [.cell 0 0, .cell 1 0], hW', trodAll_mk1 (shut_bool Tryd.underlying4 _), trodAll_cons_mk (Below.trod laidOut (by kernel_rfl) (of_decide_eq_true (by kernel_rfl)) k0 bel lt0) trodAll_mk0, vr (var?_below bel gI hlt0 hv0) (var?_below bel gU hlt1 hv1) _, bel.frame _, fun h => by cases h⟩

theorem over : Rows.fnExactConfigMembersRow.holds Tryd.pinned (OpenSpec.ofChange Rows.fnExactConfigMembersSpec) :=
  OpenClaim.holds_of_wide_leaving 3 Tryd.f3 rfl rfl rfl rfl rfl rfl rfl ⟨rfl, rfl, rfl, rfl, rfl⟩ rfl rfl rfl rfl rfl (by kernel_rfl) Tryd.func3 (by kernel_rfl)
    (of_decide_eq_true (by kernel_rfl)) (by unfold Func.isWrapper; first | (rw [if_pos (by decide +kernel)]; kernel_rfl) | (rw [if_neg (by decide +kernel)]; exact ⟨rfl, rfl⟩))
    (fun os started H enc _ => lifted os started H enc)

/-- THE STATEMENT: the tied card -/
theorem proved : Rows.FnExactConfigMembersCardSaid :=
  tied_goes .later [.sentinel, .sentinel] true (true, "ec7b9f521f3b77ab68735995fea3d3dfdedf7cc73f3f7a3509a31770fa717f6f") true
    over (by kernel_rfl) fnExactConfigMembers_row_tie rfl ⟨rfl, rfl⟩ (by kernel_rfl) rfl
    (fun f fn hf hfn => by
      obtain rfl : f = 3 := Option.some.inj ((show Tryd.prog.funcNamed "loop.example/flexquorum/laws.FnExactConfigMembers" = some 3 by kernel_rfl).symm.trans hf) |>.symm
      obtain rfl : fn = Tryd.f3 := (Option.some.inj (Tryd.func3.symm.trans hfn)).symm
      exact ⟨by kernel_rfl, fun j t ht => by
        rw [Tryd.params3] at ht
        have hm : t ∈ [24] := by simpa using Array.mem_of_getElem? ht
        have hall : ([24].all fun u => !Tryd.prog.wantsStandIn u) = true := by kernel_rfl
        exact (show Tryd.prog.wantsStandIn t = false by simpa using List.all_eq_true.1 hall t hm)⟩)
    (by kernel_rfl)
#print axioms proved
end Go.Proofs.YtnifgfnhcjhodaaDoor.fnExactConfigMembers
