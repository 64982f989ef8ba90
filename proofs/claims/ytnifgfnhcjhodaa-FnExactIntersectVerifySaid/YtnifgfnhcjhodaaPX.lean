/- XPX: several texts in one. Conditions: each lemma's own. -/
import Derived.Test.YtnifgfnhcjhodaaPV

namespace Go.Proofs.Ytnifgfnhcjhodaa
set_option linter.unusedVariables false
set_option linter.unusedSimpArgs false
section
open Go.Conc Go.ConcN Go.RowKit Go.Conc.Lib Go.ConcR.Gen Go.ConcN.Gen
open Go.ConcR (KK wgBlock WgAt stA smA rd wr mk Payload DC0)
theorem evO_said {Y : Lay} {X : Nat → Prop} {o : List Nat} {B : Nat} (mk : Addr → Mark) (hm : ∀ a, (MemAct.ofEvent ⟨.mark (mk a), false, true⟩).touch? = some ⟨.cell a, (MemAct.ofEvent ⟨.mark (mk a), false, true⟩).touch?.elim false (·.write), .said⟩) (h1 : ∀ a, mk a ≠ .disable) (h2 : ∀ a, mk a ≠ .enable) (h3 : ∀ a b, mk a ≠ .release b) (a : Addr) (h : a.block = Y.Wg) :
    EvO Y X none o B ⟨.mark (mk a), false, true⟩ := by
  refine ⟨fun x hx => ?_, fun e => h1 a (by simpa using e), fun e => h2 a (by simpa using e), fun e => h3 a _ (by simpa using e)⟩
  rw [hm] at hx
  cases hx
  exact ⟨a, rfl, .inr (.inr ⟨rfl, rfl, h⟩)⟩
variable [Payload] {L : WgLink}

section
variable {P : Program} {main : Bool} {ty : TypeId} {Y : Lay} {X : Nat → Prop} {ci : Option Nat} {o : List Nat}
theorem dc0_do {w w' : World} {es : Array Event} (h : DC0 w w' es) : DO Y ci o o w w' ∧ ∀ e ∈ es, EvO Y X ci o w'.heap.size e := by
  obtain ⟨rfl, rfl⟩ := h
  exact ⟨.idle _, by simp⟩
/-- Idle steps, then a walk. -/
theorem GoesO.seq {S : Goroutine → World → Prop} {Stop : List Nat → Goroutine → World → Prop} {m : Nat} (hS : ∀ g w, S g w → GoesO P main ty Y X ci Stop m o g w) :
    ∀ {n : Nat} {g : Goroutine} {w : World}, Goes P main (RO ty Y ci o) DC0 S n g w → GoesO P main ty Y X ci Stop (n + m) o g w
  | 0, g, w, h => by rw [Nat.zero_add]; exact hS _ _ (h w (.refl w))
  | n + 1, g, w, h => by
    rcases h with h | ⟨hs, h⟩
    · exact (hS _ _ (h w (.refl w))).mono (by omega)
    · rw [show n + 1 + m = n + m + 1 by omega]
      refine .step hs fun w₁ h₁ => ?_
      have := h w₁ h₁
      revert this
      cases stepG P main g w₁ <;> simp only [GStep.goes, imp_self]
      exact fun ⟨d, x⟩ => ⟨o, dc0_do d, GoesO.seq hS x⟩
theorem GoesO.of0 {Stop : List Nat → Goroutine → World → Prop} {n : Nat} {g : Goroutine} {w : World} (h : Goes P main (RO ty Y ci o) DC0 (Stop o) n g w) : GoesO P main ty Y X ci Stop n o g w :=
  GoesO.of_goes (fun _ _ h => h) (fun _ _ _ h => dc0_do h) (fun _ _ h => h) h
theorem fo_rely {F : World → Prop} (hF1 : ∀ a b, RO ty Y none o a b → F a → F b) {w w₁ : World} (h : F w ∧ WgLive ty Y.Wg w) (r : RO ty Y none o w w₁) : F w₁ ∧ WgLive ty Y.Wg w₁ := ⟨hF1 _ _ r h.1, r.live h.2⟩
end

section
variable {Y : Lay} {X : Nat → Prop} {o : List Nat} {F : World → Prop} {Fin : Nat → List Nat → World → Prop} {Anc : Goroutine → World → Prop} {j : Nat} {Next : List Nat → Goroutine → World → Prop}
  {b₀ : Frame} {a₀ : Act} {ops₀ : Array Oper} {i₀ : Nat} {rest₀ : List Nat} {k₀ : List Item} {cs : List Frame} {mT : Nat}
abbrev Phl (P : Program) (L : WgLink) (Y : Lay) (X : Nat → Prop) (Fin : Nat → List Nat → World → Prop) (Anc : Goroutine → World → Prop) : Ph := ⟨P, L.tWg, Y, X, Fin, Anc, .slice none 0 0⟩

set_option maxRecDepth 100000 in
set_option maxHeartbeats 8000000 in
theorem addPosG {P : Program} (H : WgLib P L) (hF1 : ∀ a b, RO L.tWg Y none o a b → F a → F b) (hF2 : ∀ a b, Aside Y.Wg a b → F a → F b)
    (hT : ∀ w, F w → WgLive L.tWg Y.Wg w → GoesO P true L.tWg Y X none ((Phl P L Y X Fin Anc).AtGoS j Next) mT o (G (b₀.at (a₀.put ((ops₀[i₀]?).bind (·.dst)) (.tuple #[])) (.inRegion ops₀ rest₀ :: k₀)) cs) w)
    (w : World) (hF : F w ∧ WgLive L.tWg Y.Wg w) :
    GoesO P true L.tWg Y X none ((Phl P L Y X Fin Anc).AtKdS j Next) 12 o
      (G ((base L.add).at ⟨#[.pointer (some ⟨Y.Wg, 0, none⟩), .int .i64 1, undef, undef, undef, undef, undef, undef, undef, undef, undef, undef, undef, undef, undef, undef, undef, undef, undef, undef, undef, undef, undef, undef, undef, undef, undef, undef, undef, undef, undef, undef, undef, undef, undef, undef, undef, undef, undef, undef, undef, undef, undef, undef, undef, undef, undef, undef, undef, undef, undef, undef, undef, undef, undef, undef, undef, undef, undef, undef, undef, undef, undef, undef, undef, undef, undef, undef, undef, undef, undef, undef, undef, undef, undef, undef, undef, undef, undef, undef, undef, undef, undef, undef, undef, undef, undef, undef, undef, undef, undef, undef, undef, undef, undef, undef, undef, undef, undef, undef, undef, undef, undef, undef, undef, undef, undef, undef, undef, undef, undef, undef, undef, undef, undef, undef, undef], []⟩ [.code (body_add L)]) (b₀.at a₀ (.inRegion ops₀ (i₀ :: rest₀) :: k₀) :: cs)) w := by
  lib_facts
  simp only [body_add, addFn, Option.getD_some]
  refine GoesO.of0 ?_
  iterate 12 (first | u_c stepG_seq (fo_rely hF1) hF | u_c stepG_region_end (fo_rely hF1) hF | u_reg (fo_rely hF1) hF | u_c stepG_skip (fo_rely hF1) hF | u_c stepG_ret' (fo_rely hF1) hF | u_c stepG_block (fo_rely hF1) hF | u_c stepG_loop (fo_rely hF1) hF | u_c stepG_inBlock (fo_rely hF1) hF | u_c stepG_inLoop (fo_rely hF1) hF | u_cond true (fo_rely hF1) hF | u_cond false (fo_rely hF1) hF | u_op (fo_rely hF1) hF | u_skip (fo_rely hF1) hF)
  refine Goes.stop (fun w₁ h₁ => ?_)
  replace hF := fo_rely hF1 hF h₁
  clear h₁
  refine ⟨rfl, _, stepG_mark0 .disable (by simp) rfl rfl (by k_ne) rfl H.f_disable (x_disable_n L) (x_disable_b L) (x_disable_x L) (x_disable_f L), 100, ?_⟩
  walk_nrm
  refine GoesO.of0 ?_
  iterate 2 (first | u_c stepG_seq (fo_rely hF1) hF | u_c stepG_region_end (fo_rely hF1) hF | u_reg (fo_rely hF1) hF | u_c stepG_skip (fo_rely hF1) hF | u_c stepG_ret' (fo_rely hF1) hF | u_c stepG_block (fo_rely hF1) hF | u_c stepG_loop (fo_rely hF1) hF | u_c stepG_inBlock (fo_rely hF1) hF | u_c stepG_inLoop (fo_rely hF1) hF | u_cond true (fo_rely hF1) hF | u_cond false (fo_rely hF1) hF | u_op (fo_rely hF1) hF | u_skip (fo_rely hF1) hF)
  u_defer (fo_rely hF1) hF
  iterate 8 (first | u_c stepG_seq (fo_rely hF1) hF | u_c stepG_region_end (fo_rely hF1) hF | u_reg (fo_rely hF1) hF | u_c stepG_skip (fo_rely hF1) hF | u_c stepG_ret' (fo_rely hF1) hF | u_c stepG_block (fo_rely hF1) hF | u_c stepG_loop (fo_rely hF1) hF | u_c stepG_inBlock (fo_rely hF1) hF | u_c stepG_inLoop (fo_rely hF1) hF | u_cond true (fo_rely hF1) hF | u_cond false (fo_rely hF1) hF | u_op (fo_rely hF1) hF | u_skip (fo_rely hF1) hF)
  u_bub (fo_rely hF1) hF
  iterate 11 (first | u_c stepG_seq (fo_rely hF1) hF | u_c stepG_region_end (fo_rely hF1) hF | u_reg (fo_rely hF1) hF | u_c stepG_skip (fo_rely hF1) hF | u_c stepG_ret' (fo_rely hF1) hF | u_c stepG_block (fo_rely hF1) hF | u_c stepG_loop (fo_rely hF1) hF | u_c stepG_inBlock (fo_rely hF1) hF | u_c stepG_inLoop (fo_rely hF1) hF | u_cond true (fo_rely hF1) hF | u_cond false (fo_rely hF1) hF | u_op (fo_rely hF1) hF | u_skip (fo_rely hF1) hF)
  u_call H.f_uAdd (nm_uAdd L) uAddFn (fo_rely hF1) hF
  iterate 10 (first | u_c stepG_seq (fo_rely hF1) hF | u_c stepG_region_end (fo_rely hF1) hF | u_reg (fo_rely hF1) hF | u_c stepG_skip (fo_rely hF1) hF | u_c stepG_ret' (fo_rely hF1) hF | u_c stepG_block (fo_rely hF1) hF | u_c stepG_loop (fo_rely hF1) hF | u_c stepG_inBlock (fo_rely hF1) hF | u_c stepG_inLoop (fo_rely hF1) hF | u_cond true (fo_rely hF1) hF | u_cond false (fo_rely hF1) hF | u_op (fo_rely hF1) hF | u_skip (fo_rely hF1) hF)
  refine Goes.stop (fun w₂ h₂ => ?_)
  replace hF := fo_rely hF1 hF h₂
  clear h₂
  refine ⟨rfl, fun v hv hw => ?_⟩
  rcases Nat.eq_zero_or_pos v with rfl | hvp
  · -- the count is now 1
    replace hw : WgAt L.tWg Y.Wg w₂ 0 0 := by simpa using hw
    have z : (((0 : Nat) : Int) + 1) * KK = KK := by simp
    have e0 : IntKind.u64.wrap (0 + 4294967296) = KK := by decide
    rw [z]
    refine ⟨_, (stepG_add_atomic rfl rfl (by k_ne) rfl H.f_addU64 (x_addU64_n L) (x_addU64_b L) (x_addU64_x L) .u64 (x_addU64_f L) rfl rfl hw.cellSt (hw.thaw 0)).trans (by rw [e0]; rfl), 100 + (100 + 1), ?_⟩
    replace hF : F (w₂.setCell (stA Y.Wg) (.int .u64 KK)) ∧ WgLive L.tWg Y.Wg (w₂.setCell (stA Y.Wg) (.int .u64 KK)) := ⟨hF2 _ _ (aside_setCell w₂ (stA Y.Wg) _) hF.1, ⟨_, _, hw.setSt _⟩⟩
    clear hw
    simp only [KK] at hF ⊢
    walk_nrm
    refine GoesO.seq (S := fun g w => GoesO P true L.tWg Y X none ((Phl P L Y X Fin Anc).AtKeS j Next) (100 + 1) o g w) (fun _ _ h => h) ?_
    iterate 3 (first | u_c stepG_seq (fo_rely hF1) hF | u_c stepG_region_end (fo_rely hF1) hF | u_reg (fo_rely hF1) hF | u_c stepG_skip (fo_rely hF1) hF | u_c stepG_ret' (fo_rely hF1) hF | u_c stepG_block (fo_rely hF1) hF | u_c stepG_loop (fo_rely hF1) hF | u_c stepG_inBlock (fo_rely hF1) hF | u_c stepG_inLoop (fo_rely hF1) hF | u_cond true (fo_rely hF1) hF | u_cond false (fo_rely hF1) hF | u_op (fo_rely hF1) hF | u_skip (fo_rely hF1) hF)
    u_leave1 H.f_uAdd (fo_rely hF1) hF
    iterate 48 (first | u_c stepG_seq (fo_rely hF1) hF | u_c stepG_region_end (fo_rely hF1) hF | u_reg (fo_rely hF1) hF | u_c stepG_skip (fo_rely hF1) hF | u_c stepG_ret' (fo_rely hF1) hF | u_c stepG_block (fo_rely hF1) hF | u_c stepG_loop (fo_rely hF1) hF | u_c stepG_inBlock (fo_rely hF1) hF | u_c stepG_inLoop (fo_rely hF1) hF | u_cond true (fo_rely hF1) hF | u_cond false (fo_rely hF1) hF | u_op (fo_rely hF1) hF | u_skip (fo_rely hF1) hF)
    u_conv H.underlying_tPU32 H.room_tU32 (WgLive.cell1 hF.2).choose_spec (fo_rely hF1) hF
    -- the library says: a read of the semaphore
    refine Goes.stop (fun w₃ h₃ => ?_)
    replace hF := fo_rely hF1 hF h₃
    clear h₃
    refine GoesO.step rfl fun w₄ h₄ => ?_
    replace hF := fo_rely hF1 hF h₄
    clear h₄
    rw [stepG_markAt .read (by simp) rfl rfl (by k_ne) rfl H.f_raceRead (x_raceRead_n L) (x_raceRead_b L) (x_raceRead_x L) (x_raceRead_f L) (ad := ⟨Y.Wg, 1, none⟩) (by simp [Act.eval])]
    simp only [goes_go]
    refine ⟨o, ⟨.idle _, fun e he => ?_⟩, ?_⟩
    · rw [Array.mem_singleton] at he
      subst he
      exact evO_said .read (fun _ => rfl) (by simp) (by simp) (by simp) _ rfl
    walk_nrm
    refine GoesO.of0 ?_
    iterate 39 (first | u_c stepG_seq (fo_rely hF1) hF | u_c stepG_region_end (fo_rely hF1) hF | u_reg (fo_rely hF1) hF | u_c stepG_skip (fo_rely hF1) hF | u_c stepG_ret' (fo_rely hF1) hF | u_c stepG_block (fo_rely hF1) hF | u_c stepG_loop (fo_rely hF1) hF | u_c stepG_inBlock (fo_rely hF1) hF | u_c stepG_inLoop (fo_rely hF1) hF | u_cond true (fo_rely hF1) hF | u_cond false (fo_rely hF1) hF | u_op (fo_rely hF1) hF | u_skip (fo_rely hF1) hF)
    refine Goes.stop (fun w₃ h₃ => ?_)
    replace hF := fo_rely hF1 hF h₃
    clear h₃
    refine ⟨rfl, _, stepG_unwind_entry (v := .tuple #[]) (evs := #[mk .enable]) rfl H.f_enable (x_enable_n L) (x_enable_b L) (x_enable_x L) (x_enable_f L) (by simp [Extern.Race.none_]) (by simp [mk]) (by simp [mk]), 1 + mT, ?_⟩
    refine GoesO.seq (S := fun g w => GoesO P true L.tWg Y X none ((Phl P L Y X Fin Anc).AtGoS j Next) mT o g w) (fun _ _ h => h) ?_
    u_leave0 H.f_add (fo_rely hF1) hF
    exact Goes.stop (fun w₅ h₅ => (hT _ (fo_rely hF1 hF h₅).1 (fo_rely hF1 hF h₅).2))
  · -- it is more
    obtain ⟨V, hV⟩ : ∃ V : Int, V = (v : Int) + 1 := ⟨_, rfl⟩
    obtain ⟨S, hS⟩ : ∃ S : Int, S = V * KK := ⟨_, rfl⟩
    have eS : IntKind.u64.wrap ((v : Int) * KK + 4294967296) = S := by rw [IntKind.wrap_u64, hS, hV]; simp only [KK]; omega
    rw [← hV, ← hS]
    have a1 : S / 4294967296 = V := by rw [hS]; simp only [KK]; omega
    have b1 : bits .and .u64 S 2147483648 = 0 := by rw [hS, hV]; have := st_flag (v + 1) 0 (by omega) (by omega); simpa [KK] using this
    have b2 : bits .and .u64 S 2147483647 = 0 := by rw [hS, hV]; have := st_waiters (v + 1) 0 (by omega) (by omega); simpa [KK] using this
    have c1 : IntKind.i32.wrap V = V := by rw [IntKind.wrap_i32]; omega
    have hV1 : 1 < V := by omega
    have hV2 : V < 2147483648 := by omega
    have q1 : (V == 1) = false := by simp; omega
    have q2 : decide (V = 1) = false := decide_eq_false (by omega)
    have q3 : decide (V < 0) = false := decide_eq_false (by omega)
    have q4 : decide (0 < V) = true := decide_eq_true (by omega)
    have q5 : (V == 0) = false := by simp; omega
    have q6 : decide (V = 0) = false := decide_eq_false (by omega)
    refine ⟨_, (stepG_add_atomic rfl rfl (by k_ne) rfl H.f_addU64 (x_addU64_n L) (x_addU64_b L) (x_addU64_x L) .u64 (x_addU64_f L) rfl rfl hw.cellSt (hw.thaw 0)).trans (by rw [eS]; rfl), 200, ?_⟩
    replace hF : F (w₂.setCell (stA Y.Wg) (.int .u64 S)) ∧ WgLive L.tWg Y.Wg (w₂.setCell (stA Y.Wg) (.int .u64 S)) := ⟨hF2 _ _ (aside_setCell w₂ (stA Y.Wg) _) hF.1, ⟨_, _, hw.setSt _⟩⟩
    clear hw hS hV eS
    walk_nrm
    refine GoesO.of0 ?_
    iterate 3 (first | u_c stepG_seq (fo_rely hF1) hF | u_c stepG_region_end (fo_rely hF1) hF | u_reg (fo_rely hF1) hF | u_c stepG_skip (fo_rely hF1) hF | u_c stepG_ret' (fo_rely hF1) hF | u_c stepG_block (fo_rely hF1) hF | u_c stepG_loop (fo_rely hF1) hF | u_c stepG_inBlock (fo_rely hF1) hF | u_c stepG_inLoop (fo_rely hF1) hF | u_cond true (fo_rely hF1) hF | u_cond false (fo_rely hF1) hF | u_op (fo_rely hF1) hF | u_skip (fo_rely hF1) hF)
    u_leave1 H.f_uAdd (fo_rely hF1) hF
    iterate 13 (first | u_c stepG_seq (fo_rely hF1) hF | u_c stepG_region_end (fo_rely hF1) hF | u_reg (fo_rely hF1) hF | u_c stepG_skip (fo_rely hF1) hF | u_c stepG_ret' (fo_rely hF1) hF | u_c stepG_block (fo_rely hF1) hF | u_c stepG_loop (fo_rely hF1) hF | u_c stepG_inBlock (fo_rely hF1) hF | u_c stepG_inLoop (fo_rely hF1) hF | u_cond true (fo_rely hF1) hF | u_cond false (fo_rely hF1) hF | u_op (fo_rely hF1) hF | u_skip (fo_rely hF1) hF)
    u_cnd false (fo_rely hF1) hF
    iterate 29 (first | u_c stepG_seq (fo_rely hF1) hF | u_c stepG_region_end (fo_rely hF1) hF | u_reg (fo_rely hF1) hF | u_c stepG_skip (fo_rely hF1) hF | u_c stepG_ret' (fo_rely hF1) hF | u_c stepG_block (fo_rely hF1) hF | u_c stepG_loop (fo_rely hF1) hF | u_c stepG_inBlock (fo_rely hF1) hF | u_c stepG_inLoop (fo_rely hF1) hF | u_cond true (fo_rely hF1) hF | u_cond false (fo_rely hF1) hF | u_op (fo_rely hF1) hF | u_skip (fo_rely hF1) hF)
    u_cnd false (fo_rely hF1) hF
    iterate 7 (first | u_c stepG_seq (fo_rely hF1) hF | u_c stepG_region_end (fo_rely hF1) hF | u_reg (fo_rely hF1) hF | u_c stepG_skip (fo_rely hF1) hF | u_c stepG_ret' (fo_rely hF1) hF | u_c stepG_block (fo_rely hF1) hF | u_c stepG_loop (fo_rely hF1) hF | u_c stepG_inBlock (fo_rely hF1) hF | u_c stepG_inLoop (fo_rely hF1) hF | u_cond true (fo_rely hF1) hF | u_cond false (fo_rely hF1) hF | u_op (fo_rely hF1) hF | u_skip (fo_rely hF1) hF)
    u_cnd false (fo_rely hF1) hF
    iterate 17 (first | u_c stepG_seq (fo_rely hF1) hF | u_c stepG_region_end (fo_rely hF1) hF | u_reg (fo_rely hF1) hF | u_c stepG_skip (fo_rely hF1) hF | u_c stepG_ret' (fo_rely hF1) hF | u_c stepG_block (fo_rely hF1) hF | u_c stepG_loop (fo_rely hF1) hF | u_c stepG_inBlock (fo_rely hF1) hF | u_c stepG_inLoop (fo_rely hF1) hF | u_cond true (fo_rely hF1) hF | u_cond false (fo_rely hF1) hF | u_op (fo_rely hF1) hF | u_skip (fo_rely hF1) hF)
    u_cnd false (fo_rely hF1) hF
    iterate 11 (first | u_c stepG_seq (fo_rely hF1) hF | u_c stepG_region_end (fo_rely hF1) hF | u_reg (fo_rely hF1) hF | u_c stepG_skip (fo_rely hF1) hF | u_c stepG_ret' (fo_rely hF1) hF | u_c stepG_block (fo_rely hF1) hF | u_c stepG_loop (fo_rely hF1) hF | u_c stepG_inBlock (fo_rely hF1) hF | u_c stepG_inLoop (fo_rely hF1) hF | u_cond true (fo_rely hF1) hF | u_cond false (fo_rely hF1) hF | u_op (fo_rely hF1) hF | u_skip (fo_rely hF1) hF)
    u_cnd true (fo_rely hF1) hF
    iterate 1 (first | u_c stepG_seq (fo_rely hF1) hF | u_c stepG_region_end (fo_rely hF1) hF | u_reg (fo_rely hF1) hF | u_c stepG_skip (fo_rely hF1) hF | u_c stepG_ret' (fo_rely hF1) hF | u_c stepG_block (fo_rely hF1) hF | u_c stepG_loop (fo_rely hF1) hF | u_c stepG_inBlock (fo_rely hF1) hF | u_c stepG_inLoop (fo_rely hF1) hF | u_cond true (fo_rely hF1) hF | u_cond false (fo_rely hF1) hF | u_op (fo_rely hF1) hF | u_skip (fo_rely hF1) hF)
    refine Goes.stop (fun w₃ h₃ => ?_)
    replace hF := fo_rely hF1 hF h₃
    clear h₃
    refine ⟨rfl, _, stepG_unwind_entry (v := .tuple #[]) (evs := #[mk .enable]) rfl H.f_enable (x_enable_n L) (x_enable_b L) (x_enable_x L) (x_enable_f L) (by simp [Extern.Race.none_]) (by simp [mk]) (by simp [mk]), 1 + mT, ?_⟩
    refine GoesO.seq (S := fun g w => GoesO P true L.tWg Y X none ((Phl P L Y X Fin Anc).AtGoS j Next) mT o g w) (fun _ _ h => h) ?_
    u_leave0 H.f_add (fo_rely hF1) hF
    exact Goes.stop (fun w₅ h₅ => (hT _ (fo_rely hF1 hF h₅).1 (fo_rely hF1 hF h₅).2))
end
end

section
open Go.Conc Go.ConcN Go.RowKit Go.Conc.Lib Go.ConcR.Gen Go.ConcN.Gen
open Go.ConcR (KK wgBlock WgAt stA smA rd wr mk Payload DC0)
set_option maxRecDepth 100000 in
theorem list84 (l : List Value) (h : l.length = 84) : ∃ v0 v1 v2 v3 v4 v5 v6 v7 v8 v9 v10 v11 v12 v13 v14 v15 v16 v17 v18 v19 v20 v21 v22 v23 v24 v25 v26 v27 v28 v29 v30 v31 v32 v33 v34 v35 v36 v37 v38 v39 v40 v41 v42 v43 v44 v45 v46 v47 v48 v49 v50 v51 v52 v53 v54 v55 v56 v57 v58 v59 v60 v61 v62 v63 v64 v65 v66 v67 v68 v69 v70 v71 v72 v73 v74 v75 v76 v77 v78 v79 v80 v81 v82 v83, l = [v0, v1, v2, v3, v4, v5, v6, v7, v8, v9, v10, v11, v12, v13, v14, v15, v16, v17, v18, v19, v20, v21, v22, v23, v24, v25, v26, v27, v28, v29, v30, v31, v32, v33, v34, v35, v36, v37, v38, v39, v40, v41, v42, v43, v44, v45, v46, v47, v48, v49, v50, v51, v52, v53, v54, v55, v56, v57, v58, v59, v60, v61, v62, v63, v64, v65, v66, v67, v68, v69, v70, v71, v72, v73, v74, v75, v76, v77, v78, v79, v80, v81, v82, v83] := by
  obtain _ | ⟨v0, l⟩ := l
  · simp at h
  obtain _ | ⟨v1, l⟩ := l
  · simp at h
  obtain _ | ⟨v2, l⟩ := l
  · simp at h
  obtain _ | ⟨v3, l⟩ := l
  · simp at h
  obtain _ | ⟨v4, l⟩ := l
  · simp at h
  obtain _ | ⟨v5, l⟩ := l
  · simp at h
  obtain _ | ⟨v6, l⟩ := l
  · simp at h
  obtain _ | ⟨v7, l⟩ := l
  · simp at h
  obtain _ | ⟨v8, l⟩ := l
  · simp at h
  obtain _ | ⟨v9, l⟩ := l
  · simp at h
  obtain _ | ⟨v10, l⟩ := l
  · simp at h
  obtain _ | ⟨v11, l⟩ := l
  · simp at h
  obtain _ | ⟨v12, l⟩ := l
  · simp at h
  obtain _ | ⟨v13, l⟩ := l
  · simp at h
  obtain _ | ⟨v14, l⟩ := l
  · simp at h
  obtain _ | ⟨v15, l⟩ := l
  · simp at h
  obtain _ | ⟨v16, l⟩ := l
  · simp at h
  obtain _ | ⟨v17, l⟩ := l
  · simp at h
  obtain _ | ⟨v18, l⟩ := l
  · simp at h
  obtain _ | ⟨v19, l⟩ := l
  · simp at h
  obtain _ | ⟨v20, l⟩ := l
  · simp at h
  obtain _ | ⟨v21, l⟩ := l
  · simp at h
  obtain _ | ⟨v22, l⟩ := l
  · simp at h
  obtain _ | ⟨v23, l⟩ := l
  · simp at h
  obtain _ | ⟨v24, l⟩ := l
  · simp at h
  obtain _ | ⟨v25, l⟩ := l
  · simp at h
  obtain _ | ⟨v26, l⟩ := l
  · simp at h
  obtain _ | ⟨v27, l⟩ := l
  · simp at h
  obtain _ | ⟨v28, l⟩ := l
  · simp at h
  obtain _ | ⟨v29, l⟩ := l
  · simp at h
  obtain _ | ⟨v30, l⟩ := l
  · simp at h
  obtain _ | ⟨v31, l⟩ := l
  · simp at h
  obtain _ | ⟨v32, l⟩ := l
  · simp at h
  obtain _ | ⟨v33, l⟩ := l
  · simp at h
  obtain _ | ⟨v34, l⟩ := l
  · simp at h
  obtain _ | ⟨v35, l⟩ := l
  · simp at h
  obtain _ | ⟨v36, l⟩ := l
  · simp at h
  obtain _ | ⟨v37, l⟩ := l
  · simp at h
  obtain _ | ⟨v38, l⟩ := l
  · simp at h
  obtain _ | ⟨v39, l⟩ := l
  · simp at h
  obtain _ | ⟨v40, l⟩ := l
  · simp at h
  obtain _ | ⟨v41, l⟩ := l
  · simp at h
  obtain _ | ⟨v42, l⟩ := l
  · simp at h
  obtain _ | ⟨v43, l⟩ := l
  · simp at h
  obtain _ | ⟨v44, l⟩ := l
  · simp at h
  obtain _ | ⟨v45, l⟩ := l
  · simp at h
  obtain _ | ⟨v46, l⟩ := l
  · simp at h
  obtain _ | ⟨v47, l⟩ := l
  · simp at h
  obtain _ | ⟨v48, l⟩ := l
  · simp at h
  obtain _ | ⟨v49, l⟩ := l
  · simp at h
  obtain _ | ⟨v50, l⟩ := l
  · simp at h
  obtain _ | ⟨v51, l⟩ := l
  · simp at h
  obtain _ | ⟨v52, l⟩ := l
  · simp at h
  obtain _ | ⟨v53, l⟩ := l
  · simp at h
  obtain _ | ⟨v54, l⟩ := l
  · simp at h
  obtain _ | ⟨v55, l⟩ := l
  · simp at h
  obtain _ | ⟨v56, l⟩ := l
  · simp at h
  obtain _ | ⟨v57, l⟩ := l
  · simp at h
  obtain _ | ⟨v58, l⟩ := l
  · simp at h
  obtain _ | ⟨v59, l⟩ := l
  · simp at h
  obtain _ | ⟨v60, l⟩ := l
  · simp at h
  obtain _ | ⟨v61, l⟩ := l
  · simp at h
  obtain _ | ⟨v62, l⟩ := l
  · simp at h
  obtain _ | ⟨v63, l⟩ := l
  · simp at h
  obtain _ | ⟨v64, l⟩ := l
  · simp at h
  obtain _ | ⟨v65, l⟩ := l
  · simp at h
  obtain _ | ⟨v66, l⟩ := l
  · simp at h
  obtain _ | ⟨v67, l⟩ := l
  · simp at h
  obtain _ | ⟨v68, l⟩ := l
  · simp at h
  obtain _ | ⟨v69, l⟩ := l
  · simp at h
  obtain _ | ⟨v70, l⟩ := l
  · simp at h
  obtain _ | ⟨v71, l⟩ := l
  · simp at h
  obtain _ | ⟨v72, l⟩ := l
  · simp at h
  obtain _ | ⟨v73, l⟩ := l
  · simp at h
  obtain _ | ⟨v74, l⟩ := l
  · simp at h
  obtain _ | ⟨v75, l⟩ := l
  · simp at h
  obtain _ | ⟨v76, l⟩ := l
  · simp at h
  obtain _ | ⟨v77, l⟩ := l
  · simp at h
  obtain _ | ⟨v78, l⟩ := l
  · simp at h
  obtain _ | ⟨v79, l⟩ := l
  · simp at h
  obtain _ | ⟨v80, l⟩ := l
  · simp at h
  obtain _ | ⟨v81, l⟩ := l
  · simp at h
  obtain _ | ⟨v82, l⟩ := l
  · simp at h
  obtain _ | ⟨v83, l⟩ := l
  · simp at h
  obtain _ | ⟨_, _⟩ := l
  · exact ⟨v0, v1, v2, v3, v4, v5, v6, v7, v8, v9, v10, v11, v12, v13, v14, v15, v16, v17, v18, v19, v20, v21, v22, v23, v24, v25, v26, v27, v28, v29, v30, v31, v32, v33, v34, v35, v36, v37, v38, v39, v40, v41, v42, v43, v44, v45, v46, v47, v48, v49, v50, v51, v52, v53, v54, v55, v56, v57, v58, v59, v60, v61, v62, v63, v64, v65, v66, v67, v68, v69, v70, v71, v72, v73, v74, v75, v76, v77, v78, v79, v80, v81, v82, v83, rfl⟩
  · simp at h
variable [Payload] {L : WgLink}

/-- The anchor: the head of Wait's loop. -/
def AnchO (L : WgLink) (Y : Lay) (F : World → Prop) (c : Frame) (cs : List Frame) (o : List Nat) (g : Goroutine) (w : World) : Prop :=
  o = [] ∧ ∃ T : Array Value, g = G ((base L.wait).at ⟨T, []⟩ [.code (L7 L), .inLoop (L7 L), .inBlock 0]) (c :: cs) ∧ T.size = 84 ∧ T[0]? = some (.pointer (some ⟨Y.Wg, 0, none⟩)) ∧ F w ∧ WgLive L.tWg Y.Wg w

section
variable {Y : Lay} {X : Nat → Prop} {F : World → Prop} {Fin : Nat → List Nat → World → Prop} {Anc : Goroutine → World → Prop}
  {b₀ : Frame} {a₀ : Act} {ops₀ : Array Oper} {i₀ : Nat} {rest₀ : List Nat} {k₀ : List Item} {cs : List Frame} {mT : Nat}

set_option maxRecDepth 100000 in
set_option maxHeartbeats 8000000 in
theorem waitRoundG {P : Program} (H : WgLib P L) (hF1 : ∀ a b, RO L.tWg Y none [] a b → F a → F b) (hF2 : ∀ a b, Aside Y.Wg a b → F a → F b)
    (hT : ∀ w, F w → WgLive L.tWg Y.Wg w → GoesO P true L.tWg Y X none ((Phl P L Y X Fin Anc).AtRet) mT [] (G (b₀.at (a₀.put ((ops₀[i₀]?).bind (·.dst)) (.tuple #[])) (.inRegion ops₀ rest₀ :: k₀)) cs) w)
    (o : List Nat) (g : Goroutine) (w : World) (h : AnchO L Y F (b₀.at a₀ (.inRegion ops₀ (i₀ :: rest₀) :: k₀)) cs o g w) :
    ∃ m, GoesO P true L.tWg Y X none ((Phl P L Y X Fin Anc).AtW1 (AnchO L Y F (b₀.at a₀ (.inRegion ops₀ (i₀ :: rest₀) :: k₀)) cs)) m o g w := by
  lib_facts
  obtain ⟨rfl, T, rfl, hT84, t0, hF⟩ := h
  obtain ⟨l⟩ := T
  simp only [List.size_toArray] at hT84
  obtain ⟨v0, v1, v2, v3, v4, v5, v6, v7, v8, v9, v10, v11, v12, v13, v14, v15, v16, v17, v18, v19, v20, v21, v22, v23, v24, v25, v26, v27, v28, v29, v30, v31, v32, v33, v34, v35, v36, v37, v38, v39, v40, v41, v42, v43, v44, v45, v46, v47, v48, v49, v50, v51, v52, v53, v54, v55, v56, v57, v58, v59, v60, v61, v62, v63, v64, v65, v66, v67, v68, v69, v70, v71, v72, v73, v74, v75, v76, v77, v78, v79, v80, v81, v82, v83, rfl⟩ := list84 l hT84
  simp only [List.getElem?_toArray, List.getElem?_cons_zero, Option.some.injEq] at t0
  subst t0
  refine ⟨30, ?_⟩
  simp only [L7, body_wait, waitFn, Option.getD_some]
  refine GoesO.of0 ?_
  iterate 6 (first | u_c stepG_seq (fo_rely hF1) hF | u_c stepG_region_end (fo_rely hF1) hF | u_reg (fo_rely hF1) hF | u_c stepG_skip (fo_rely hF1) hF | u_c stepG_ret' (fo_rely hF1) hF | u_c stepG_block (fo_rely hF1) hF | u_c stepG_loop (fo_rely hF1) hF | u_c stepG_inBlock (fo_rely hF1) hF | u_c stepG_inLoop (fo_rely hF1) hF | u_cond true (fo_rely hF1) hF | u_cond false (fo_rely hF1) hF | u_op (fo_rely hF1) hF | u_skip (fo_rely hF1) hF)
  u_call H.f_uLoad (nm_uLoad L) uLoadFn (fo_rely hF1) hF
  iterate 9 (first | u_c stepG_seq (fo_rely hF1) hF | u_c stepG_region_end (fo_rely hF1) hF | u_reg (fo_rely hF1) hF | u_c stepG_skip (fo_rely hF1) hF | u_c stepG_ret' (fo_rely hF1) hF | u_c stepG_block (fo_rely hF1) hF | u_c stepG_loop (fo_rely hF1) hF | u_c stepG_inBlock (fo_rely hF1) hF | u_c stepG_inLoop (fo_rely hF1) hF | u_cond true (fo_rely hF1) hF | u_cond false (fo_rely hF1) hF | u_op (fo_rely hF1) hF | u_skip (fo_rely hF1) hF)
  refine Goes.stop (fun w₁ h₁ => ?_)
  replace hF := fo_rely hF1 hF h₁
  clear h₁
  refine ⟨rfl, fun v hv hw => ?_⟩
  rcases Nat.eq_zero_or_pos v with rfl | hvp
  · -- the join is seen
    replace hw : WgAt L.tWg Y.Wg w₁ 0 0 := by simpa using hw
    refine ⟨_, stepG_load_atomic (v := 0) rfl rfl (by k_ne) rfl H.f_loadU64 (x_loadU64_n L) (x_loadU64_b L) (x_loadU64_x L) .u64 (x_loadU64_f L) rfl hw.cellSt, fun _ => ⟨50, ?_⟩, fun h => absurd rfl h⟩
    clear hw
    walk_nrm
    refine GoesO.of0 ?_
    iterate 3 (first | u_c stepG_seq (fo_rely hF1) hF | u_c stepG_region_end (fo_rely hF1) hF | u_reg (fo_rely hF1) hF | u_c stepG_skip (fo_rely hF1) hF | u_c stepG_ret' (fo_rely hF1) hF | u_c stepG_block (fo_rely hF1) hF | u_c stepG_loop (fo_rely hF1) hF | u_c stepG_inBlock (fo_rely hF1) hF | u_c stepG_inLoop (fo_rely hF1) hF | u_cond true (fo_rely hF1) hF | u_cond false (fo_rely hF1) hF | u_op (fo_rely hF1) hF | u_skip (fo_rely hF1) hF)
    u_leave1 H.f_uLoad (fo_rely hF1) hF
    iterate 27 (first | u_c stepG_seq (fo_rely hF1) hF | u_c stepG_region_end (fo_rely hF1) hF | u_reg (fo_rely hF1) hF | u_c stepG_skip (fo_rely hF1) hF | u_c stepG_ret' (fo_rely hF1) hF | u_c stepG_block (fo_rely hF1) hF | u_c stepG_loop (fo_rely hF1) hF | u_c stepG_inBlock (fo_rely hF1) hF | u_c stepG_inLoop (fo_rely hF1) hF | u_cond true (fo_rely hF1) hF | u_cond false (fo_rely hF1) hF | u_op (fo_rely hF1) hF | u_skip (fo_rely hF1) hF)
    refine Goes.stop (fun w₅ h₅ => ?_)
    replace hF := fo_rely hF1 hF h₅
    clear h₅
    refine ⟨rfl, _, stepG_mark0 .enable (by simp) rfl rfl (by k_ne) rfl H.f_enable (x_enable_n L) (x_enable_b L) (x_enable_x L) (x_enable_f L), 20, ?_⟩
    walk_nrm
    refine GoesO.of0 ?_
    iterate 3 (first | u_c stepG_seq (fo_rely hF1) hF | u_c stepG_region_end (fo_rely hF1) hF | u_reg (fo_rely hF1) hF | u_c stepG_skip (fo_rely hF1) hF | u_c stepG_ret' (fo_rely hF1) hF | u_c stepG_block (fo_rely hF1) hF | u_c stepG_loop (fo_rely hF1) hF | u_c stepG_inBlock (fo_rely hF1) hF | u_c stepG_inLoop (fo_rely hF1) hF | u_cond true (fo_rely hF1) hF | u_cond false (fo_rely hF1) hF | u_op (fo_rely hF1) hF | u_skip (fo_rely hF1) hF)
    u_conv H.underlying_tWgP H.room_tWg (WgLive.cell0 hF.2).choose_spec (fo_rely hF1) hF
    refine Goes.stop (fun w₆ h₆ => ?_)
    replace hF := fo_rely hF1 hF h₆
    clear h₆
    refine ⟨rfl, _, stepG_markAt .acquire (by simp) rfl rfl (by k_ne) rfl H.f_acquire (x_acquire_n L) (x_acquire_b L) (x_acquire_x L) (x_acquire_f L) (by simp [Act.eval, stA]), 30 + mT, ?_⟩
    walk_nrm
    refine GoesO.seq (S := fun g w => GoesO P true L.tWg Y X none ((Phl P L Y X Fin Anc).AtRet) mT [] g w) (fun _ _ h => h) ?_
    iterate 19 (first | u_c stepG_seq (fo_rely hF1) hF | u_c stepG_region_end (fo_rely hF1) hF | u_reg (fo_rely hF1) hF | u_c stepG_skip (fo_rely hF1) hF | u_c stepG_ret' (fo_rely hF1) hF | u_c stepG_block (fo_rely hF1) hF | u_c stepG_loop (fo_rely hF1) hF | u_c stepG_inBlock (fo_rely hF1) hF | u_c stepG_inLoop (fo_rely hF1) hF | u_cond true (fo_rely hF1) hF | u_cond false (fo_rely hF1) hF | u_op (fo_rely hF1) hF | u_skip (fo_rely hF1) hF)
    u_leave0 H.f_wait (fo_rely hF1) hF
    exact Goes.stop (fun w₇ h₇ => (hT _ (fo_rely hF1 hF h₇).1 (fo_rely hF1 hF h₇).2))
  · -- more than 0
    obtain ⟨S, hS⟩ : ∃ S : Int, (v : Int) * KK = S := ⟨_, rfl⟩
    have a1 : S / 4294967296 = (v : Int) := by rw [← hS]; simp only [KK]; omega
    have b1 : bits .and .u64 S 2147483648 = 0 := by rw [← hS]; have := st_flag v 0 (by omega) (by omega); simpa [KK] using this
    have b2 : bits .and .u64 S 2147483647 = 0 := by rw [← hS]; have := st_waiters v 0 (by omega) (by omega); simpa [KK] using this
    have c1 : IntKind.i32.wrap (v : Int) = (v : Int) := by rw [IntKind.wrap_i32]; omega
    have w1 : IntKind.u64.wrap (S + 1) = S + 1 := by rw [IntKind.wrap_u64, ← hS]; simp only [KK]; omega
    have q3 : decide ((v : Int) < 0) = false := decide_eq_false (by omega)
    have q4 : decide (0 < (v : Int)) = true := decide_eq_true (by omega)
    have q5 : ((v : Int) == 0) = false := by simp; omega
    have q6 : decide ((v : Int) = 0) = false := decide_eq_false (by omega)
    rw [hS] at hw
    refine ⟨_, stepG_load_atomic (v := S) rfl rfl (by k_ne) rfl H.f_loadU64 (x_loadU64_n L) (x_loadU64_b L) (x_loadU64_x L) .u64 (x_loadU64_f L) rfl hw.cellSt, fun h0 => absurd h0 (by omega), fun _ => ⟨80, ?_⟩⟩
    clear hw
    walk_nrm
    refine GoesO.of0 ?_
    iterate 3 (first | u_c stepG_seq (fo_rely hF1) hF | u_c stepG_region_end (fo_rely hF1) hF | u_reg (fo_rely hF1) hF | u_c stepG_skip (fo_rely hF1) hF | u_c stepG_ret' (fo_rely hF1) hF | u_c stepG_block (fo_rely hF1) hF | u_c stepG_loop (fo_rely hF1) hF | u_c stepG_inBlock (fo_rely hF1) hF | u_c stepG_inLoop (fo_rely hF1) hF | u_cond true (fo_rely hF1) hF | u_cond false (fo_rely hF1) hF | u_op (fo_rely hF1) hF | u_skip (fo_rely hF1) hF)
    u_leave1 H.f_uLoad (fo_rely hF1) hF
    iterate 22 (first | u_c stepG_seq (fo_rely hF1) hF | u_c stepG_region_end (fo_rely hF1) hF | u_reg (fo_rely hF1) hF | u_c stepG_skip (fo_rely hF1) hF | u_c stepG_ret' (fo_rely hF1) hF | u_c stepG_block (fo_rely hF1) hF | u_c stepG_loop (fo_rely hF1) hF | u_c stepG_inBlock (fo_rely hF1) hF | u_c stepG_inLoop (fo_rely hF1) hF | u_cond true (fo_rely hF1) hF | u_cond false (fo_rely hF1) hF | u_op (fo_rely hF1) hF | u_skip (fo_rely hF1) hF)
    u_cnd false (fo_rely hF1) hF
    iterate 9 (first | u_c stepG_seq (fo_rely hF1) hF | u_c stepG_region_end (fo_rely hF1) hF | u_reg (fo_rely hF1) hF | u_c stepG_skip (fo_rely hF1) hF | u_c stepG_ret' (fo_rely hF1) hF | u_c stepG_block (fo_rely hF1) hF | u_c stepG_loop (fo_rely hF1) hF | u_c stepG_inBlock (fo_rely hF1) hF | u_c stepG_inLoop (fo_rely hF1) hF | u_cond true (fo_rely hF1) hF | u_cond false (fo_rely hF1) hF | u_op (fo_rely hF1) hF | u_skip (fo_rely hF1) hF)
    u_call H.f_uCas (nm_uCas L) uCasFn (fo_rely hF1) hF
    iterate 11 (first | u_c stepG_seq (fo_rely hF1) hF | u_c stepG_region_end (fo_rely hF1) hF | u_reg (fo_rely hF1) hF | u_c stepG_skip (fo_rely hF1) hF | u_c stepG_ret' (fo_rely hF1) hF | u_c stepG_block (fo_rely hF1) hF | u_c stepG_loop (fo_rely hF1) hF | u_c stepG_inBlock (fo_rely hF1) hF | u_c stepG_inLoop (fo_rely hF1) hF | u_cond true (fo_rely hF1) hF | u_cond false (fo_rely hF1) hF | u_op (fo_rely hF1) hF | u_skip (fo_rely hF1) hF)
    refine Goes.stop (fun w₂ h₂ => ?_)
    replace hF := fo_rely hF1 hF h₂
    clear h₂
    refine ⟨rfl, fun v' hv' hw => ⟨fun e => ?_, fun e => ?_⟩⟩
    · -- registered
      subst e
      rw [hS] at hw ⊢
      refine ⟨_, (stepG_cas_hit (v := S) (n := S + 1) rfl rfl (by k_ne) rfl H.f_casU64 (x_casU64_n L) (x_casU64_b L) (x_casU64_x L) .u64 (x_casU64_f L) rfl rfl rfl hw.cellSt (hw.thaw 0)).trans (by rfl), 40 + (40 + 1), ?_⟩
      replace hF : F (w₂.setCell (stA Y.Wg) (.int .u64 (S + 1))) ∧ WgLive L.tWg Y.Wg (w₂.setCell (stA Y.Wg) (.int .u64 (S + 1))) := ⟨hF2 _ _ (aside_setCell w₂ (stA Y.Wg) _) hF.1, ⟨_, _, hw.setSt _⟩⟩
      clear hw
      walk_nrm
      refine GoesO.seq (S := fun g w => GoesO P true L.tWg Y X none ((Phl P L Y X Fin Anc).AtW3) (40 + 1) [] g w) (fun _ _ h => h) ?_
      iterate 3 (first | u_c stepG_seq (fo_rely hF1) hF | u_c stepG_region_end (fo_rely hF1) hF | u_reg (fo_rely hF1) hF | u_c stepG_skip (fo_rely hF1) hF | u_c stepG_ret' (fo_rely hF1) hF | u_c stepG_block (fo_rely hF1) hF | u_c stepG_loop (fo_rely hF1) hF | u_c stepG_inBlock (fo_rely hF1) hF | u_c stepG_inLoop (fo_rely hF1) hF | u_cond true (fo_rely hF1) hF | u_cond false (fo_rely hF1) hF | u_op (fo_rely hF1) hF | u_skip (fo_rely hF1) hF)
      u_leave1 H.f_uCas (fo_rely hF1) hF
      iterate 15 (first | u_c stepG_seq (fo_rely hF1) hF | u_c stepG_region_end (fo_rely hF1) hF | u_reg (fo_rely hF1) hF | u_c stepG_skip (fo_rely hF1) hF | u_c stepG_ret' (fo_rely hF1) hF | u_c stepG_block (fo_rely hF1) hF | u_c stepG_loop (fo_rely hF1) hF | u_c stepG_inBlock (fo_rely hF1) hF | u_c stepG_inLoop (fo_rely hF1) hF | u_cond true (fo_rely hF1) hF | u_cond false (fo_rely hF1) hF | u_op (fo_rely hF1) hF | u_skip (fo_rely hF1) hF)
      u_conv H.underlying_tPU32 H.room_tU32 (WgLive.cell1 hF.2).choose_spec (fo_rely hF1) hF
      refine Goes.stop (fun w₃ h₃ => ?_)
      replace hF := fo_rely hF1 hF h₃
      clear h₃
      refine GoesO.step rfl fun w₄ h₄ => ?_
      replace hF := fo_rely hF1 hF h₄
      clear h₄
      rw [stepG_markAt .write (by simp) rfl rfl (by k_ne) rfl H.f_raceWrite (x_raceWrite_n L) (x_raceWrite_b L) (x_raceWrite_x L) (x_raceWrite_f L) (ad := ⟨Y.Wg, 1, none⟩) (by simp [Act.eval])]
      simp only [goes_go]
      refine ⟨[], ⟨.idle _, fun e he => ?_⟩, ?_⟩
      · rw [Array.mem_singleton] at he
        subst he
        exact evO_said .write (fun _ => rfl) (by simp) (by simp) (by simp) _ rfl
      walk_nrm
      refine GoesO.of0 ?_
      iterate 23 (first | u_c stepG_seq (fo_rely hF1) hF | u_c stepG_region_end (fo_rely hF1) hF | u_reg (fo_rely hF1) hF | u_c stepG_skip (fo_rely hF1) hF | u_c stepG_ret' (fo_rely hF1) hF | u_c stepG_block (fo_rely hF1) hF | u_c stepG_loop (fo_rely hF1) hF | u_c stepG_inBlock (fo_rely hF1) hF | u_c stepG_inLoop (fo_rely hF1) hF | u_cond true (fo_rely hF1) hF | u_cond false (fo_rely hF1) hF | u_op (fo_rely hF1) hF | u_skip (fo_rely hF1) hF)
      refine Goes.stop (fun w₃ h₃ => ?_)
      replace hF := fo_rely hF1 hF h₃
      clear h₃
      refine ⟨rfl, rfl, fun ⟨st, hw⟩ => stepG_semacquire_wait rfl rfl rfl H.f_semacquire (x_semacquire_n L) (x_semacquire_b L) (x_semacquire_x L) (x_semacquire_f L) (by simp [Act.eval, smA]) hw.cellSm, fun hf => ?_⟩
      refine ⟨_, (stepG_semacquire (n := 1) rfl rfl (by k_ne) rfl H.f_semacquire (x_semacquire_n L) (x_semacquire_b L) (x_semacquire_x L) (x_semacquire_f L) (by simp [Act.eval, smA]) hf.cellSm (by k_ne) (hf.thaw 1)).trans (by rfl), 30, ?_⟩
      replace hF : F (w₃.setCell (smA Y.Wg) (.int .u32 0)) ∧ WgLive L.tWg Y.Wg (w₃.setCell (smA Y.Wg) (.int .u32 0)) := ⟨hF2 _ _ (aside_setCell w₃ (smA Y.Wg) _) hF.1, ⟨_, _, hf.setSm 0⟩⟩
      clear hf
      walk_nrm
      refine GoesO.of0 ?_
      iterate 6 (first | u_c stepG_seq (fo_rely hF1) hF | u_c stepG_region_end (fo_rely hF1) hF | u_reg (fo_rely hF1) hF | u_c stepG_skip (fo_rely hF1) hF | u_c stepG_ret' (fo_rely hF1) hF | u_c stepG_block (fo_rely hF1) hF | u_c stepG_loop (fo_rely hF1) hF | u_c stepG_inBlock (fo_rely hF1) hF | u_c stepG_inLoop (fo_rely hF1) hF | u_cond true (fo_rely hF1) hF | u_cond false (fo_rely hF1) hF | u_op (fo_rely hF1) hF | u_skip (fo_rely hF1) hF)
      u_call H.f_uLoad (nm_uLoad L) uLoadFn (fo_rely hF1) hF
      iterate 9 (first | u_c stepG_seq (fo_rely hF1) hF | u_c stepG_region_end (fo_rely hF1) hF | u_reg (fo_rely hF1) hF | u_c stepG_skip (fo_rely hF1) hF | u_c stepG_ret' (fo_rely hF1) hF | u_c stepG_block (fo_rely hF1) hF | u_c stepG_loop (fo_rely hF1) hF | u_c stepG_inBlock (fo_rely hF1) hF | u_c stepG_inLoop (fo_rely hF1) hF | u_cond true (fo_rely hF1) hF | u_cond false (fo_rely hF1) hF | u_op (fo_rely hF1) hF | u_skip (fo_rely hF1) hF)
      refine Goes.stop (fun w₄ h₄ => ?_)
      replace hF := fo_rely hF1 hF h₄
      clear h₄
      refine ⟨rfl, fun hw => ⟨_, stepG_load_atomic (v := 0) rfl rfl (by k_ne) rfl H.f_loadU64 (x_loadU64_n L) (x_loadU64_b L) (x_loadU64_x L) .u64 (x_loadU64_f L) rfl hw.cellSt, 30, ?_⟩⟩
      clear hw
      walk_nrm
      refine GoesO.of0 ?_
      iterate 3 (first | u_c stepG_seq (fo_rely hF1) hF | u_c stepG_region_end (fo_rely hF1) hF | u_reg (fo_rely hF1) hF | u_c stepG_skip (fo_rely hF1) hF | u_c stepG_ret' (fo_rely hF1) hF | u_c stepG_block (fo_rely hF1) hF | u_c stepG_loop (fo_rely hF1) hF | u_c stepG_inBlock (fo_rely hF1) hF | u_c stepG_inLoop (fo_rely hF1) hF | u_cond true (fo_rely hF1) hF | u_cond false (fo_rely hF1) hF | u_op (fo_rely hF1) hF | u_skip (fo_rely hF1) hF)
      u_leave1 H.f_uLoad (fo_rely hF1) hF
      iterate 7 (first | u_c stepG_seq (fo_rely hF1) hF | u_c stepG_region_end (fo_rely hF1) hF | u_reg (fo_rely hF1) hF | u_c stepG_skip (fo_rely hF1) hF | u_c stepG_ret' (fo_rely hF1) hF | u_c stepG_block (fo_rely hF1) hF | u_c stepG_loop (fo_rely hF1) hF | u_c stepG_inBlock (fo_rely hF1) hF | u_c stepG_inLoop (fo_rely hF1) hF | u_cond true (fo_rely hF1) hF | u_cond false (fo_rely hF1) hF | u_op (fo_rely hF1) hF | u_skip (fo_rely hF1) hF)
      refine Goes.stop (fun w₅ h₅ => ?_)
      replace hF := fo_rely hF1 hF h₅
      clear h₅
      refine ⟨rfl, _, stepG_mark0 .enable (by simp) rfl rfl (by k_ne) rfl H.f_enable (x_enable_n L) (x_enable_b L) (x_enable_x L) (x_enable_f L), 20, ?_⟩
      walk_nrm
      refine GoesO.of0 ?_
      iterate 3 (first | u_c stepG_seq (fo_rely hF1) hF | u_c stepG_region_end (fo_rely hF1) hF | u_reg (fo_rely hF1) hF | u_c stepG_skip (fo_rely hF1) hF | u_c stepG_ret' (fo_rely hF1) hF | u_c stepG_block (fo_rely hF1) hF | u_c stepG_loop (fo_rely hF1) hF | u_c stepG_inBlock (fo_rely hF1) hF | u_c stepG_inLoop (fo_rely hF1) hF | u_cond true (fo_rely hF1) hF | u_cond false (fo_rely hF1) hF | u_op (fo_rely hF1) hF | u_skip (fo_rely hF1) hF)
      u_conv H.underlying_tWgP H.room_tWg (WgLive.cell0 hF.2).choose_spec (fo_rely hF1) hF
      refine Goes.stop (fun w₆ h₆ => ?_)
      replace hF := fo_rely hF1 hF h₆
      clear h₆
      refine ⟨rfl, _, stepG_markAt .acquire (by simp) rfl rfl (by k_ne) rfl H.f_acquire (x_acquire_n L) (x_acquire_b L) (x_acquire_x L) (x_acquire_f L) (by simp [Act.eval, stA]), 30 + mT, ?_⟩
      walk_nrm
      refine GoesO.seq (S := fun g w => GoesO P true L.tWg Y X none ((Phl P L Y X Fin Anc).AtRet) mT [] g w) (fun _ _ h => h) ?_
      iterate 9 (first | u_c stepG_seq (fo_rely hF1) hF | u_c stepG_region_end (fo_rely hF1) hF | u_reg (fo_rely hF1) hF | u_c stepG_skip (fo_rely hF1) hF | u_c stepG_ret' (fo_rely hF1) hF | u_c stepG_block (fo_rely hF1) hF | u_c stepG_loop (fo_rely hF1) hF | u_c stepG_inBlock (fo_rely hF1) hF | u_c stepG_inLoop (fo_rely hF1) hF | u_cond true (fo_rely hF1) hF | u_cond false (fo_rely hF1) hF | u_op (fo_rely hF1) hF | u_skip (fo_rely hF1) hF)
      u_leave0 H.f_wait (fo_rely hF1) hF
      exact Goes.stop (fun w₇ h₇ => (hT _ (fo_rely hF1 hF h₇).1 (fo_rely hF1 hF h₇).2))
    · -- it misses
      refine ⟨_, stepG_cas_miss (v := (v' : Int) * KK) (old := S) (n := S + 1) rfl rfl (by k_ne) rfl H.f_casU64 (x_casU64_n L) (x_casU64_b L) (x_casU64_x L) .u64 (x_casU64_f L) rfl rfl rfl hw.cellSt (hw.thaw 0) (by rw [← hS]; simp only [KK]; omega), 20, ?_⟩
      clear hw
      walk_nrm
      refine GoesO.of0 ?_
      iterate 3 (first | u_c stepG_seq (fo_rely hF1) hF | u_c stepG_region_end (fo_rely hF1) hF | u_reg (fo_rely hF1) hF | u_c stepG_skip (fo_rely hF1) hF | u_c stepG_ret' (fo_rely hF1) hF | u_c stepG_block (fo_rely hF1) hF | u_c stepG_loop (fo_rely hF1) hF | u_c stepG_inBlock (fo_rely hF1) hF | u_c stepG_inLoop (fo_rely hF1) hF | u_cond true (fo_rely hF1) hF | u_cond false (fo_rely hF1) hF | u_op (fo_rely hF1) hF | u_skip (fo_rely hF1) hF)
      u_leave1 H.f_uCas (fo_rely hF1) hF
      iterate 5 (first | u_c stepG_seq (fo_rely hF1) hF | u_c stepG_region_end (fo_rely hF1) hF | u_reg (fo_rely hF1) hF | u_c stepG_skip (fo_rely hF1) hF | u_c stepG_ret' (fo_rely hF1) hF | u_c stepG_block (fo_rely hF1) hF | u_c stepG_loop (fo_rely hF1) hF | u_c stepG_inBlock (fo_rely hF1) hF | u_c stepG_inLoop (fo_rely hF1) hF | u_cond true (fo_rely hF1) hF | u_cond false (fo_rely hF1) hF | u_op (fo_rely hF1) hF | u_skip (fo_rely hF1) hF)
      refine Goes.stop (fun w₃ h₃ => ?_)
      replace hF := fo_rely hF1 hF h₃
      exact ⟨rfl, _, rfl, by simp, by simp, hF⟩

set_option maxRecDepth 100000 in
theorem waitStartG {P : Program} (H : WgLib P L) (hF1 : ∀ a b, RO L.tWg Y none [] a b → F a → F b) (w : World) (hF : F w ∧ WgLive L.tWg Y.Wg w) :
    GoesO P true L.tWg Y X none ((Phl P L Y X Fin Anc).AtKd (AnchO L Y F (b₀.at a₀ (.inRegion ops₀ (i₀ :: rest₀) :: k₀)) cs)) 3 []
      (G ((base L.wait).at ⟨#[.pointer (some ⟨Y.Wg, 0, none⟩), undef, undef, undef, undef, undef, undef, undef, undef, undef, undef, undef, undef, undef, undef, undef, undef, undef, undef, undef, undef, undef, undef, undef, undef, undef, undef, undef, undef, undef, undef, undef, undef, undef, undef, undef, undef, undef, undef, undef, undef, undef, undef, undef, undef, undef, undef, undef, undef, undef, undef, undef, undef, undef, undef, undef, undef, undef, undef, undef, undef, undef, undef, undef, undef, undef, undef, undef, undef, undef, undef, undef, undef, undef, undef, undef, undef, undef, undef, undef, undef, undef, undef, undef], []⟩ [.code (body_wait L)]) (b₀.at a₀ (.inRegion ops₀ (i₀ :: rest₀) :: k₀) :: cs)) w := by
  lib_facts
  simp only [body_wait, waitFn, Option.getD_some]
  refine GoesO.of0 ?_
  iterate 3 (first | u_c stepG_seq (fo_rely hF1) hF | u_c stepG_region_end (fo_rely hF1) hF | u_reg (fo_rely hF1) hF | u_c stepG_skip (fo_rely hF1) hF | u_c stepG_ret' (fo_rely hF1) hF | u_c stepG_block (fo_rely hF1) hF | u_c stepG_loop (fo_rely hF1) hF | u_c stepG_inBlock (fo_rely hF1) hF | u_c stepG_inLoop (fo_rely hF1) hF | u_cond true (fo_rely hF1) hF | u_cond false (fo_rely hF1) hF | u_op (fo_rely hF1) hF | u_skip (fo_rely hF1) hF)
  refine Goes.stop (fun w₁ h₁ => ?_)
  replace hF := fo_rely hF1 hF h₁
  clear h₁
  refine ⟨rfl, _, stepG_mark0 .disable (by simp) rfl rfl (by k_ne) rfl H.f_disable (x_disable_n L) (x_disable_b L) (x_disable_x L) (x_disable_f L), 3, ?_⟩
  walk_nrm
  refine GoesO.of0 ?_
  iterate 3 (first | u_c stepG_seq (fo_rely hF1) hF | u_c stepG_region_end (fo_rely hF1) hF | u_reg (fo_rely hF1) hF | u_c stepG_skip (fo_rely hF1) hF | u_c stepG_ret' (fo_rely hF1) hF | u_c stepG_block (fo_rely hF1) hF | u_c stepG_loop (fo_rely hF1) hF | u_c stepG_inBlock (fo_rely hF1) hF | u_c stepG_inLoop (fo_rely hF1) hF | u_cond true (fo_rely hF1) hF | u_cond false (fo_rely hF1) hF | u_op (fo_rely hF1) hF | u_skip (fo_rely hF1) hF)
  exact Goes.stop (fun w₂ h₂ => ⟨rfl, _, rfl, by simp, by simp, fo_rely hF1 hF h₂⟩)
end
end
end Go.Proofs.Ytnifgfnhcjhodaa
