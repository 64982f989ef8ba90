/- The measures of package impl: tally. Conditions: each lemma's own. -/
import Derived.Test.YtjjjpakgnipghaaRE
namespace Go.Proofs.Ytjjjpakgnipghaa
open Go.RowKit Go.Shelf
set_option linter.unusedVariables false
attribute [local go_sem] Oper.semAt_some

theorem grownBy_setCellJ (W : World) (b j : Nat) (v : Value) : W.grownBy (W.setCell ⟨b, j, none⟩ v) (some b) :=
  ⟨rfl, rfl, rfl, (KeepsOthers.setCell W ⟨b, j, none⟩ v).size, fun k _ hk => Below.heap_setCell _ _ _ k (fun e => hk (by rw [e]))⟩
/-- how many sets of each size -/
def cntW (U : Nat → Bool) (pre : List (Fin 64)) (j : Nat) : Nat := (pre.map (·.1)).countP (fun c => U c && decide (many c = j))
theorem cntW_yes {U : Nat → Bool} {x : Fin 64} (pre : List (Fin 64)) (h : U x.1 = true) : cntW U (pre ++ [x]) = fun i => if i = many x.1 then cntW U pre i + 1 else cntW U pre i := by
  funext i
  unfold cntW
  rw [List.map_append, List.countP_append]
  by_cases e : i = many x.1
  · subst e; simp [h]
  · have e2 : ¬ many x.1 = i := fun k => e k.symm
    simp [h, e, e2]
theorem cntW_no {U : Nat → Bool} {x : Fin 64} (pre : List (Fin 64)) (h : U x.1 = false) : cntW U (pre ++ [x]) = cntW U pre := by
  funext i
  unfold cntW
  rw [List.map_append, List.countP_append]
  simp [h]
theorem cntW_le (U : Nat → Bool) (pre : List (Fin 64)) (j : Nat) : cntW U pre j ≤ pre.length := by
  unfold cntW; exact Nat.le_trans List.countP_le_length (by simp)
theorem many_le {c : Nat} (hc : c < 64) : many c < 7 := by
  have key : ∀ c < 64, many c < 7 := by decide +kernel
  exact key c hc
/-- an array of seven numbers in a block of its own -/
def Arr (W : World) (b : Nat) (v : Nat → Nat) : Prop :=
  W.heap[b]? = some (.cells #[.int .i64 (v 0 : Nat), .int .i64 (v 1 : Nat), .int .i64 (v 2 : Nat), .int .i64 (v 3 : Nat), .int .i64 (v 4 : Nat), .int .i64 (v 5 : Nat), .int .i64 (v 6 : Nat)] 82 (0, 0))
theorem Arr.lt {W : World} {b : Nat} {v : Nat → Nat} (h : Arr W b v) : b < W.heap.size := (Array.getElem?_eq_some_iff.1 h).1
theorem seven {j : Nat} (h : j < 7) : j = 0 ∨ j = 1 ∨ j = 2 ∨ j = 3 ∨ j = 4 ∨ j = 5 ∨ j = 6 := by omega
theorem Arr.cell {W : World} {b : Nat} {v : Nat → Nat} (h : Arr W b v) {j : Nat} (hj : j < 7) : W.cell? ⟨b, j, none⟩ = some (.int .i64 (v j : Nat)) := by
  rcases seven hj with rfl | rfl | rfl | rfl | rfl | rfl | rfl <;> simp [World.cell?, show W.heap[b]? = _ from h]
theorem Arr.frozen {W : World} {b : Nat} {v : Nat → Nat} (h : Arr W b v) (j : Nat) : W.frozen? ⟨b, j, none⟩ = false := by
  simp [World.frozen?, show W.heap[b]? = _ from h]
theorem Arr.kept {W W' : World} {b : Nat} {v : Nat → Nat} {row : Option Nat} (h : Arr W b v) (hg : W.grownBy W' row) (hne : some b ≠ row) : Arr W' b v := (hg.block b h.lt hne).trans h
theorem Arr.set {W : World} {b : Nat} {v : Nat → Nat} (h : Arr W b v) {j : Nat} (hj : j < 7) : Arr (W.setCell ⟨b, j, none⟩ (.int .i64 ((v j + 1 : Nat) : Int))) b (fun i => if i = j then v i + 1 else v i) := by
  obtain ⟨hlt, hk⟩ := Array.getElem?_eq_some_iff.1 h
  show (W.heap.modify b _)[b]? = _
  rw [Array.getElem?_eq_getElem (by rw [Array.size_modify]; exact hlt), Array.getElem_modify_self, hk]
  rcases seven hj with rfl | rfl | rfl | rfl | rfl | rfl | rfl <;> rfl
theorem Arr.put {W : World} {b : Nat} {v : Nat → Nat} (h : Arr W b v) {j : Nat} (hj : j < 7) (y : Nat) : Arr (W.setCell ⟨b, j, none⟩ (.int .i64 (y : Nat))) b (fun i => if i = j then y else v i) := by
  obtain ⟨hlt, hk⟩ := Array.getElem?_eq_some_iff.1 h
  show (W.heap.modify b _)[b]? = _
  rw [Array.getElem?_eq_getElem (by rw [Array.size_modify]; exact hlt), Array.getElem_modify_self, hk]
  rcases seven hj with rfl | rfl | rfl | rfl | rfl | rfl | rfl <;> rfl
theorem Arr.congr {W : World} {b : Nat} {v u : Nat → Nat} (h : Arr W b v) (h0 : v 0 = u 0) (h1 : v 1 = u 1) (h2 : v 2 = u 2) (h3 : v 3 = u 3) (h4 : v 4 = u 4) (h5 : v 5 = u 5) (h6 : v 6 = u 6) : Arr W b u := by
  unfold Arr at h ⊢
  rw [h, h0, h1, h2, h3, h4, h5, h6]
theorem Arr.load {W : World} {b : Nat} {v : Nat → Nat} (h : Arr W b v) : (loadVar 82 ⟨b, 0, none⟩).run Try.prog W = .ok (.agg #[.int .i64 (v 0 : Nat), .int .i64 (v 1 : Nat), .int .i64 (v 2 : Nat), .int .i64 (v 3 : Nat), .int .i64 (v 4 : Nat), .int .i64 (v 5 : Nat), .int .i64 (v 6 : Nat)]) W := by
  have h0 := h.cell (j := 0) (by decide)
  have h1 := h.cell (j := 1) (by decide)
  have h2 := h.cell (j := 2) (by decide)
  have h3 := h.cell (j := 3) (by decide)
  have h4 := h.cell (j := 4) (by decide)
  have h5 := h.cell (j := 5) (by decide)
  have h6 := h.cell (j := 6) (by decide)
  simp [go_sem, h0, h1, h2, h3, h4, h5, h6]
theorem Arr.other {W : World} {b b' : Nat} {v : Nat → Nat} (h : Arr W b v) (hne : b ≠ b') (j : Nat) (u : Value) : Arr (W.setCell ⟨b', j, none⟩ u) b v := (Below.heap_setCell _ _ _ b hne).trans h
theorem arr_own {β : Type} (b : Nat) (f : β → Nat → Nat) : Go.Own (fun s W => Arr W b (f s)) := fun s X Y row hs hg hrow =>
  hs.kept hg (fun e' => by obtain ⟨o, ho, hc⟩ := hrow b e'.symm; rw [show X.heap[b]? = _ from hs] at ho; cases ho; cases hc)
theorem Arr.drew {W : World} {b : Nat} {v : Nat → Nat} (h : Arr W b v) : Arr W.drew b v := h
theorem drew_heap {W : World} {k : Nat} {o : Obj} (h : W.heap[k]? = some o) : W.drew.heap[k]? = some o := h
theorem arr_same {W W' : World} {b : Nat} {v : Nat → Nat} (h : W'.heap[b]? = W.heap[b]?) (k : Arr W b v) : Arr W' b v := h.trans k
def fill (W : World) (b : Nat) (v : Nat → Nat) : World :=
  ((((((W.setCell ⟨b, 0, none⟩ (.int .i64 (v 0 : Nat))).setCell ⟨b, 1, none⟩ (.int .i64 (v 1 : Nat))).setCell ⟨b, 2, none⟩ (.int .i64 (v 2 : Nat))).setCell ⟨b, 3, none⟩ (.int .i64 (v 3 : Nat))).setCell ⟨b, 4, none⟩ (.int .i64 (v 4 : Nat))).setCell ⟨b, 5, none⟩ (.int .i64 (v 5 : Nat))).setCell ⟨b, 6, none⟩ (.int .i64 (v 6 : Nat))
theorem fill_arr {W : World} {b : Nat} {u : Nat → Nat} (h : Arr W b u) (v : Nat → Nat) : Arr (fill W b v) b v := by
  have h0 := h.put (j := 0) (by decide) (v 0)
  have h1 := h0.put (j := 1) (by decide) (v 1)
  have h2 := h1.put (j := 2) (by decide) (v 2)
  have h3 := h2.put (j := 3) (by decide) (v 3)
  have h4 := h3.put (j := 4) (by decide) (v 4)
  have h5 := h4.put (j := 5) (by decide) (v 5)
  have h6 := h5.put (j := 6) (by decide) (v 6)
  exact Arr.congr h6 (by simp) (by simp) (by simp) (by simp) (by simp) (by simp) (by simp)
theorem fill_heap (W : World) (b : Nat) (v : Nat → Nat) (k : Nat) (hk : k ≠ b) : (fill W b v).heap[k]? = W.heap[k]? := by
  unfold fill
  rw [Below.heap_setCell _ _ _ k hk, Below.heap_setCell _ _ _ k hk, Below.heap_setCell _ _ _ k hk, Below.heap_setCell _ _ _ k hk, Below.heap_setCell _ _ _ k hk, Below.heap_setCell _ _ _ k hk, Below.heap_setCell _ _ _ k hk]
theorem fill_below {s : Nat} {W : World} {b : Nat} (v : Nat → Nat) (hb : s ≤ b) : Below s W (fill W b v) :=
  ((((((((Below.refl s W).setCell (p := ⟨b, 0, none⟩) hb _).setCell (p := ⟨b, 1, none⟩) hb _).setCell (p := ⟨b, 2, none⟩) hb _).setCell (p := ⟨b, 3, none⟩) hb _).setCell (p := ⟨b, 4, none⟩) hb _).setCell (p := ⟨b, 5, none⟩) hb _).setCell (p := ⟨b, 6, none⟩) hb _)
theorem many_is {c m : Nat} {w : World} (hc : c < 64) (hm : many c = m) :
    Calls Try.prog 102 #[.int .u64 (c : Nat)] w fun e w' => e = .returned (.int .i64 (m : Nat)) ∧ w = w' := by
  rw [← hm]; exact many_any hc

def aggOf (v : Nat → Nat) : Value := .agg #[.int .i64 (v 0 : Nat), .int .i64 (v 1 : Nat), .int .i64 (v 2 : Nat), .int .i64 (v 3 : Nat), .int .i64 (v 4 : Nat), .int .i64 (v 5 : Nat), .int .i64 (v 6 : Nat)]
set_option maxRecDepth 100000 in
set_option maxHeartbeats 4000000 in
theorem tally_any {a : Option Addr} {n cp c : Nat} {q : List Nat} {w : World} (h : Crs w a n q) (hq : ∀ x ∈ q, x < 64) (hc : c < 64) :
    Calls Try.prog 67 #[.slice a n cp, .int .u64 (c : Nat)] w fun e w' => e = .returned (.tuple #[aggOf (cntW (up q) (subs c (c + 1))), aggOf (cntW (fun x => !up q x) (subs c (c + 1)))]) ∧ Ext none w w' := by
  have H := Lib.hid h
  have HQ := Lib.hid hq
  clear h hq
  refine (callsIn_wide (n := 5)).1 ?_
  refine callsIn_of_wp_marks Try.func67 rfl trivial ?_ rfl
  simp only [Try.ntmps67, List.size_toArray, List.length_cons, List.length_nil, Nat.reduceAdd, Nat.reduceSub, Array.replicate_succ, Array.replicate_zero, List.push_toArray, List.append_toArray, List.nil_append, List.cons_append]
  gi_wp2_with (refine ⟨trivial, ?_⟩; gi_at_call 97; refine (callsIn_wide.2 subsets_any).mono ?_; rintro e w' ⟨rfl, rfl⟩)
  obtain ⟨s, hs⟩ : ∃ s, s = w.heap.size := ⟨_, rfl⟩
  have hsw : s ≤ w.heap.size := Nat.le_of_eq hs
  have hsw2 : w.heap.size ≤ s := Nat.le_of_eq hs.symm
  obtain ⟨wa, hwa⟩ : ∃ x, x = w.alloc (.cells #[.slice a n cp] 65) := ⟨_, rfl⟩
  obtain ⟨wb, hwb⟩ : ∃ x, x = wa.alloc (.cells #[.int .i64 0, .int .i64 0, .int .i64 0, .int .i64 0, .int .i64 0, .int .i64 0, .int .i64 0] 82) := ⟨_, rfl⟩
  obtain ⟨wc, hwc⟩ : ∃ x, x = wb.alloc (.cells #[.int .i64 0, .int .i64 0, .int .i64 0, .int .i64 0, .int .i64 0, .int .i64 0, .int .i64 0] 82) := ⟨_, rfl⟩
  obtain ⟨wd, hwd⟩ : ∃ x, x = wc.alloc (.cells #[.int .i64 0, .int .i64 0, .int .i64 0, .int .i64 0, .int .i64 0, .int .i64 0, .int .i64 0] 82) := ⟨_, rfl⟩
  obtain ⟨we, hwe⟩ : ∃ x, x = wd.alloc (.cells #[.int .i64 0, .int .i64 0, .int .i64 0, .int .i64 0, .int .i64 0, .int .i64 0, .int .i64 0] 82) := ⟨_, rfl⟩
  obtain ⟨w1, hw1⟩ : ∃ x, x = we.alloc (.cells #[.int .u64 (c : Nat)] 68) := ⟨_, rfl⟩
  rw [← hwa, ← hwb, ← hwc, ← hwd, ← hwe, ← hw1, ← hs]
  have za : wa.heap.size = s + 1 := by rw [hwa, hs]; simp
  have zb : wb.heap.size = s + 1 + 1 := by rw [hwb, World.size_alloc, za]
  have zc : wc.heap.size = s + 1 + 1 + 1 := by rw [hwc, World.size_alloc, zb]
  have zd : wd.heap.size = s + 1 + 1 + 1 + 1 := by rw [hwd, World.size_alloc, zc]
  have ze : we.heap.size = s + 1 + 1 + 1 + 1 + 1 := by rw [hwe, World.size_alloc, zd]
  have hsz : w1.heap.size = s + 1 + 1 + 1 + 1 + 1 + 1 := by rw [hw1, World.size_alloc, ze]
  have xb : Ext none wb w1 := by rw [hw1, hwe, hwd, hwc]; exact ((((Ext.refl _ _).alloc _).alloc _).alloc _).alloc _
  have xc : Ext none wc w1 := by rw [hw1, hwe, hwd]; exact (((Ext.refl _ _).alloc _).alloc _).alloc _
  have xd : Ext none wd w1 := by rw [hw1, hwe]; exact ((Ext.refl _ _).alloc _).alloc _
  have xe : Ext none we w1 := by rw [hw1]; exact (Ext.refl _ _).alloc _
  have bQ : Boxed w1 s 65 (.slice a n cp) := by
    have h0 := Boxed.new w 65 (.slice a n cp)
    rw [← hwa, ← hs] at h0
    have x0 : Ext none wa w1 := by rw [hw1, hwe, hwd, hwc, hwb]; exact (((((Ext.refl _ _).alloc _).alloc _).alloc _).alloc _).alloc _
    exact h0.kept x0 (by simp)
  have b1 : Arr w1 (s + 1) (fun _ => 0) := by
    have h0 : Arr wb wa.heap.size (fun _ => 0) := by rw [hwb]; exact heap_alloc_new wa _
    rw [za] at h0; exact h0.kept xb (by simp)
  have b2 : Arr w1 (s + 1 + 1) (fun _ => 0) := by
    have h0 : Arr wc wb.heap.size (fun _ => 0) := by rw [hwc]; exact heap_alloc_new wb _
    rw [zb] at h0; exact h0.kept xc (by simp)
  have b3 : Arr w1 (s + 1 + 1 + 1) (fun _ => 0) := by
    have h0 : Arr wd wc.heap.size (fun _ => 0) := by rw [hwd]; exact heap_alloc_new wc _
    rw [zc] at h0; exact h0.kept xd (by simp)
  have b4 : Arr w1 (s + 1 + 1 + 1 + 1) (fun _ => 0) := by
    have h0 : Arr we wd.heap.size (fun _ => 0) := by rw [hwe]; exact heap_alloc_new wd _
    rw [zd] at h0; exact h0.kept xe (by simp)
  have bC : w1.heap[s + 1 + 1 + 1 + 1 + 1]? = some (.cells #[.int .u64 (c : Nat)] 68 (0, 0)) := by
    rw [hw1, ← ze]; exact heap_alloc_new we _
  have hX0 : Ext none w w1 := by rw [hw1, hwe, hwd, hwc, hwb, hwa]; exact ((((((Ext.refl _ _).alloc _).alloc _).alloc _).alloc _).alloc _).alloc _
  clear hwa hwb hwc hwd hwe hw1 za zb zc zd ze xb xc xd xe
  have HS := Lib.hid hs
  clear hs
  refine wpIn_rangeFunc_ownG rfl (by omega) (gf := 115) (lb := #[.pointer (some ⟨s + 1 + 1 + 1 + 1 + 1, 0, none⟩)]) rfl trivial (enters_of Try.func115 (by kernel_rfl) rfl)
    (subs_stops (5 - 1) (by omega) (s + 1 + 1 + 1 + 1 + 1) c hc w1 bC) Kb_t (Kb_b (by omega)) (Below.refl _ _) (fun _ => rfl)
    (fun pre W => (Arr W (s + 1 + 1 + 1) (cntW (up q) pre) ∧ Arr W (s + 1 + 1 + 1 + 1) (cntW (fun x => !up q x) pre)) ∧ (Boxed W s 65 (.slice a n cp) ∧ ((Arr W (s + 1) (fun _ => 0) ∧ Arr W (s + 1 + 1) (fun _ => 0)) ∧ Below (s + 1 + 1 + 1) w1 W)))
    (fun _ _ _ => False)
    (OwnFrom.and (OwnFrom.and (Own.from (arr_own _ _) _) (Own.from (arr_own _ _) _)) (OwnFrom.and (Own.from (boxed_own s 65 (fun _ => .slice a n cp)) _) (OwnFrom.and (OwnFrom.and (Own.from (arr_own _ _) _) (Own.from (arr_own _ _) _)) (ownFrom_below (by omega) (by omega)))))
    (fun _ _ _ _ _ hs _ _ => hs)
    ⟨⟨b3, b4⟩, bQ, ⟨b1, b2⟩, Below.refl _ _⟩
    (fun x => { tmps := #[.slice a n cp, .int .u64 (c : Nat), .pointer (some ⟨s, 0, none⟩), undef, .pointer (some ⟨s + 1, 0, none⟩), .pointer (some ⟨s + 1 + 1, 0, none⟩), .pointer (some ⟨s + 1 + 1 + 1, 0, none⟩), .pointer (some ⟨s + 1 + 1 + 1 + 1, 0, none⟩), .int .u64 (x.1 : Nat), .int .u64 (c : Nat), .func (.func 115) #[] #[.pointer (some ⟨s + 1 + 1 + 1 + 1 + 1, 0, none⟩)], .int .u64 (x.1 : Nat), undef, undef, undef, undef, undef, undef, undef, undef, undef, undef, undef, undef, undef, undef, undef, undef, undef], defers := [] }) ?assign ?body ?done ?stop
  case assign =>
    intro l x W K hK
    gi_wp2
    exact hK
  case body =>
    rintro l pre x W ⟨⟨h3, h4⟩, hF, ⟨h1, h2⟩, hB⟩ hlt
    have hcF := hF.cell
    have hsW := hB.size
    have hx64 := x.2
    have hE : Ext none w W := ext_of_below (by rw [← HS.out]; exact (hX0.below.mono hsw).trans (hB.mono (by omega)))
    have hCr := H.out.ext hE
    obtain ⟨m, hm⟩ : ∃ m, many x.1 = m := ⟨_, rfl⟩
    have hm7 : m < 7 := by rw [← hm]; exact many_le hx64
    have hm7I : (m : Int) < 7 := by omega
    have hm0I : ¬ (m : Int) < 0 := by omega
    have HM := Lib.hid hm
    have hle3 := cntW_le (up q) pre m
    have hle4 := cntW_le (fun x => !up q x) pre m
    have hc3 := h3.cell hm7
    have hc4 := h4.cell hm7
    have hf3 := h3.frozen m
    have hf4 := h4.frozen m
    have H3 := Lib.hid h3
    have H4 := Lib.hid h4
    have HF := Lib.hid hF
    clear hm h3 h4 hF hE
    cases hU : up q x.1
    · have hb0 : True := trivial
      gi_wp2_with (first
        | (refine ⟨trivial, ?_⟩; gi_at_call 59; refine (CallsIn.inRound l (callsIn_wide.2 (reached_is hCr HQ.out hx64 hU))).mono ?_; rintro e w2 ⟨rfl, rfl⟩)
        | (refine ⟨trivial, ?_⟩; gi_at_call 102; refine (CallsIn.inRound l (callsIn_wide.2 (many_is hx64 HM.out))).mono ?_; rintro e w2 ⟨rfl, rfl⟩))
      exact ⟨(KeepsOthers.setCell _ _ _).from _, Below.heap_setCell _ _ _ _ (by simp <;> omega), ⟨by rw [cntW_no pre hU]; exact H3.out.other (by omega) _ _, by
        rw [cntW_yes (U := fun x => !up q x) pre (by show (!up q x.1) = true; rw [hU]; rfl), HM.out]; exact H4.out.set hm7⟩, HF.out.kept (grownBy_setCellJ _ _ _ _) (by simp; omega), ⟨h1.other (by omega) _ _, h2.other (by omega) _ _⟩, hB.setCell (by simp <;> omega) _⟩
    · have hb1 : True := trivial
      gi_wp2_with (first
        | (refine ⟨trivial, ?_⟩; gi_at_call 59; refine (CallsIn.inRound l (callsIn_wide.2 (reached_is hCr HQ.out hx64 hU))).mono ?_; rintro e w2 ⟨rfl, rfl⟩)
        | (refine ⟨trivial, ?_⟩; gi_at_call 102; refine (CallsIn.inRound l (callsIn_wide.2 (many_is hx64 HM.out))).mono ?_; rintro e w2 ⟨rfl, rfl⟩))
      exact ⟨(KeepsOthers.setCell _ _ _).from _, Below.heap_setCell _ _ _ _ (by simp <;> omega), ⟨by
        rw [cntW_yes pre hU, HM.out]; exact H3.out.set hm7, by rw [cntW_no (U := fun x => !up q x) pre (by show (!up q x.1) = false; rw [hU]; rfl)]; exact H4.out.other (by omega) _ _⟩, HF.out.kept (grownBy_setCellJ _ _ _ _) (by simp; omega), ⟨h1.other (by omega) _ _, h2.other (by omega) _ _⟩, hB.setCell (by simp <;> omega) _⟩
  case done =>
    rintro D ys W hD rfl ⟨⟨h3, h4⟩, hF, ⟨h1, h2⟩, hB⟩ hK
    obtain ⟨v3, hv3⟩ : ∃ v, v = cntW (up q) (subs c (c + 1)) := ⟨_, rfl⟩
    obtain ⟨v4, hv4⟩ : ∃ v, v = cntW (fun x => !up q x) (subs c (c + 1)) := ⟨_, rfl⟩
    rw [← hv3] at h3
    rw [← hv4] at h4
    have HV3 := Lib.hid hv3
    have HV4 := Lib.hid hv4
    have HK := Lib.hid hK
    have HB := Lib.hid hB
    clear hv3 hv4 hF hK hB
    have c30 := h3.cell (j := 0) (by decide)
    have c31 := h3.cell (j := 1) (by decide)
    have c32 := h3.cell (j := 2) (by decide)
    have c33 := h3.cell (j := 3) (by decide)
    have c34 := h3.cell (j := 4) (by decide)
    have c35 := h3.cell (j := 5) (by decide)
    have c36 := h3.cell (j := 6) (by decide)
    have c40 := h4.cell (j := 0) (by decide)
    have c41 := h4.cell (j := 1) (by decide)
    have c42 := h4.cell (j := 2) (by decide)
    have c43 := h4.cell (j := 3) (by decide)
    have c44 := h4.cell (j := 4) (by decide)
    have c45 := h4.cell (j := 5) (by decide)
    have c46 := h4.cell (j := 6) (by decide)
    have d10 := h1.cell (j := 0) (by decide)
    have f10 := h1.frozen 0
    have d11 := h1.cell (j := 1) (by decide)
    have f11 := h1.frozen 1
    have d12 := h1.cell (j := 2) (by decide)
    have f12 := h1.frozen 2
    have d13 := h1.cell (j := 3) (by decide)
    have f13 := h1.frozen 3
    have d14 := h1.cell (j := 4) (by decide)
    have f14 := h1.frozen 4
    have d15 := h1.cell (j := 5) (by decide)
    have f15 := h1.frozen 5
    have d16 := h1.cell (j := 6) (by decide)
    have f16 := h1.frozen 6
    have d20 := h2.cell (j := 0) (by decide)
    have f20 := h2.frozen 0
    have d21 := h2.cell (j := 1) (by decide)
    have f21 := h2.frozen 1
    have d22 := h2.cell (j := 2) (by decide)
    have f22 := h2.frozen 2
    have d23 := h2.cell (j := 3) (by decide)
    have f23 := h2.frozen 3
    have d24 := h2.cell (j := 4) (by decide)
    have f24 := h2.frozen 4
    have d25 := h2.cell (j := 5) (by decide)
    have f25 := h2.frozen 5
    have d26 := h2.cell (j := 6) (by decide)
    have f26 := h2.frozen 6
    gi_wp2
    gi_region
    generalize hW2 : World.drew _ = W2
    have hW3 : (fill (fill W (s + 1) v3) (s + 1 + 1) v4).drew = W2 := by unfold fill; with_reducible exact hW2
    clear hW2
    obtain ⟨Wf, hWf⟩ : ∃ x, x = fill W (s + 1) v3 := ⟨_, rfl⟩
    obtain ⟨Wg, hWg⟩ : ∃ x, x = fill Wf (s + 1 + 1) v4 := ⟨_, rfl⟩
    rw [← hWf, ← hWg] at hW3
    have a1 : Arr Wf (s + 1) v3 := by rw [hWf]; exact fill_arr h1 v3
    have a2 : Arr Wf (s + 1 + 1) (fun _ => 0) := by rw [hWf]; exact arr_same (fill_heap W (s + 1) v3 (s + 1 + 1) (by omega)) h2
    have a3 : Arr Wg (s + 1) v3 := by rw [hWg]; exact arr_same (fill_heap Wf (s + 1 + 1) v4 (s + 1) (by omega)) a1
    have a4 : Arr Wg (s + 1 + 1) v4 := by rw [hWg]; exact fill_arr a2 v4
    have q1 : Below s W Wf := by rw [hWf]; exact fill_below v3 (by omega)
    have q2 : Below s Wf Wg := by rw [hWg]; exact fill_below v4 (by omega)
    have k1 : Wf.heap[D]? = some (.deferred (some [])) := by rw [hWf, fill_heap W (s + 1) v3 D (by omega)]; exact HK.out
    have k2 : Wg.heap[D]? = some (.deferred (some [])) := by rw [hWg, fill_heap Wf (s + 1 + 1) v4 D (by omega)]; exact k1
    have A1 : Arr W2 (s + 1) v3 := by rw [← hW3]; exact a3.drew
    have A2 : Arr W2 (s + 1 + 1) v4 := by rw [← hW3]; exact a4.drew
    have HB2 : Below s W W2 := by rw [← hW3]; exact (q1.trans q2).drew
    have HK2 : W2.heap[D]? = some (.deferred (some [])) := by rw [← hW3]; exact drew_heap k2
    clear hWf hWg a1 a2 a3 a4 q1 q2 k1 k2
    clear hW3 h1 h2 h3 h4
    have hDs : s + 1 + 1 < D := by omega
    gi_wp2
    refine ⟨by simp, .inl ⟨_, _, rfl, run_takeDeferred HK2, ?_⟩⟩
    have A3 : Arr (W2.putObj D (.deferred none)) (s + 1) v3 := arr_same (World.putObj_heap_other (by omega)) A1
    have A4 : Arr (W2.putObj D (.deferred none)) (s + 1 + 1) v4 := arr_same (World.putObj_heap_other (by omega)) A2
    refine ⟨.tuple #[aggOf v3, aggOf v4], ?_, ?_⟩
    · skip
      have m30 := A3.cell (j := 0) (by decide)
      have m31 := A3.cell (j := 1) (by decide)
      have m32 := A3.cell (j := 2) (by decide)
      have m33 := A3.cell (j := 3) (by decide)
      have m34 := A3.cell (j := 4) (by decide)
      have m35 := A3.cell (j := 5) (by decide)
      have m36 := A3.cell (j := 6) (by decide)
      have m40 := A4.cell (j := 0) (by decide)
      have m41 := A4.cell (j := 1) (by decide)
      have m42 := A4.cell (j := 2) (by decide)
      have m43 := A4.cell (j := 3) (by decide)
      have m44 := A4.cell (j := 4) (by decide)
      have m45 := A4.cell (j := 5) (by decide)
      have m46 := A4.cell (j := 6) (by decide)
      simp [results, go_sem, aggOf, m30, m31, m32, m33, m34, m35, m36, m40, m41, m42, m43, m44, m45, m46]
    · have hE2 : Ext none w W2 := ext_of_below (by rw [← HS.out]; exact ((hX0.below.mono hsw).trans (HB.out.mono (by omega))).trans HB2)
      exact ⟨by rw [HV3.out, HV4.out], hE2.grown (grownBy_putObj' W2 D _) (fun k e => .inl (by cases e; omega))⟩
  case stop =>
    rintro D c pre W _ _ h _
    exact h.elim
end Go.Proofs.Ytjjjpakgnipghaa
