/- The quorum systems of package impl that a test gives: minimalWhere. Conditions: each lemma's own. -/
import Derived.Test.YtjjjpakgnipghaaDoorRA
import Derived.Test.YtjjjpakgnipghaaDoorPH
import Derived.Test.YtjjjpakgnipghaaDoorPQ
namespace Go.Proofs.YtjjjpakgnipghaaDoor
open Go.RowKit Go.Shelf
set_option linter.unusedVariables false
attribute [local go_sem] Oper.semAt_some

def flt (U : Nat → Bool) (pre : List (Fin 64)) : List Nat := (pre.map (·.1)).filter U
theorem flt_snoc (U : Nat → Bool) (pre : List (Fin 64)) (x : Fin 64) : flt U (pre ++ [x]) = if U x.1 then flt U pre ++ [x.1] else flt U pre := by
  unfold flt; rw [List.map_append, List.filter_append]
  cases h : U x.1 <;> simp [h]
theorem flt_len (U : Nat → Bool) (pre : List (Fin 64)) : (flt U pre).length ≤ pre.length := by
  unfold flt; exact Nat.le_trans (List.length_filter_le _ _) (by simp)
theorem flt_all (U : Nat → Bool) : flt U (subs 63 (63 + 1)) = fltrTo U 64 := by
  unfold flt
  rw [subs_full 63 (by decide)]
  unfold fltrTo
  rw [List.filter_filter]
  refine List.filter_congr fun x hx => ?_
  rw [sub_full x (List.mem_range.1 hx), Bool.and_true]
theorem ext_of_below {w W : World} (h : Below w.heap.size w W) : Ext none w W := ⟨h.os, h.tape, h.output, h.size, fun k hk _ => h.block k hk⟩
theorem row_slice {W : World} {base e size k : Nat} {v : Value} {xs : List Value} (h : W.ownsRow base e size v k xs) : ∃ a c, v = .slice a k c := by
  rcases h.2 with ⟨rfl, rfl⟩ | ⟨g, cap, _, rfl, _⟩
  · exact ⟨_, _, rfl⟩
  · exact ⟨_, _, rfl⟩
/-- a box keeps a slice whose row lies above it; one value is appended -/
theorem boxApp {W w1 : World} {n₀ B : Nat} {t e : TypeId} {size : Nat} {v v' : Value} {k m : Nat} {xs ys : List Value} {tmp : Obj}
    (hv : Boxed W B t v) (hrow : W.ownsRow n₀ e size v k xs) (hBn : B < n₀) (hn₀ : n₀ ≤ W.heap.size)
    (hown' : w1.ownsRow n₀ e size v' m ys) (hgrow : (W.alloc tmp).grownBy w1 v.ownBlock) :
    Boxed w1 B t v ∧ Boxed (w1.setCell ⟨B, 0, none⟩ v') B t v' ∧ (w1.setCell ⟨B, 0, none⟩ v').ownsRow n₀ e size v' m ys ∧ KeepsOthers W (w1.setCell ⟨B, 0, none⟩ v') ∧ Below B W (w1.setCell ⟨B, 0, none⟩ v') ∧
      ∀ j, j < n₀ → j ≠ B → (w1.setCell ⟨B, 0, none⟩ v').heap[j]? = W.heap[j]? := by
  have hne : some B ≠ v.ownBlock := fun e' => by have := (hrow.lt B e'.symm).1; omega
  have hne' : v'.ownBlock ≠ some B := fun e' => by have := (hown'.lt B e').1; omega
  have hv1 : Boxed w1 B t v := (hv.alloc tmp).kept hgrow hne
  have hlow : ∀ j, j < n₀ → w1.heap[j]? = W.heap[j]? := fun j hj => by
    refine (hgrow.block j (by rw [World.size_alloc]; omega) fun e' => ?_).trans (Below.heap_alloc W tmp j (by omega))
    have := (hrow.lt j e'.symm).1; omega
  refine ⟨hv1, hv1.set v', hown'.kept (grownBy_setCell' w1 B v') (.inr hne'), ?_, ?_, fun j hj hjB => (Below.heap_setCell _ _ _ j hjB).trans (hlow j hj)⟩
  · refine ((KeepsOthers.alloc W tmp).trans (KeepsOthers.of_grownBy hgrow fun j o ej hj => ?_)).trans (KeepsOthers.setCell _ _ _)
    rcases (hrow.alloc tmp).2 with ⟨rfl, _⟩ | ⟨g, cap, cur, rfl, _, hgb, _⟩
    · simp [Value.ownBlock] at ej
    · obtain rfl : g = j := by simpa [Value.ownBlock] using ej
      rw [hgb] at hj; cases hj; rfl
  · have hs := hgrow.size
    rw [World.size_alloc] at hs
    exact ⟨hgrow.os, hgrow.tape, hgrow.output, by show W.heap.size ≤ (w1.heap.modify B _).size; rw [Array.size_modify]; omega, fun j hj => (Below.heap_setCell _ _ _ j (by simp; omega)).trans (hlow j (by omega))⟩
def encC (q : List Nat) : List Value := q.map (fun c => Value.int .u64 (c : Nat))
theorem encC_snoc (q : List Nat) (x : Nat) : encC (q ++ [x]) = encC q ++ [.int .u64 (x : Nat)] := by simp [encC]
theorem dr_kb {b : Nat} {W W' : World} (h : Ext none W W') (hb : b < W.heap.size) : Kb b W W' := World.grownBy.block h b hb (by simp)
theorem dr_row {W W' : World} {base e size k : Nat} {v : Value} {xs : List Value} (hr : W.ownsRow base e size v k xs) (h : Ext none W W') : W'.ownsRow base e size v k xs := by
  refine World.ownsRow.kept hr h ?_
  cases v.ownBlock
  · exact .inl rfl
  · exact .inr (by simp)
theorem dr_others {W W' : World} (h : Ext none W W') : KeepsOthers W W' := KeepsOthers.of_grownBy h (fun j o e => by cases e)

set_option maxRecDepth 100000 in
set_option maxHeartbeats 4000000 in
theorem minWhereFamilyOfExpr_any {p1 : Addr} {U : Nat → Bool} {w : World}
    (ht : ∀ x : Nat, x < 64 → ∀ W, Ext none w W → Calls Tryd.prog 50 #[.int .u64 (x : Nat), .pointer (some p1)] W fun e W' => e = .returned (.bool (U x)) ∧ Ext none W W') :
    Calls Tryd.prog 47 #[.func (.func 50) #[] #[.pointer (some p1)]] w fun e w' => ∃ a n c, e = .returned (.slice a n c) ∧ OwnC w' w.heap.size a n c (minOf U) ∧ Ext none w w' := by
  have HT := Lib.hid ht
  clear ht
  obtain ⟨i0, hi, hz0, hz1, hz2⟩ := info_parts crewInfo
  refine (callsIn_wide (n := 5)).1 ?_
  refine callsIn_of_wp_marks Tryd.func47 rfl trivial ?_ rfl
  simp only [Tryd.ntmps47, List.size_toArray, List.length_cons, List.length_nil, Nat.reduceAdd, Nat.reduceSub, Array.replicate_succ, Array.replicate_zero, List.push_toArray, List.append_toArray, List.nil_append, List.cons_append]
  gi_wp2_with (refine ⟨trivial, ?_⟩; gi_at_call 58; refine (callsIn_wide.2 subsets_any).mono ?_; rintro e w' ⟨rfl, rfl⟩)
  obtain ⟨s, hs⟩ : ∃ s, s = w.heap.size := ⟨_, rfl⟩
  obtain ⟨FV, hFV⟩ : ∃ v : Value, v = .func (.func 50) #[] #[.pointer (some p1)] := ⟨_, rfl⟩
  obtain ⟨w1, hw1⟩ : ∃ x, x = (((w.alloc (.cells #[FV] 81)).alloc (.cells #[.slice none 0 0] 78)).alloc (.cells #[.int .u64 63] 62)) := ⟨_, rfl⟩
  have bF : Boxed w1 s 81 FV := by rw [hw1, hs]; exact ((Boxed.new w _ _).alloc _).alloc _
  have bS : Boxed w1 (s + 1) 78 (.slice none 0 0) := by
    rw [hw1, hs]
    have := Boxed.new (w.alloc (.cells #[FV] 81)) 78 (.slice none 0 0)
    rw [World.size_alloc] at this
    exact this.alloc _
  have bC : w1.heap[s + 1 + 1]? = some (.cells #[.int .u64 ((63 : Nat) : Int)] 62 (0, 0)) := by
    rw [hw1, hs]
    have := Boxed.new ((w.alloc (.cells #[FV] 81)).alloc (.cells #[.slice none 0 0] 78)) 62 (.int .u64 63)
    rw [World.size_alloc, World.size_alloc] at this
    exact this
  have hB0 : Below s w w1 := by
    rw [hw1, hs]; exact (((Below.refl _ w).alloc (Nat.le_refl _) _).alloc (by simp) _).alloc (by simp; omega) _
  have hsz : w1.heap.size = s + 3 := by rw [hw1, hs]; simp
  rw [← hFV, ← hw1, ← hs]
  have HFV := Lib.hid hFV
  have HS := Lib.hid hs
  have hsw : s ≤ w.heap.size := Nat.le_of_eq hs
  have hsw2 : w.heap.size ≤ s := Nat.le_of_eq hs.symm
  clear hw1 hFV hs
  refine wpIn_rangeFunc_ownG rfl (by omega) (gf := 67) (lb := #[.pointer (some ⟨s + 1 + 1, 0, none⟩)]) rfl trivial (enters_of Tryd.func67 (by kernel_rfl) rfl)
    (subs_stops (5 - 1) (by omega) (s + 1 + 1) 63 (by decide) w1 bC) Kb_t (Kb_b (by omega)) (Below.refl _ _) (fun _ => rfl)
    (fun pre W => (∃ v, Boxed W (s + 1) 78 v ∧ W.ownsRow (s + 3) 62 1 v (flt U pre).length (encC (flt U pre)) ∧ True) ∧ (Boxed W s 81 FV ∧ Below s w1 W))
    (fun _ _ _ => False)
    (OwnFrom.and (Own.from (holdsRow_own (s + 3) (s + 1) 78 62 1 (fun pre => (flt U pre).length) (fun pre => encC (flt U pre)) (fun _ _ => True)) _) (OwnFrom.and (Own.from (boxed_own s 81 (fun _ => FV)) _) (ownFrom_below (by omega) (by omega))))
    (fun _ _ _ _ _ hs _ _ => hs)
    ⟨⟨_, bS, World.ownsRow_nil _ _ _ _, trivial⟩, bF, Below.refl _ _⟩
    (fun x => { tmps := #[FV, .pointer (some ⟨s, 0, none⟩), .slice none 0 0, .pointer (some ⟨s + 1, 0, none⟩), .int .u64 (x.1 : Nat), .func (.func 67) #[] #[.pointer (some ⟨s + 1 + 1, 0, none⟩)], .int .u64 (x.1 : Nat), undef, undef, undef, undef, undef, undef, undef, undef, undef], defers := [] }) ?assign ?body ?done ?stop
  case assign =>
    intro l x W K hK
    gi_wp2
    exact hK
  case body =>
    rintro l pre x W ⟨⟨v, hv, hrow, _⟩, hF, hB⟩ hlt
    have hcF := hF.cell
    rw [HFV.out] at hcF
    have hfl := flt_len U pre
    have hsW3 : s + 3 ≤ W.heap.size := by have := hB.size; omega
    have hBw := hB0.trans hB
    have hT := HT.out x.1 x.2 W (ext_of_below (HS.out ▸ hBw))
    clear hBw
    cases hU : U x.1
    · rw [hU] at hT
      gi_wp2_with (refine ⟨trivial, ?_⟩; gi_at_call 50; refine (CallsIn.inRound l (callsIn_wide.2 hT)).mono ?_; rintro e w2 ⟨rfl, d2⟩)
      exact ⟨(dr_others d2).from _, dr_kb d2 (by omega), ⟨⟨v, hv.kept d2 (by simp), by rw [flt_snoc, hU]; exact dr_row hrow d2, trivial⟩, hF.kept d2 (by simp), hB.trans ((Ext.below d2).mono (by omega))⟩⟩
    · rw [hU] at hT
      have HF := Lib.hid hF
      have HROW := Lib.hid hrow
      clear hF hrow
      gi_wp2_with (first
        | (refine ⟨trivial, ?_⟩; gi_at_call 50; refine (CallsIn.inRound l (callsIn_wide.2 hT)).mono ?_; rintro e w2 ⟨rfl, d2⟩; have hv2 := hv.kept d2 (by simp); have hcS2 := hv2.cell; have hrow2 := Lib.hid (dr_row HROW.out d2); have hsW4 := Nat.le_trans hsW3 (Ext.size d2))
        | (gi_at_builtin; refine wpListIn_append_own _ rfl _ _ 78 rfl (s + 3) 62 i0 (.int .u64 0) 1 8 Tryd.underlying78 hi hz0 hz1 hz2 rfl (by decide) _ _ _ rfl (hrow2.out.alloc _) ⟨w2.heap.size, 0, none⟩ 1 1 [.int .u64 (x.1 : Nat)] rfl rfl (cell_one_new _ _ _) (by simp [Value.oneCell']) (by simp only [maxLen]; omega) (by omega) (by simp; omega) ?_; intro v' w3 hown' hgrow _; obtain ⟨g', cap', rfl⟩ := ownsRow_succ hown'; obtain ⟨b1, b2, b3, b4, b5, b6⟩ := boxApp hv2 hrow2.out (by omega) hsW4 hown' hgrow; have hc1 := b1.cell; have hf1 := b1.frozen))
      exact ⟨((dr_others d2).trans b4).from _, Kb_t (dr_kb d2 (by omega)) (b6 _ (by omega) (by omega)), ⟨⟨_, b2, by rw [flt_snoc, hU, if_pos rfl, encC_snoc]; simpa using b3, trivial⟩, Eq.trans (b6 _ (by omega) (by omega)) (HF.out.kept d2 (by simp)), (hB.trans ((Ext.below d2).mono (by omega))).trans (b5.mono (by omega))⟩⟩
  case done =>
    rintro D ys W hD rfl ⟨⟨v, hv, hrow, _⟩, hF, hB⟩ hK
    have hc := hv.cell
    obtain ⟨a, c, rfl⟩ := row_slice hrow
    rw [flt_all] at hrow hc
    have hl : (fltrTo U 64).length ≤ 64 := fltrTo_len U 64
    have hcr : Crs W a (fltrTo U 64).length (fltrTo U 64) := Own.at_ hrow
    have hsW := hB.size
    have hBw := hB0.trans hB
    have HK := Lib.hid hK
    clear hK hrow hv hF hB bF bS bC
    gi_wp2_with (refine ⟨trivial, ?_⟩; gi_at_call 59; refine (callsIn_wide.2 (minimal_any hcr (fun x hx => fltrTo_lt hx) (by omega))).mono ?_; rintro e w4 ⟨a4, n4, c4, rfl, o4, e4⟩)
    have hK4 := Ext.blk e4 HK.out (by simp)
    refine ⟨by simp, .inl ⟨_, _, rfl, run_takeDeferred hK4, ?_⟩⟩
    rw [minOf_fltr] at o4
    exact ⟨_, results_tmp rfl _ _ _, a4, n4, c4, rfl, ownsRow_putObj (o4.mono (by omega)) _ hK4 rfl, ((ext_of_below (HS.out ▸ hBw)).trans e4).grown (grownBy_putObj' w4 D _) (fun k e => .inl (by cases e; omega))⟩
  case stop =>
    rintro D c pre W _ _ h _
    exact h.elim
set_option maxRecDepth 100000 in
set_option maxHeartbeats 4000000 in
theorem minWhereWeightsFamily_any {p1 p2 : Addr} {U : Nat → Bool} {w : World}
    (ht : ∀ x : Nat, x < 64 → ∀ W, Ext none w W → Calls Tryd.prog 48 #[.int .u64 (x : Nat), .pointer (some p1), .pointer (some p2)] W fun e W' => e = .returned (.bool (U x)) ∧ Ext none W W') :
    Calls Tryd.prog 47 #[.func (.func 48) #[] #[.pointer (some p1), .pointer (some p2)]] w fun e w' => ∃ a n c, e = .returned (.slice a n c) ∧ OwnC w' w.heap.size a n c (minOf U) ∧ Ext none w w' := by
  have HT := Lib.hid ht
  clear ht
  obtain ⟨i0, hi, hz0, hz1, hz2⟩ := info_parts crewInfo
  refine (callsIn_wide (n := 5)).1 ?_
  refine callsIn_of_wp_marks Tryd.func47 rfl trivial ?_ rfl
  simp only [Tryd.ntmps47, List.size_toArray, List.length_cons, List.length_nil, Nat.reduceAdd, Nat.reduceSub, Array.replicate_succ, Array.replicate_zero, List.push_toArray, List.append_toArray, List.nil_append, List.cons_append]
  gi_wp2_with (refine ⟨trivial, ?_⟩; gi_at_call 58; refine (callsIn_wide.2 subsets_any).mono ?_; rintro e w' ⟨rfl, rfl⟩)
  obtain ⟨s, hs⟩ : ∃ s, s = w.heap.size := ⟨_, rfl⟩
  obtain ⟨FV, hFV⟩ : ∃ v : Value, v = .func (.func 48) #[] #[.pointer (some p1), .pointer (some p2)] := ⟨_, rfl⟩
  obtain ⟨w1, hw1⟩ : ∃ x, x = (((w.alloc (.cells #[FV] 81)).alloc (.cells #[.slice none 0 0] 78)).alloc (.cells #[.int .u64 63] 62)) := ⟨_, rfl⟩
  have bF : Boxed w1 s 81 FV := by rw [hw1, hs]; exact ((Boxed.new w _ _).alloc _).alloc _
  have bS : Boxed w1 (s + 1) 78 (.slice none 0 0) := by
    rw [hw1, hs]
    have := Boxed.new (w.alloc (.cells #[FV] 81)) 78 (.slice none 0 0)
    rw [World.size_alloc] at this
    exact this.alloc _
  have bC : w1.heap[s + 1 + 1]? = some (.cells #[.int .u64 ((63 : Nat) : Int)] 62 (0, 0)) := by
    rw [hw1, hs]
    have := Boxed.new ((w.alloc (.cells #[FV] 81)).alloc (.cells #[.slice none 0 0] 78)) 62 (.int .u64 63)
    rw [World.size_alloc, World.size_alloc] at this
    exact this
  have hB0 : Below s w w1 := by
    rw [hw1, hs]; exact (((Below.refl _ w).alloc (Nat.le_refl _) _).alloc (by simp) _).alloc (by simp; omega) _
  have hsz : w1.heap.size = s + 3 := by rw [hw1, hs]; simp
  rw [← hFV, ← hw1, ← hs]
  have HFV := Lib.hid hFV
  have HS := Lib.hid hs
  have hsw : s ≤ w.heap.size := Nat.le_of_eq hs
  have hsw2 : w.heap.size ≤ s := Nat.le_of_eq hs.symm
  clear hw1 hFV hs
  refine wpIn_rangeFunc_ownG rfl (by omega) (gf := 67) (lb := #[.pointer (some ⟨s + 1 + 1, 0, none⟩)]) rfl trivial (enters_of Tryd.func67 (by kernel_rfl) rfl)
    (subs_stops (5 - 1) (by omega) (s + 1 + 1) 63 (by decide) w1 bC) Kb_t (Kb_b (by omega)) (Below.refl _ _) (fun _ => rfl)
    (fun pre W => (∃ v, Boxed W (s + 1) 78 v ∧ W.ownsRow (s + 3) 62 1 v (flt U pre).length (encC (flt U pre)) ∧ True) ∧ (Boxed W s 81 FV ∧ Below s w1 W))
    (fun _ _ _ => False)
    (OwnFrom.and (Own.from (holdsRow_own (s + 3) (s + 1) 78 62 1 (fun pre => (flt U pre).length) (fun pre => encC (flt U pre)) (fun _ _ => True)) _) (OwnFrom.and (Own.from (boxed_own s 81 (fun _ => FV)) _) (ownFrom_below (by omega) (by omega))))
    (fun _ _ _ _ _ hs _ _ => hs)
    ⟨⟨_, bS, World.ownsRow_nil _ _ _ _, trivial⟩, bF, Below.refl _ _⟩
    (fun x => { tmps := #[FV, .pointer (some ⟨s, 0, none⟩), .slice none 0 0, .pointer (some ⟨s + 1, 0, none⟩), .int .u64 (x.1 : Nat), .func (.func 67) #[] #[.pointer (some ⟨s + 1 + 1, 0, none⟩)], .int .u64 (x.1 : Nat), undef, undef, undef, undef, undef, undef, undef, undef, undef], defers := [] }) ?assign ?body ?done ?stop
  case assign =>
    intro l x W K hK
    gi_wp2
    exact hK
  case body =>
    rintro l pre x W ⟨⟨v, hv, hrow, _⟩, hF, hB⟩ hlt
    have hcF := hF.cell
    rw [HFV.out] at hcF
    have hfl := flt_len U pre
    have hsW3 : s + 3 ≤ W.heap.size := by have := hB.size; omega
    have hBw := hB0.trans hB
    have hT := HT.out x.1 x.2 W (ext_of_below (HS.out ▸ hBw))
    clear hBw
    cases hU : U x.1
    · rw [hU] at hT
      gi_wp2_with (refine ⟨trivial, ?_⟩; gi_at_call 48; refine (CallsIn.inRound l (callsIn_wide.2 hT)).mono ?_; rintro e w2 ⟨rfl, d2⟩)
      exact ⟨(dr_others d2).from _, dr_kb d2 (by omega), ⟨⟨v, hv.kept d2 (by simp), by rw [flt_snoc, hU]; exact dr_row hrow d2, trivial⟩, hF.kept d2 (by simp), hB.trans ((Ext.below d2).mono (by omega))⟩⟩
    · rw [hU] at hT
      have HF := Lib.hid hF
      have HROW := Lib.hid hrow
      clear hF hrow
      gi_wp2_with (first
        | (refine ⟨trivial, ?_⟩; gi_at_call 48; refine (CallsIn.inRound l (callsIn_wide.2 hT)).mono ?_; rintro e w2 ⟨rfl, d2⟩; have hv2 := hv.kept d2 (by simp); have hcS2 := hv2.cell; have hrow2 := Lib.hid (dr_row HROW.out d2); have hsW4 := Nat.le_trans hsW3 (Ext.size d2))
        | (gi_at_builtin; refine wpListIn_append_own _ rfl _ _ 78 rfl (s + 3) 62 i0 (.int .u64 0) 1 8 Tryd.underlying78 hi hz0 hz1 hz2 rfl (by decide) _ _ _ rfl (hrow2.out.alloc _) ⟨w2.heap.size, 0, none⟩ 1 1 [.int .u64 (x.1 : Nat)] rfl rfl (cell_one_new _ _ _) (by simp [Value.oneCell']) (by simp only [maxLen]; omega) (by omega) (by simp; omega) ?_; intro v' w3 hown' hgrow _; obtain ⟨g', cap', rfl⟩ := ownsRow_succ hown'; obtain ⟨b1, b2, b3, b4, b5, b6⟩ := boxApp hv2 hrow2.out (by omega) hsW4 hown' hgrow; have hc1 := b1.cell; have hf1 := b1.frozen))
      exact ⟨((dr_others d2).trans b4).from _, Kb_t (dr_kb d2 (by omega)) (b6 _ (by omega) (by omega)), ⟨⟨_, b2, by rw [flt_snoc, hU, if_pos rfl, encC_snoc]; simpa using b3, trivial⟩, Eq.trans (b6 _ (by omega) (by omega)) (HF.out.kept d2 (by simp)), (hB.trans ((Ext.below d2).mono (by omega))).trans (b5.mono (by omega))⟩⟩
  case done =>
    rintro D ys W hD rfl ⟨⟨v, hv, hrow, _⟩, hF, hB⟩ hK
    have hc := hv.cell
    obtain ⟨a, c, rfl⟩ := row_slice hrow
    rw [flt_all] at hrow hc
    have hl : (fltrTo U 64).length ≤ 64 := fltrTo_len U 64
    have hcr : Crs W a (fltrTo U 64).length (fltrTo U 64) := Own.at_ hrow
    have hsW := hB.size
    have hBw := hB0.trans hB
    have HK := Lib.hid hK
    clear hK hrow hv hF hB bF bS bC
    gi_wp2_with (refine ⟨trivial, ?_⟩; gi_at_call 59; refine (callsIn_wide.2 (minimal_any hcr (fun x hx => fltrTo_lt hx) (by omega))).mono ?_; rintro e w4 ⟨a4, n4, c4, rfl, o4, e4⟩)
    have hK4 := Ext.blk e4 HK.out (by simp)
    refine ⟨by simp, .inl ⟨_, _, rfl, run_takeDeferred hK4, ?_⟩⟩
    rw [minOf_fltr] at o4
    exact ⟨_, results_tmp rfl _ _ _, a4, n4, c4, rfl, ownsRow_putObj (o4.mono (by omega)) _ hK4 rfl, ((ext_of_below (HS.out ▸ hBw)).trans e4).grown (grownBy_putObj' w4 D _) (fun k e => .inl (by cases e; omega))⟩
  case stop =>
    rintro D c pre W _ _ h _
    exact h.elim
end Go.Proofs.YtjjjpakgnipghaaDoor
