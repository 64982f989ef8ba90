/- Configurations, in package spec and in slices: spec.ConfigMembers; slices.Grow and Concat of quorums. Conditions: each lemma's own. -/
import Derived.Test.YtnifgfnhcjhodaaDoorY1
import Derived.Test.YtnifgfnhcjhodaaDoorPA
import Derived.Test.YtnifgfnhcjhodaaDoorPF
import Derived.Test.YtnifgfnhcjhodaaDoorP1
namespace Go.Proofs.YtnifgfnhcjhodaaDoor
open Go.RowKit
set_option linter.unusedVariables false
set_option linter.unusedSimpArgs false

/-- a complete configuration -/
def okC (f g : List (List Int)) : Bool := famB f && (famB g && (decide (0 < f.length) && decide (0 < g.length)))
def memS (f g : List (List Int)) : List Int := g.foldl uniB (f.foldl uniB [])
/-- the members of a configuration -/
def cmL (f g : List (List Int)) : List Int := if okC f g then memS f g else []
def orL (c : Nat) (q : List Nat) : Nat := q.foldl (fun a b => a ||| b) c
theorem orL_lt {c : Nat} {q : List Nat} (hc : c < 64) (h : ∀ x ∈ q, x < 64) : orL c q < 64 := by
  unfold orL
  induction q generalizing c with
  | nil => exact hc
  | cons x r ih => exact ih (or_lt hc (h x (by simp))) fun y hy => h y (by simp [hy])
theorem fold_mem (f : List (List Int)) (h : ∀ s ∈ f, valid s = true) : ∀ c, c < 64 → f.foldl uniB (mem c) = mem (orL c (masks f)) := by
  induction f with
  | nil => intro c _; rfl
  | cons s r ih =>
    intro c hc
    have hs := h s (by simp)
    show r.foldl uniB (uniB (mem c) s) = mem (orL (c ||| mask s) (masks r))
    rw [uniB_valid (mem_valid hc) hs, mask_mem hc]
    exact ih (fun t ht => h t (by simp [ht])) _ (or_lt hc (mask_lt hs))
theorem memS_eq {f g : List (List Int)} (hf : famB f = true) (hg : famB g = true) : memS f g = mem (orL 0 (masks f ++ masks g)) := by
  unfold memS
  rw [show ([] : List Int) = mem 0 from by decide +kernel, fold_mem f (fam_valid hf) 0 (by omega), fold_mem g (fam_valid hg) _ (orL_lt (by omega) (masks_lt hf))]
  unfold orL
  rw [List.foldl_append]
theorem cmL_yes {f g : List (List Int)} (h : okC f g = true) : cmL f g = mem (orL 0 (masks f ++ masks g)) := by
  unfold cmL
  rw [h]
  unfold okC at h
  simp only [Bool.and_eq_true] at h
  exact memS_eq h.1 h.2.1
theorem cmL_no {f g : List (List Int)} (h : okC f g = false) : cmL f g = [] := by unfold cmL; rw [h]; rfl
theorem fold_step (f : List (List Int)) (z : List Int) (k : Nat) (h : k < f.length) : (f.take (k + 1)).foldl uniB z = uniB ((f.take k).foldl uniB z) (f.getD k []) := by
  rw [snoc_take f [] k h, List.foldl_append]; rfl

set_option maxHeartbeats 1000000 in
theorem l13Valid_is {a : Option Addr} {n c : Nat} {f : List (List Int)} {b : Option Addr} {m d : Nat} {g : List (List Int)} {w : World} {q : Bool} (h1 : Fam w a n f) (h2 : Fam w b m g) (hq : okC f g = q) :
    Calls Tryd.prog 14 #[.agg #[.slice a n c, .slice b m d]] w fun e w' => e = .returned (.bool q) ∧ Ext none w w' := by
  have hE := Lib.hid ((Ext.refl none w).alloc (.cells #[.slice a n c, .slice b m d] 28))
  have hb := Lib.hid (cfg_blk w #[.slice a n c, .slice b m d] 28)
  obtain ⟨hc0, hc1, _, _⟩ := cfg_cell hb.out
  obtain ⟨wz, hwz⟩ : ∃ x, x = w.alloc (.cells #[.slice a n c, .slice b m d] 28) := ⟨_, rfl⟩
  have F1 := Lib.hid h1
  have F2 := Lib.hid h2
  have hn := Lib.hid h1.len
  have hm := Lib.hid h2.len
  clear h1 h2
  unfold okC at hq
  cases hf : famB f
  · rw [hf] at hq
    obtain rfl : q = false := hq.symm
    go_enter Tryd.func14, Tryd.ntmps14
    go_wp2_with fail
    rw [← hwz] at hc0 hc1 hE hb ⊢
    refine (sFamilyValid_is (F1.out.ext hE.out) hf).mono ?_; rintro e w1 ⟨rfl, d1⟩
    go_wp2_with fail
    go_ret
    exact ⟨rfl, hE.out.trans (d1.ext (r := none))⟩
  rw [hf] at hq
  cases hg : famB g
  · rw [hg] at hq
    obtain rfl : q = false := hq.symm
    go_enter Tryd.func14, Tryd.ntmps14
    go_wp2_with fail
    rw [← hwz] at hc0 hc1 hE hb ⊢
    refine (sFamilyValid_is (F1.out.ext hE.out) hf).mono ?_; rintro e w1 ⟨rfl, d1⟩
    have hE1 := Lib.hid (hE.out.trans (d1.ext (r := none)))
    obtain ⟨k0, k1, _, _⟩ := cfg_cell ((d1.ext (r := none)).blk hb.out (by simp))
    clear d1
    go_wp2_with fail
    refine (sFamilyValid_is (F2.out.ext hE1.out) hg).mono ?_; rintro e w2 ⟨rfl, d2⟩
    go_wp2_with fail
    go_ret
    exact ⟨rfl, hE1.out.trans (d2.ext (r := none))⟩
  rw [hg, hn.out, hm.out] at hq
  simp only [Bool.true_and] at hq
  have HQ := Lib.hid hq
  clear hq
  by_cases hn0 : 0 < n
  · have hnI : (n : Int) > 0 := by omega
    by_cases hm0 : 0 < m
    · have hmI : (m : Int) > 0 := by omega
      obtain rfl : q = true := by have := HQ.out; simp [hn0, hm0] at this; exact this
      go_enter Tryd.func14, Tryd.ntmps14
      go_wp2_with fail
      rw [← hwz] at hc0 hc1 hE hb ⊢
      refine (sFamilyValid_is (F1.out.ext hE.out) hf).mono ?_; rintro e w1 ⟨rfl, d1⟩
      have hE1 := Lib.hid (hE.out.trans (d1.ext (r := none)))
      have B1 := Lib.hid ((d1.ext (r := none)).blk hb.out (by simp))
      obtain ⟨k0, k1, _, _⟩ := cfg_cell B1.out
      clear d1
      go_wp2_with fail
      refine (sFamilyValid_is (F2.out.ext hE1.out) hg).mono ?_; rintro e w2 ⟨rfl, d2⟩
      obtain ⟨r0, r1, _, _⟩ := cfg_cell ((d2.ext (r := none)).blk B1.out (by simp))
      have hE2 := Lib.hid (hE1.out.trans (d2.ext (r := none)))
      clear d2 k0 k1
      go_wp2_with fail
      go_ret
      exact ⟨rfl, hE2.out⟩
    · have hmI : ¬ ((m : Int) > 0) := by omega
      obtain rfl : q = false := by have := HQ.out; simp [hn0, hm0] at this; exact this
      go_enter Tryd.func14, Tryd.ntmps14
      go_wp2_with fail
      rw [← hwz] at hc0 hc1 hE hb ⊢
      refine (sFamilyValid_is (F1.out.ext hE.out) hf).mono ?_; rintro e w1 ⟨rfl, d1⟩
      have hE1 := Lib.hid (hE.out.trans (d1.ext (r := none)))
      have B1 := Lib.hid ((d1.ext (r := none)).blk hb.out (by simp))
      obtain ⟨k0, k1, _, _⟩ := cfg_cell B1.out
      clear d1
      go_wp2_with fail
      refine (sFamilyValid_is (F2.out.ext hE1.out) hg).mono ?_; rintro e w2 ⟨rfl, d2⟩
      obtain ⟨r0, r1, _, _⟩ := cfg_cell ((d2.ext (r := none)).blk B1.out (by simp))
      have hE2 := Lib.hid (hE1.out.trans (d2.ext (r := none)))
      clear d2 k0 k1
      go_wp2_with fail
      go_ret
      exact ⟨rfl, hE2.out⟩
  · have hnI : ¬ ((n : Int) > 0) := by omega
    obtain rfl : q = false := by have := HQ.out; simp [hn0] at this; exact this
    go_enter Tryd.func14, Tryd.ntmps14
    go_wp2_with fail
    rw [← hwz] at hc0 hc1 hE hb ⊢
    refine (sFamilyValid_is (F1.out.ext hE.out) hf).mono ?_; rintro e w1 ⟨rfl, d1⟩
    have hE1 := Lib.hid (hE.out.trans (d1.ext (r := none)))
    have B1 := Lib.hid ((d1.ext (r := none)).blk hb.out (by simp))
    obtain ⟨k0, k1, _, _⟩ := cfg_cell B1.out
    clear d1
    go_wp2_with fail
    refine (sFamilyValid_is (F2.out.ext hE1.out) hg).mono ?_; rintro e w2 ⟨rfl, d2⟩
    obtain ⟨r0, r1, _, _⟩ := cfg_cell ((d2.ext (r := none)).blk B1.out (by simp))
    have hE2 := Lib.hid (hE1.out.trans (d2.ext (r := none)))
    clear d2 k0 k1
    go_wp2_with fail
    go_ret
    exact ⟨rfl, hE2.out⟩

set_option maxHeartbeats 2000000 in
theorem l13Members_any {a : Option Addr} {n c : Nat} {f : List (List Int)} {b : Option Addr} {m d : Nat} {g : List (List Int)} {w : World} (h1 : Fam w a n f) (h2 : Fam w b m g) :
    Calls Tryd.prog 15 #[.agg #[.slice a n c, .slice b m d]] w fun e w' => ∃ a' n' c', e = .returned (.slice a' n' c') ∧ Ints w' a' n' (memS f g) ∧ Ext none w w' := by
  have hmx := h1.max
  have hmy := h2.max
  have hE := Lib.hid ((Ext.refl none w).alloc (.cells #[.slice a n c, .slice b m d] 28))
  have hb := Lib.hid (cfg_blk w #[.slice a n c, .slice b m d] 28)
  obtain ⟨wz, hwz⟩ : ∃ x, x = w.alloc (.cells #[.slice a n c, .slice b m d] 28) := ⟨_, rfl⟩
  have F1 := Lib.hid h1
  have F2 := Lib.hid h2
  have hn := Lib.hid h1.len
  have hm := Lib.hid h2.len
  clear h1 h2
  go_enter Tryd.func15, Tryd.ntmps15
  go_wp2_with fail
  rw [← hwz] at hE hb ⊢
  have hE0 := Lib.hid ((Ext.refl none wz).alloc (.cells #[] 3))
  have hI0 := Lib.hid (OwnI.made wz).ints
  have hws : wz.heap.size = w.heap.size + 1 := by rw [hwz, World.size_alloc]
  rw [hws] at hI0
  clear hwz hws
  go_loopw [3, 4] (fun v i wr => ∃ (k : Nat) (a2 : Option Addr) (n2 c2 : Nat), k ≤ n ∧ i = .int .i64 (k : Nat) ∧ v = .slice a2 n2 c2 ∧ Ints wr a2 n2 ((f.take k).foldl uniB []) ∧ Ext none wz wr)
    (fun _ i _ => n - (intOf i).toNat)
  case atStart => exact ⟨0, _, 0, 0, by omega, rfl, rfl, by simpa using hI0.out, hE0.out⟩
  case round =>
    obtain ⟨k, a2, n2, c2, hk, rfl, rfl, ho, he⟩ := hrel
    obtain ⟨k0, k1, _, _⟩ := cfg_cell (he.blk hb.out (by simp))
    have HO := Lib.hid ho
    have HE := Lib.hid he
    clear ho he
    by_cases hlt : k < n
    · have hltI : (k : Int) < (n : Int) := by omega
      obtain ⟨b0, off0, a0, n0, c0, rfl, hc0, hi0⟩ := (F1.out.ext (hE.out.trans HE.out)).cell hlt
      have HI := Lib.hid hi0
      have hst := Lib.hid (fold_step f [] k (by rw [hn.out]; exact hlt))
      clear hi0
      go_wp2_with fail
      refine (l1Union_any HO.out HI.out).mono ?_; rintro e w1 ⟨a3, n3, c3, rfl, o3, e3⟩
      have HO3 := Lib.hid o3.ints
      have HE3 := Lib.hid (HE.out.trans e3)
      clear o3 e3 k0 k1 hc0
      go_wp2_with fail
      go_roundw
      case rel => exact ⟨k + 1, _, _, _, by omega, by go_num, rfl, by rw [hst.out]; exact HO3.out, HE3.out⟩
      case measure => simp [intOf]; omega
    · obtain rfl : k = n := by omega
      have hfin := Lib.hid (show f.take k = f from List.take_of_length_le (by rw [hn.out]; exact Nat.le_refl _))
      go_wp2_with fail
      go_loopw [3, 5] (fun v i wr => ∃ (j : Nat) (a2 : Option Addr) (n2 c2 : Nat), j ≤ m ∧ i = .int .i64 (j : Nat) ∧ v = .slice a2 n2 c2 ∧ Ints wr a2 n2 ((g.take j).foldl uniB (f.foldl uniB [])) ∧ Ext none wz wr)
        (fun _ i _ => m - (intOf i).toNat)
      case atStart => exact ⟨0, a2, n2, c2, by omega, rfl, rfl, by have := HO.out; rw [hfin.out] at this; simpa using this, HE.out⟩
      case round =>
        clear HO HE k0 k1
        obtain ⟨j, a2, n2, c2, hk, rfl, rfl, ho, he⟩ := hrel
        obtain ⟨k0, k1, _, _⟩ := cfg_cell (he.blk hb.out (by simp))
        have HO := Lib.hid ho
        have HE := Lib.hid he
        clear ho he
        by_cases hlt : j < m
        · have hltI : (j : Int) < (m : Int) := by omega
          obtain ⟨b0, off0, a0, n0, c0, rfl, hc0, hi0⟩ := (F2.out.ext (hE.out.trans HE.out)).cell hlt
          have HI := Lib.hid hi0
          have hst := Lib.hid (fold_step g (f.foldl uniB []) j (by rw [hm.out]; exact hlt))
          clear hi0
          go_wp2_with fail
          refine (l1Union_any HO.out HI.out).mono ?_; rintro e w1 ⟨a3, n3, c3, rfl, o3, e3⟩
          have HO3 := Lib.hid o3.ints
          have HE3 := Lib.hid (HE.out.trans e3)
          clear o3 e3 k0 k1 hc0
          go_wp2_with fail
          go_roundw
          case rel => exact ⟨j + 1, _, _, _, by omega, by go_num, rfl, by rw [hst.out]; exact HO3.out, HE3.out⟩
          case measure => simp [intOf]; omega
        · obtain rfl : j = m := by omega
          have hfin2 := Lib.hid (show g.take j = g from List.take_of_length_le (by rw [hm.out]; exact Nat.le_refl _))
          go_wp2_with fail
          go_ret
          exact ⟨_, _, _, rfl, by have := HO.out; rw [hfin2.out] at this; exact this, hE.out.trans HE.out⟩

set_option maxHeartbeats 1000000 in
theorem sConfigMembers_any {a : Option Addr} {n c : Nat} {f : List (List Int)} {b : Option Addr} {m d : Nat} {g : List (List Int)} {w : World} (h1 : Fam w a n f) (h2 : Fam w b m g) :
    Calls Tryd.prog 5 #[.agg #[.slice a n c, .slice b m d]] w fun e w' => ∃ a' n' c', e = .returned (.slice a' n' c') ∧ Ints w' a' n' (cmL f g) ∧ Ext none w w' := by
  have hE := Lib.hid ((Ext.refl none w).alloc (.cells #[.slice a n c, .slice b m d] 28))
  have hb := Lib.hid (cfg_blk w #[.slice a n c, .slice b m d] 28)
  obtain ⟨hc0, hc1, _, _⟩ := cfg_cell hb.out
  obtain ⟨wz, hwz⟩ : ∃ x, x = w.alloc (.cells #[.slice a n c, .slice b m d] 28) := ⟨_, rfl⟩
  have F1 := Lib.hid h1
  have F2 := Lib.hid h2
  clear h1 h2
  cases hq : okC f g
  · have hno := Lib.hid (cmL_no hq)
    have HQ := Lib.hid hq
    clear hq
    go_enter Tryd.func5, Tryd.ntmps5
    go_wp2_with fail
    rw [← hwz] at hc0 hc1 hE hb ⊢
    refine (l13Valid_is (F1.out.ext hE.out) (F2.out.ext hE.out) HQ.out).mono ?_; rintro e w1 ⟨rfl, e1⟩
    go_wp2_with fail
    go_ret
    exact ⟨_, _, _, rfl, by rw [hno.out]; exact (OwnI.made w1).ints, (hE.out.trans e1).alloc _⟩
  · have hyes := Lib.hid (show cmL f g = memS f g from by unfold cmL; rw [hq]; rfl)
    have HQ := Lib.hid hq
    clear hq
    go_enter Tryd.func5, Tryd.ntmps5
    go_wp2_with fail
    rw [← hwz] at hc0 hc1 hE hb ⊢
    refine (l13Valid_is (F1.out.ext hE.out) (F2.out.ext hE.out) HQ.out).mono ?_; rintro e w1 ⟨rfl, e1⟩
    obtain ⟨k0, k1, _, _⟩ := cfg_cell (e1.blk hb.out (by simp))
    have hE1 := Lib.hid (hE.out.trans e1)
    clear e1 hc0 hc1
    go_wp2_with fail
    refine (l13Members_any (F1.out.ext hE1.out) (F2.out.ext hE1.out)).mono ?_; rintro e w2 ⟨a2, n2, c2, rfl, i2, e2⟩
    go_wp2_with fail
    go_ret
    exact ⟨_, _, _, rfl, by rw [hyes.out]; exact i2, hE1.out.trans e2⟩

set_option maxHeartbeats 4000000 in
set_option maxRecDepth 100000 in
theorem GrowQ_any {n : Nat} {w : World} (hn : n ≤ 1000) :
    Calls Tryd.prog 32 #[.slice none 0 0, .int .i64 (n : Nat)] w fun e w' => ∃ a c, e = .returned (.slice a 0 c) ∧ OwnC w' w.heap.size a 0 c [] ∧ Ext none w w' := by
  rcases Nat.eq_zero_or_pos n with rfl | hpos
  · go_enter Tryd.func32, Tryd.ntmps32
    go_wp2_with fail
    go_ret
    exact ⟨none, 0, rfl, OwnC.nil _ _, Ext.refl _ _⟩
  · obtain ⟨i0, hi, hz0, hz1, hz2⟩ := info_parts crewInfo
    have hrz : ∀ ty, (Builtin.append_ #[39, 3] ty #[.slice none 0 0, .int .i64 (n : Nat)]).run Tryd.prog w =
        .ok (.slice (some ⟨w.heap.size, 0, none⟩) n (grownCap w n 0 48)) (w.drew.alloc (.cells (#[] ++ Builtin.zeroCells (Value.int .u64 0).cells n ++ Builtin.zeroCells (Value.int .u64 0).cells (grownCap w n 0 48 - n)) 48)) := fun ty => by
      have h := Lib.run_append_grow_zeros w 39 3 ty 48 i0 (.int .u64 0) .i64 .i64 Tryd.underlying39 Tryd.underlying3 hi hz0 none 0 0 [] (run_firstCells_none w.drew i0.size 0 0 0) n hpos (by rw [hz1]; decide) (by omega) (by omega)
        (by rw [hz2]; omega) (growslice_fits (by omega) (by rw [hz2]; omega))
      simpa using h
    have hGn : n ≤ grownCap w n 0 48 := grownCap_ge w _ _ _
    have hG63 : grownCap w n 0 48 ≤ maxLen := grownCap_le_maxLen w n 0 48 (by unfold maxLen; omega)
    obtain ⟨g, hG⟩ : ∃ g, g = grownCap w n 0 48 := ⟨_, rfl⟩
    rw [← hG] at hrz hGn hG63
    obtain ⟨M, hM⟩ : ∃ M, M = #[] ++ Builtin.zeroCells (Value.int .u64 0).cells n ++ Builtin.zeroCells (Value.int .u64 0).cells (g - n) := ⟨_, rfl⟩
    have hMs := Lib.hid (show M.size = g from by rw [hM]; simp [Builtin.zeroCells, Value.cells]; omega)
    rw [← hM] at hrz
    have HG63 := Lib.hid hG63
    have hg63 : g ≤ 9223372036854775807 := by unfold maxLen at hG63; exact hG63
    have hsz := Lib.hid (show w.drew.heap.size = w.heap.size from rfl)
    clear hG hM hG63
    have h4 : (n : Int) - 0 > 0 := by omega
    go_enter Tryd.func32, Tryd.ntmps32
    go_wp2_with (at_builtin; refine Lib.wpList_append_run _ rfl _ _ _ _ rfl _ _ rfl rfl _ _ (hrz _) ?_)
    all_goals (
      go_ret
      refine ⟨_, _, rfl, ?_, ?_⟩)
    · have := World.ownsRow_made (e := 48) (base := w.heap.size) (size := 1) w.drew M g (Nat.le_of_eq hsz.out.symm) HG63.out (by rw [hMs.out, Nat.mul_one])
      exact this
    · exact ((Ext.refl none w).drew).alloc _

set_option maxHeartbeats 2000000 in
theorem ConcatQ_any {a : Option Addr} {n c : Nat} {rs : List (List Nat)} {w : World} (h : Mat w a n rs) (hn : n ≤ 20) (hr : ∀ r ∈ rs, r.length ≤ 20) :
    Calls Tryd.prog 19 #[.slice a n c] w fun e w' => ∃ a' m c', e = .returned (.slice a' m c') ∧ OwnC w' w.heap.size a' m c' rs.flatten ∧ Ext none w w' := by
  have hlen := Lib.hid h.len
  have hbd := Lib.hid (show ∀ j, (rs.take j).flatten.length ≤ 400 from fun j => by
    have := flat_le (rs := rs.take j) fun r hx => hr r (List.mem_of_mem_take hx)
    have h2 : (rs.take j).length ≤ 20 := by have := hlen.out; rw [List.length_take]; omega
    omega)
  have hrow := Lib.hid (show ∀ k, k < n → (rs.getD k []).length ≤ 20 from fun k hk => by
    have hk' : k < rs.length := by rw [hlen.out]; exact hk
    have e : rs.getD k [] = rs[k] := by simp [List.getD, hk']
    rw [e]; exact hr _ (List.getElem_mem hk'))
  have H := Lib.hid h
  clear h hr
  go_enter Tryd.func19, Tryd.ntmps19
  go_wp2_with fail
  go_loop [3, 11] (fun s i => ∃ j l : Nat, j ≤ n ∧ i = .int .i64 (j : Nat) ∧ s = .int .i64 (l : Nat) ∧ l = (rs.take j).flatten.length) (fun _ i => n - (intOf i).toNat)
  case atStart => exact ⟨0, 0, by omega, rfl, rfl, by simp⟩
  case round =>
    obtain ⟨j, l, hj, rfl, rfl, hl⟩ := hrel
    have hl400 : l ≤ 400 := by rw [hl]; exact hbd.out j
    have HL := Lib.hid hl
    clear hl
    by_cases hlt : j < n
    · obtain ⟨b, off, a2, n2, c2, rfl, hc, ho⟩ := H.out.cell hlt
      have hn2 : n2 ≤ 20 := by rw [← ho.len]; exact hrow.out j hlt
      have hst := Lib.hid (show l + n2 = (rs.take (j + 1)).flatten.length from by rw [flat_take rs j (by rw [hlen.out]; exact hlt), List.length_append, ← HL.out, ho.len])
      clear ho
      go_wp2_with fail
      go_round
      case rel => exact ⟨j + 1, l + n2, by omega, by go_num, by go_num, hst.out⟩
      case measure => simp [intOf]; omega
    · obtain rfl : j = n := by omega
      have hall := Lib.hid (show rs.take j = rs from List.take_of_length_le (by rw [hlen.out]; exact Nat.le_refl _))
      go_wp2_with fail
      refine (GrowQ_any (by omega)).mono ?_; rintro e w1 ⟨a1, c1, rfl, o1, e1⟩
      have HO1 := Lib.hid o1
      have HE1 := Lib.hid e1
      clear o1 e1
      go_wp2_with fail
      go_loopw [6, 27] (fun v i wr => ∃ (k : Nat) (a2 : Option Addr) (n2 c2 : Nat), k ≤ j ∧ i = .int .i64 (k : Nat) ∧ v = .slice a2 n2 c2 ∧ OwnC wr w.heap.size a2 n2 c2 (rs.take k).flatten ∧ Ext none w wr) (fun _ i _ => j - (intOf i).toNat)
      case atStart => exact ⟨0, a1, 0, c1, by omega, rfl, rfl, by simpa using HO1.out, HE1.out⟩
      case round =>
        obtain ⟨k, a2, n2, c2, hk, rfl, rfl, ho, hE⟩ := hrel
        have hn2 : n2 ≤ 400 := by rw [← ho.len]; exact hbd.out k
        have HO := Lib.hid ho
        have HE := Lib.hid hE
        clear ho hE
        by_cases hlt : k < j
        · obtain ⟨b, off, a3, n3, c3, rfl, hc, hr3⟩ := (H.out.ext HE.out).cell hlt
          have hn3 : n3 ≤ 20 := by rw [← hr3.len]; exact hrow.out k hlt
          have HR3 := Lib.hid hr3
          have hst := Lib.hid (flat_take rs k (by rw [hlen.out]; exact hlt))
          have hsz := HE.out.size
          clear hr3
          go_wp2_with (at_builtin; refine wpl_crews 39 Tryd.underlying39 rfl _ _ rfl w.heap.size a2 n2 c2 _ rfl HO.out 0 a3 n3 c3 _ rfl HR3.out (by omega) hsz ?_; intro a4 c4 w4 o4 g4)
          go_roundw
          case rel => exact ⟨k + 1, _, _, _, by omega, by go_num, rfl, by rw [hst.out]; exact o4, HE.out.grown g4 (fun q hq => .inl (Own.block HO.out q hq))⟩
          case measure => simp [intOf]; omega
        · obtain rfl : k = j := by omega
          go_wp2_with fail
          go_ret
          exact ⟨_, _, _, rfl, by rw [← hall.out]; exact HO.out, HE.out⟩
end Go.Proofs.YtnifgfnhcjhodaaDoor
