/- spec.IntersectCounterexample: its contract. Condition: two families lie in memory. -/
import Derived.Test.YtnifgfnhcjhodaaQF
import Derived.Test.YtnifgfnhcjhodaaQE
import Derived.Deep.RegionHeld3
set_option linter.unusedVariables false
set_option linter.unusedSimpArgs false
namespace Go.Proofs.Ytnifgfnhcjhodaa
open Go.RowKit

theorem rdF_at {f : List (List Int)} (hf : famB f = true) {i : Nat} (hi : i < f.length) : (rdF f).getD i 0 = mask (f.getD i []) := by
  unfold rdF; rw [if_pos hf]; unfold masks; simp [List.getD, hi]
theorem rdF_l {f : List (List Int)} (hf : famB f = true) : (rdF f).length = f.length := by
  unfold rdF; rw [if_pos hf]; exact masks_len f
theorem meet_zero {f g : List (List Int)} (hf : famB f = true) (hg : famB g = true) {i k : Nat} (hi : i < f.length) (hk : k < g.length) :
    (intB (f.getD i []) (g.getD k [])).length = 0 ↔ (rdF f).getD i 0 &&& (rdF g).getD k 0 = 0 := by
  have hvi := fam_valid hf _ (getD_mem hi)
  have hvk := fam_valid hg _ (getD_mem hk)
  rw [intB_valid hvi hvk, rdF_at hf hi, rdF_at hg hk]
  have h2 := mem_pos (and_lt (mask_lt hvi) (y := mask (g.getD k [])))
  rw [decide_eq_decide] at h2
  omega
theorem row_pos {f : List (List Int)} (hf : famB f = true) {i : Nat} (hi : i < f.length) : 0 < (f.getD i []).length := by
  have hv := fam_valid hf _ (getD_mem hi)
  have h1 := (app_pos (ok2_both hf hf) _ (List.mem_append_left f (getD_mem hi))).2
  have h2 := mem_pos (mask_lt hv)
  rw [mem_mask hv, decide_eq_decide] at h2
  exact h2.2 h1
theorem made_keep {w w' : World} {B g : Nat} {r : Option Nat} (h : OwnI w B (some ⟨g, 0, none⟩) 0 0 []) (hg : w.grownBy w' r) (hr : r ≠ some g) : OwnI w' B (some ⟨g, 0, none⟩) 0 0 [] :=
  Own.same h fun k hk => by
    cases hk
    exact hg.block g (World.ownsRow.lt h g rfl).2 (fun e => hr e.symm)
theorem made_empty {w : World} {B g n : Nat} {a : Option Addr} {xs : List Int} (h : OwnI w B (some ⟨g, 0, none⟩) 0 0 []) (hi : Ints w a n xs) {p : Addr} (hp : a = some p) (hn : 0 < n) (e : g = p.block) : False := by
  obtain ⟨b, off, ha, hc⟩ := hi.cell hn
  rw [hp] at ha
  injection ha with ha
  subst ha
  subst e
  rcases h.2 with ⟨hv, _⟩ | ⟨g', cap, cur, hv, hB, hg, h1, h2, hs, ht⟩
  · cases hv
  · injection hv with h3 h4 h5
    injection h3 with h3
    injection h3 with h3
    subst h3
    subst h5
    have : cur.size = 0 := by simpa using hs
    obtain rfl : cur = #[] := Array.eq_empty_of_size_eq_zero this
    rw [World.cell?] at hc
    simp [hg] at hc
theorem cex_hit {f g : List (List Int)} (hf : famB f = true) (hg : famB g = true) {i k : Nat} (hi : i < f.length) (hk : k < g.length) (hn : NoC (rdF f) (rdF g) i)
    (hm : ∀ j, j < k → (rdF f).getD i 0 &&& (rdF g).getD j 0 ≠ 0) (h0 : (rdF f).getD i 0 &&& (rdF g).getD k 0 = 0) : CexR f g true (f.getD i []) (g.getD k []) :=
  .inr ⟨rfl, ok2_both hf hg, i, k, by rw [rdF_l hf]; exact hi, by rw [rdF_l hg]; exact hk, h0, hn, hm, by rw [rdF_at hf hi, mem_mask (fam_valid hf _ (getD_mem hi))], by rw [rdF_at hg hk, mem_mask (fam_valid hg _ (getD_mem hk))]⟩
/-- What spec.IntersectCounterexample leaves. -/
def SCexR (f g : List (List Int)) (w : World) (e : Ending) (w' : World) : Prop :=
  ∃ a4 n4 c4 a5 n5 c5 p A B, e = .returned (.tuple #[.slice a4 n4 c4, .slice a5 n5 c5, .bool p]) ∧ Ints w' a4 n4 A ∧ Ints w' a5 n5 B ∧ CexR f g p A B ∧ Ext none w w'
set_option maxRecDepth 20000 in
set_option maxHeartbeats 4000000 in
theorem sIntersectCounterexample_any {a : Option Addr} {n cp : Nat} {f : List (List Int)} {b : Option Addr} {m cq : Nat} {g : List (List Int)} {w : World} (h : Fam w a n f) (h' : Fam w b m g) :
    Calls Try.prog 9 #[.slice a n cp, .slice b m cq] w (SCexR f g w) := by
  have hl := Lib.hid h.len
  have hl' := Lib.hid h'.len
  have hm := h.max
  have hm' := h'.max
  have HW := Lib.hid h
  have HW' := Lib.hid h'
  clear h h'
  cases hf : famB f
  · have HR := Lib.hid (show CexR f g false [] [] from .inl ⟨rfl, rfl, rfl, .inl (ok2_no1 g hf)⟩)
    go_enter Try.func9, Try.ntmps9
    go_wp2_with fail
    refine (sFamilyValid_is HW.out hf).mono ?_; rintro e w1 ⟨rfl, d1⟩
    go_wp2_with fail
    go_ret3
    exact ⟨_, _, _, _, _, _, _, _, _, rfl, Ints.nil _ _, Ints.nil _ _, HR.out, (d1.ext.alloc _).alloc _⟩
  cases hg : famB g
  · have HR := Lib.hid (show CexR f g false [] [] from .inl ⟨rfl, rfl, rfl, .inl (ok2_no2 f hg)⟩)
    go_enter Try.func9, Try.ntmps9
    go_wp2_with fail
    refine (sFamilyValid_is HW.out hf).mono ?_; rintro e w1 ⟨rfl, d1⟩
    go_wp2_with fail
    refine (sFamilyValid_is (HW'.out.ext d1.ext) hg).mono ?_; rintro e w2 ⟨rfl, d2⟩
    go_wp2_with fail
    go_ret3
    exact ⟨_, _, _, _, _, _, _, _, _, rfl, Ints.nil _ _, Ints.nil _ _, HR.out, ((d1.ext.trans d2.ext).alloc _).alloc _⟩
  have hn20 : n ≤ 20 := by rw [← hl.out]; exact famB_len hf
  have hm20 : m ≤ 20 := by rw [← hl'.out]; exact famB_len hg
  have HV := Lib.hid (show ∀ k, k < f.length → (f.getD k []).length ≤ 6 from fun k hk => valid_len (fam_valid hf _ (getD_mem hk)))
  have HV' := Lib.hid (show ∀ k, k < g.length → (g.getD k []).length ≤ 6 from fun k hk => valid_len (fam_valid hg _ (getD_mem hk)))
  have HF := Lib.hid hf
  have HG := Lib.hid hg
  go_enter Try.func9, Try.ntmps9
  go_wp2_with fail
  refine (sFamilyValid_is HW.out hf).mono ?_; rintro e w1 ⟨rfl, d1⟩
  go_wp2_with fail
  refine (sFamilyValid_is (HW'.out.ext d1.ext) hg).mono ?_; rintro e w2 ⟨rfl, d2⟩
  have HE := Lib.hid (show Ext none w w2 from d1.ext.trans d2.ext)
  clear d1 d2 hf hg
  go_wp2_with fail
  go_loopw [7] (fun i wr => ∃ k : Nat, k ≤ n ∧ i = .int .i64 (k : Nat) ∧ NoC (rdF f) (rdF g) k ∧ Ext none w wr) (fun i _ => n - (intOf i).toNat)
  case atStart => exact ⟨0, by omega, rfl, fun j hj => absurd hj (by omega), HE.out⟩
  case round =>
    obtain ⟨k, hk, rfl, hno, he⟩ := hrel
    have HNO := Lib.hid hno
    clear hno
    by_cases hlt : k < n
    · have hltI : (k : Int) < (n : Int) := by omega
      have hkl : k < f.length := by rw [hl.out]; exact hlt
      go_wp2_with fail
      obtain ⟨wo, rfl⟩ : ∃ wo : World, wo = wr := ⟨_, rfl⟩
      go_loopw [8] (fun i wr => ∃ j : Nat, j ≤ m ∧ i = .int .i64 (j : Nat) ∧ (∀ j', j' < j → (rdF f).getD k 0 &&& (rdF g).getD j' 0 ≠ 0) ∧ Ext none w wr) (fun i _ => m - (intOf i).toNat)
      case atStart => exact ⟨0, by omega, rfl, fun j hj => absurd hj (by omega), he⟩
      case round =>
        obtain ⟨j, hj, rfl, hnj, he3⟩ := hrel
        have HNJ := Lib.hid hnj
        clear hnj
        by_cases hjt : j < m
        · have hjtI : (j : Int) < (m : Int) := by omega
          have hjl : j < g.length := by rw [hl'.out]; exact hjt
          have HMZ := Lib.hid (meet_zero HF.out HG.out hkl hjl)
          obtain ⟨b1, off1, a4, n4, c4, rfl, hc4, hi4⟩ := (HW.out.ext he3).cell hlt
          obtain ⟨b5, off5, a5, n5, c5, rfl, hc5, hi5⟩ := (HW'.out.ext he3).cell hjt
          have hn4 : n4 < 1000000 := by have := HV.out k hkl; rw [hi4.len] at this; omega
          have hn5 : n5 < 1000000 := by have := HV'.out j hjl; rw [hi5.len] at this; omega
          have hp4 : 0 < n4 := by rw [← hi4.len]; exact row_pos HF.out hkl
          have hp5 : 0 < n5 := by rw [← hi5.len]; exact row_pos HG.out hjl
          have HI4 := Lib.hid hi4
          have HI5 := Lib.hid hi5
          have HDR := Lib.hid (show Ext none wr wr.drew from (Ext.refl _ _).drew)
          have HE3 := Lib.hid he3
          clear hi4 hi5 he3
          go_wp2_with fail
          go_region_law (go_simp; go_at_call 30; refine (l1Intersect_any (HI4.out.ext HDR.out) (HI5.out.ext HDR.out) hn4).mono ?_; rintro e w6 ⟨a6, n6, c6, rfl, o6, e6⟩; have HE6 := Lib.hid (HDR.out.trans e6); have HN6 := Lib.hid o6.len; clear o6 e6)
          all_goals
            have hc46 := HE6.out.cell hc4
            have hc56 := HE6.out.cell hc5
            by_cases hz : n6 = 0
            · subst hz
              have HZ := Lib.hid (HMZ.out.1 HN6.out)
              go_wp2_with fail
              have hd6 := Lib.hid (show Ext none w6 w6.drew from (Ext.refl _ _).drew)
              have hj0 : n4 + 0 ≤ 1000000 := by omega
              obtain ⟨b4, of4, rfl, _⟩ := HI4.out.cell hp4
              obtain ⟨b7, of7, rfl, _⟩ := HI5.out.cell hp5
              go_region_held3 (fun w' => w'.cell? ⟨b1, off1 + k, none⟩ = some (.slice (some ⟨b4, of4, none⟩) n4 c4) ∧ w'.cell? ⟨b5, off5 + j, none⟩ = some (.slice (some ⟨b7, of7, none⟩) n5 c5))
                (first | exact ⟨E9.cell hc46, E9.cell hc56⟩ | exact ⟨(E8.alloc _).cell hc46, (E8.alloc _).cell hc56⟩ | exact ⟨E8.cell hc46, E8.cell hc56⟩ | exact ⟨((hd6.out.alloc _).alloc _).cell hc46, ((hd6.out.alloc _).alloc _).cell hc56⟩ | exact ⟨(hd6.out.alloc _).cell hc46, (hd6.out.alloc _).cell hc56⟩ | exact ⟨hc46, hc56⟩ | go_keep)
                ((first
                | (have ho48b := ho48; refine step_ints (by kernel_rfl) (.tmp 48) (.tmp 52) rfl _ (some ⟨(w6.drew.alloc (.cells #[] 3)).heap.size, 0, none⟩) 0 0 [] rfl ho48 ⟨b7, of7, none⟩ n5 c5 _ rfl ((HI5.out.ext HE6.out).ext E8) (by omega) (Nat.le_trans (by simp <;> omega) hs8) ?_; intro a9 c9 w9 ho9 hg9; have E9 := E8.grown hg9 (fun q hq => .inl (by cases hq; first | exact Nat.le_refl _ | exact Nat.le_succ _ | simp)); have o8b := ho8.ints.grown hg9 (fun p hp hn e => made_empty ho48 ho8.ints hp hn (by injection e)); simp only [Nat.zero_add, List.nil_append] at ho9; rw [Nat.zero_add]; clear hg9)
                | (have ho48b := ho48; refine step_ints (by kernel_rfl) (.tmp 48) (.tmp 52) rfl _ (some ⟨w6.drew.heap.size + 1, 0, none⟩) 0 0 [] rfl ho48 ⟨b7, of7, none⟩ n5 c5 _ rfl ((HI5.out.ext HE6.out).ext E8) (by omega) (Nat.le_trans (by simp <;> omega) hs8) ?_; intro a9 c9 w9 ho9 hg9; have E9 := E8.grown hg9 (fun q hq => .inl (by cases hq; first | exact Nat.le_refl _ | exact Nat.le_succ _ | simp)); have o8b := ho8.ints.grown hg9 (fun p hp hn e => made_empty ho48 ho8.ints hp hn (by injection e)); simp only [Nat.zero_add, List.nil_append] at ho9; rw [Nat.zero_add]; clear hg9)
                | (have ho48b := ho48; refine step_ints (by kernel_rfl) (.tmp 48) (.tmp 52) rfl _ (some ⟨w6.drew.heap.size, 0, none⟩) 0 0 [] rfl ho48 ⟨b7, of7, none⟩ n5 c5 _ rfl ((HI5.out.ext HE6.out).ext E8) (by omega) (Nat.le_trans (by simp <;> omega) hs8) ?_; intro a9 c9 w9 ho9 hg9; have E9 := E8.grown hg9 (fun q hq => .inl (by cases hq; first | exact Nat.le_refl _ | exact Nat.le_succ _ | simp)); have o8b := ho8.ints.grown hg9 (fun p hp hn e => made_empty ho48 ho8.ints hp hn (by injection e)); simp only [Nat.zero_add, List.nil_append] at ho9; rw [Nat.zero_add]; clear hg9)
                | (have E8b := E8; refine step_ints (by kernel_rfl) (.tmp 48) (.tmp 52) rfl w8.heap.size (some ⟨w8.heap.size, 0, none⟩) 0 0 [] rfl (OwnI.made w8) ⟨b7, of7, none⟩ n5 c5 _ rfl (((HI5.out.ext HE6.out).ext E8).ext ((Ext.refl none _).alloc _)) (by omega) (by simp) ?_; intro a9 c9 w9 ho9 hg9; have E9 := (E8.alloc (.cells #[] 3)).grown hg9 (fun q hq => .inl (by cases hq; exact E8.size)); have o8b := (ho8.ints.ext ((Ext.refl none _).alloc (.cells #[] 3))).grown hg9 (fun p hp hn e => made_empty (OwnI.made w8) (ho8.ints.ext ((Ext.refl none _).alloc (.cells #[] 3))) hp hn (by injection e)); simp only [Nat.zero_add, List.nil_append] at ho9; rw [Nat.zero_add]; clear hg9)
                | (refine step_ints (by kernel_rfl) (.tmp 42) (.tmp 46) rfl w6.drew.heap.size (some ⟨(w6.drew.alloc (.cells #[] 3)).heap.size, 0, none⟩) 0 0 [] rfl ((OwnI.made (w6.drew.alloc (.cells #[] 3))).mono (by simp)) ⟨b4, of4, none⟩ n4 c4 _ rfl (((HI4.out.ext HE6.out).ext hd6.out).ext (((Ext.refl none w6.drew).alloc (.cells #[] 3)).alloc (.cells #[] 3))) (by omega) (by simp <;> omega) ?_; intro a8 c8 w8 ho8 hg8; have E8 := ((hd6.out.alloc (.cells #[] 3)).alloc (.cells #[] 3)).grown hg8 (fun q hq => .inl (by cases hq; first | exact Nat.le_refl _ | exact Nat.le_succ _ | simp)); have hs8 := World.grownBy.size hg8; have ho48 : OwnI w8 w6.drew.heap.size (some ⟨w6.drew.heap.size, 0, none⟩) 0 0 [] := made_keep ((OwnI.made w6.drew).ext0 ((Ext.refl none _).alloc (.cells #[] 3))) hg8 (by simp [Value.ownBlock]); simp only [Nat.zero_add, List.nil_append] at ho8; rw [Nat.zero_add]; clear hg8)
                | (refine step_ints (by kernel_rfl) (.tmp 42) (.tmp 46) rfl w6.drew.heap.size (some ⟨w6.drew.heap.size + 1, 0, none⟩) 0 0 [] rfl (by have h := OwnI.made (w6.drew.alloc (.cells #[] 3)); rw [World.size_alloc] at h; exact h.mono (Nat.le_succ _)) ⟨b4, of4, none⟩ n4 c4 _ rfl (((HI4.out.ext HE6.out).ext hd6.out).ext (((Ext.refl none w6.drew).alloc (.cells #[] 3)).alloc (.cells #[] 3))) (by omega) (by simp <;> omega) ?_; intro a8 c8 w8 ho8 hg8; have E8 := ((hd6.out.alloc (.cells #[] 3)).alloc (.cells #[] 3)).grown hg8 (fun q hq => .inl (by cases hq; first | exact Nat.le_refl _ | exact Nat.le_succ _ | simp)); have hs8 := World.grownBy.size hg8; have ho48 : OwnI w8 w6.drew.heap.size (some ⟨w6.drew.heap.size, 0, none⟩) 0 0 [] := made_keep ((OwnI.made w6.drew).ext0 ((Ext.refl none _).alloc (.cells #[] 3))) hg8 (by simp [Value.ownBlock]); simp only [Nat.zero_add, List.nil_append] at ho8; rw [Nat.zero_add]; clear hg8)
                | (refine step_ints (by kernel_rfl) (.tmp 42) (.tmp 46) rfl w6.drew.heap.size (some ⟨w6.drew.heap.size, 0, none⟩) 0 0 [] rfl ((OwnI.made w6.drew).ext0 ((Ext.refl none _).alloc (.cells #[] 3))) ⟨b4, of4, none⟩ n4 c4 _ rfl (((HI4.out.ext HE6.out).ext hd6.out).ext (((Ext.refl none w6.drew).alloc (.cells #[] 3)).alloc (.cells #[] 3))) (by omega) (by simp <;> omega) ?_; intro a8 c8 w8 ho8 hg8; have E8 := ((hd6.out.alloc (.cells #[] 3)).alloc (.cells #[] 3)).grown hg8 (fun q hq => .inl (by cases hq; first | exact Nat.le_refl _ | exact Nat.le_succ _ | simp)); have hs8 := World.grownBy.size hg8; have ho48 : OwnI w8 w6.drew.heap.size (some ⟨(w6.drew.alloc (.cells #[] 3)).heap.size, 0, none⟩) 0 0 [] := made_keep ((OwnI.made (w6.drew.alloc (.cells #[] 3))).mono (by simp)) hg8 (by simp [Value.ownBlock]); rw [World.size_alloc] at ho48; simp only [Nat.zero_add, List.nil_append] at ho8; rw [Nat.zero_add]; clear hg8)
                | (refine step_ints (by kernel_rfl) (.tmp 42) (.tmp 46) rfl w6.drew.heap.size (some ⟨w6.drew.heap.size, 0, none⟩) 0 0 [] rfl (OwnI.made w6.drew) ⟨b4, of4, none⟩ n4 c4 _ rfl (((HI4.out.ext HE6.out).ext hd6.out).ext ((Ext.refl none _).alloc _)) (by omega) (by simp <;> omega) ?_; intro a8 c8 w8 ho8 hg8; have E8 := (hd6.out.alloc (.cells #[] 3)).grown hg8 (fun q hq => .inl (by cases hq; first | exact Nat.le_refl _ | exact Nat.le_succ _ | simp)); simp only [Nat.zero_add, List.nil_append] at ho8; rw [Nat.zero_add]; clear hg8)))
              all_goals
                have HC := Lib.hid (cex_hit HF.out HG.out hkl hjl HNO.out HNJ.out HZ.out)
                go_wp2_with fail
                go_ret3
                exact ⟨_, _, _, _, _, _, _, _, _, rfl, o8b, ho9.ints, HC.out, HE3.out.trans (HE6.out.trans E9)⟩
            · have hz1 : ((n6 : Int) == 0) = false := by rw [beq_eq_false_iff_ne]; omega
              have HZ := Lib.hid (show ∀ j', j' < j + 1 → (rdF f).getD k 0 &&& (rdF g).getD j' 0 ≠ 0 from fun j' hj' => by
                rcases Nat.lt_or_ge j' j with h1 | h1
                · exact HNJ.out j' h1
                · obtain rfl : j' = j := by omega
                  exact fun e => hz (HN6.out.symm.trans (HMZ.out.2 e)))
              go_wp2_with fail
              go_roundw
              case rel => exact ⟨j + 1, by omega, by go_num, HZ.out, HE3.out.trans HE6.out⟩
              case measure => simp [intOf]; omega
        · obtain rfl : j = m := by omega
          have hnx := Lib.hid (show NoC (rdF f) (rdF g) (k + 1) from fun i hi q hq => by
            rcases Nat.lt_or_ge i k with h1 | h1
            · exact HNO.out i h1 q hq
            · obtain rfl : i = k := by omega
              exact HNJ.out q (by rw [rdF_l HG.out, hl'.out] at hq; exact hq))
          go_wp2_with fail
          go_roundw
          case rel => exact ⟨k + 1, by omega, by go_num, hnx.out, he3⟩
          case measure => simp [intOf]; omega
    · obtain rfl : k = n := by omega
      have HR := Lib.hid (show CexR f g false [] [] from .inl ⟨rfl, rfl, rfl, .inr (by rw [rdF_l HF.out, hl.out]; exact HNO.out)⟩)
      go_wp2_with fail
      go_ret3
      exact ⟨_, _, _, _, _, _, _, _, _, rfl, Ints.nil _ _, Ints.nil _ _, HR.out, (he.alloc _).alloc _⟩
end Go.Proofs.Ytnifgfnhcjhodaa
