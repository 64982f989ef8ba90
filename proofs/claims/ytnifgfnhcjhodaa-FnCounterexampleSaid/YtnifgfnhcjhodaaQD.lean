/- spec.IntersectCertify; the draw of a certificate. Conditions: each lemma's own. -/
import Derived.Test.YtnifgfnhcjhodaaQC
import Derived.Test.YtnifgfnhcjhodaaX1
set_option linter.unusedVariables false
set_option linter.unusedSimpArgs false
namespace Go.Proofs.Ytnifgfnhcjhodaa
open Go.RowKit

theorem step_int1 {ops : Array Oper} {o : Oper} {a : Act} (w : World) {K : Act → World → Prop} {Q : Exit → Act → World → Prop} {E : Prop}
    (hg : o.guard = none) (s x : Operand) (ho : o.op = Op.call { callee := Callee.builtin Builtin.append, args := #[s, x], argTypes := #[26, 26] })
    (B : Nat) (ad : Option Addr) (n c : Nat) (xs : List Int) (hs : a.eval s = .slice ad n c) (hown : OwnI w B ad n c xs)
    (v : Int) (hx : a.eval x = .slice (some ⟨w.heap.size, 0, none⟩) 1 1) (hlen : n + 1 ≤ 1000000) (hB : B ≤ w.heap.size)
    (hK : ∀ a' c' w', OwnI w' B a' (n + 1) c' (xs ++ [v]) → w.grownBy w' (Value.slice ad n c).ownBlock → K (a.put o.dst (.slice a' (n + 1) c')) w') :
    if Region.wanted o (yielded ops a.tmps) = true then Oper.wp Try.prog o a (w.alloc (.cells #[.int .i64 v] 3)) K Q else E := by
  have hx0 : Ext none w (w.alloc (.cells #[.int .i64 v] 3)) := (Ext.refl _ _).alloc _
  refine step_ints hg s x ho B ad n c xs hs (hown.ext0 hx0) ⟨w.heap.size, 0, none⟩ 1 1 [v] hx (OwnI.lit1 w v).ints hlen (Nat.le_trans hB hx0.size) fun a' c' w' k1 k2 => hK a' c' w' k1 (World.grownBy.trans (World.grownBy_alloc w _ _) k2)

theorem meet_pos {f g : List (List Int)} (h : intL f g = true) {i k : Nat} (hi : i < f.length) (hk : k < g.length) : 0 < (intB (f.getD i []) (g.getD k [])).length := by
  rw [intL_meet, Bool.and_eq_true, Bool.and_eq_true] at h
  obtain ⟨hf, hg, hm⟩ := h
  have hvi := fam_valid hf _ (getD_mem hi)
  have hvk := fam_valid hg _ (getD_mem hk)
  rw [intB_valid hvi hvk]
  have h2 := mem_pos (and_lt (mask_lt hvi) (y := mask (g.getD k [])))
  rw [decide_eq_decide] at h2
  refine h2.2 ?_
  unfold meetQ hitsQ masks at hm
  rw [List.all_eq_true] at hm
  have h3 := hm _ (List.mem_map_of_mem (getD_mem hi))
  rw [List.all_eq_true] at h3
  have h4 := h3 _ (List.mem_map_of_mem (getD_mem hk))
  rw [decide_eq_true_eq, Nat.and_comm] at h4
  exact h4

/-- What IntersectCertify leaves: a row of the call's own; at most 400 entries. -/
def CertR (w : World) (e : Ending) (w' : World) : Prop := ∃ a n c xs p, e = .returned (.tuple #[.slice a n c, .bool p]) ∧ OwnI w' w.heap.size a n c xs ∧ n ≤ 400 ∧ Ext none w w'
set_option maxRecDepth 20000 in
set_option maxHeartbeats 2000000 in
theorem sIntersectCertify_any {a : Option Addr} {n cp : Nat} {f : List (List Int)} {b : Option Addr} {m cq : Nat} {g : List (List Int)} {w : World} (h : Fam w a n f) (h' : Fam w b m g) :
    Calls Try.prog 42 #[.slice a n cp, .slice b m cq] w (CertR w) := by
  have hl := Lib.hid h.len
  have hl' := Lib.hid h'.len
  have hm := h.max
  have hm' := h'.max
  have hx0 : Ext none w (w.alloc (.cells #[] 3)) := (Ext.refl _ _).alloc _
  have HW := Lib.hid h
  have HW' := Lib.hid h'
  have H := Lib.hid (h.ext hx0)
  have H' := Lib.hid (h'.ext hx0)
  have HO := Lib.hid (show OwnI (w.alloc (.cells #[] 3)) w.heap.size (some ⟨w.heap.size, 0, none⟩) 0 0 [] from OwnI.made w)
  clear h h' hx0
  cases hq : intL f g
  · have HQ := Lib.hid hq
    clear hq
    go_enter Try.func42, Try.ntmps42
    go_wp2_with fail
    refine (sIntersects_is H.out H'.out HQ.out).mono ?_; rintro e w1 ⟨rfl, e1⟩
    go_wp2_with fail
    go_ret2
    exact ⟨_, _, _, _, _, rfl, HO.out.ext0 e1, by omega, ((Ext.refl none w).alloc _).trans e1⟩
  · have HQ := Lib.hid hq
    have hfg : famB f = true ∧ famB g = true := by
      rw [intL_meet, Bool.and_eq_true, Bool.and_eq_true] at hq
      exact ⟨hq.1, hq.2.1⟩
    have hn20 : n ≤ 20 := by rw [← hl.out]; exact famB_len hfg.1
    have hm20 : m ≤ 20 := by rw [← hl'.out]; exact famB_len hfg.2
    have HV := Lib.hid (show ∀ k, k < f.length → (f.getD k []).length ≤ 6 from fun k hk => valid_len (fam_valid hfg.1 _ (getD_mem hk)))
    clear hq hfg
    go_enter Try.func42, Try.ntmps42
    go_wp2_with fail
    refine (sIntersects_is H.out H'.out HQ.out).mono ?_; rintro e w1 ⟨rfl, e1⟩
    have HO1 := Lib.hid (HO.out.ext0 e1)
    have HE1 := Lib.hid (show Ext none w w1 from ((Ext.refl none w).alloc _).trans e1)
    clear e1 H H' HO
    go_wp2_with fail
    go_loopw [6, 7] (fun s i wr => ∃ (k : Nat) (a2 : Option Addr) (n2 c2 : Nat) (xs : List Int), k ≤ n ∧ i = .int .i64 (k : Nat) ∧ s = .slice a2 n2 c2 ∧ n2 ≤ 20 * k ∧ OwnI wr w.heap.size a2 n2 c2 xs ∧ Ext none w wr)
      (fun _ i _ => n - (intOf i).toNat)
    case atStart => exact ⟨0, _, _, _, _, by omega, rfl, rfl, by omega, HO1.out, HE1.out⟩
    case round =>
      obtain ⟨k, a2, n2, c2, xs, hk, rfl, rfl, hb, ho, he⟩ := hrel
      by_cases hlt : k < n
      · have hltI : (k : Int) < (n : Int) := by omega
        have hkl : k < f.length := by rw [hl.out]; exact hlt
        go_wp2_with fail
        obtain ⟨wo, rfl⟩ : ∃ wo : World, wo = wr := ⟨_, rfl⟩
        go_loopw [6, 8] (fun s i wr => ∃ (j : Nat) (a2 : Option Addr) (n2 c2 : Nat) (xs : List Int), j ≤ m ∧ i = .int .i64 (j : Nat) ∧ s = .slice a2 n2 c2 ∧ n2 ≤ 20 * k + j ∧ OwnI wr w.heap.size a2 n2 c2 xs ∧ Ext none w wr)
          (fun _ i _ => m - (intOf i).toNat)
        case atStart => exact ⟨0, _, _, _, _, by omega, rfl, rfl, by omega, ho, he⟩
        case round =>
          obtain ⟨j, a3, n3, c3, ys, hj, rfl, rfl, hb3, ho3, he3⟩ := hrel
          by_cases hjt : j < m
          · have hjtI : (j : Int) < (m : Int) := by omega
            have hjl : j < g.length := by rw [hl'.out]; exact hjt
            obtain ⟨b1, off1, a4, n4, c4, rfl, hc4, hi4⟩ := (HW.out.ext he3).cell hlt
            obtain ⟨b5, off5, a5, n5, c5, rfl, hc5, hi5⟩ := (HW'.out.ext he3).cell hjt
            have hn4 : n4 < 1000000 := by have := HV.out k hkl; rw [hi4.len] at this; omega
            have hpos := Lib.hid (meet_pos HQ.out hkl hjl)
            have hi4' := Lib.hid hi4
            have hi5' := Lib.hid hi5
            clear hi4 hi5
            have hdr := Lib.hid (show Ext none wr wr.drew from (Ext.refl _ _).drew)
            have ho3' := Lib.hid ho3
            have he3' := Lib.hid he3
            clear ho3 he3
            go_wp2_with fail
            go_region_law (first
              | (refine step_int1 w6 rfl (.tmp 27) (.tmp 39) rfl w.heap.size a3 n3 c3 _ rfl (ho3'.out.ext0 HE6.out) x6 rfl (by omega) (he3'.out.trans HE6.out).size ?_; intro a7 c7 w7 ho7 hg7)
              | (go_simp; go_at_call 30; refine (l1Intersect_any (hi4'.out.ext hdr.out) (hi5'.out.ext hdr.out) hn4).mono ?_; rintro e w6 ⟨a6, n6, c6, rfl, o6, e6⟩; have HE6 := Lib.hid (hdr.out.trans e6); have hn6 : 0 < n6 := (by rw [← o6.len]; exact hpos.out); obtain ⟨b6, off6, rfl, hc6⟩ := o6.ints.cell hn6; obtain ⟨x6, hx6⟩ : ∃ x6, x6 = (intB (f.getD k []) (g.getD j [])).getD 0 0 := ⟨_, rfl⟩; rw [← hx6, Nat.add_zero] at hc6; clear o6 e6 hx6))
            all_goals
              go_wp2_with fail
              go_roundw
              case rel => exact ⟨j + 1, a7, n3 + 1, c7, _, by omega, by go_num, rfl, by omega, ho7, (he3'.out.trans HE6.out).grown hg7 (fun q hq => .inl (Own.block ho3'.out q hq))⟩
              case measure => simp [intOf]; omega
          · obtain rfl : j = m := by omega
            go_wp2_with fail
            go_roundw
            case rel => exact ⟨k + 1, a3, n3, c3, ys, by omega, by go_num, rfl, by omega, ho3, he3⟩
            case measure => simp [intOf]; omega
      · obtain rfl : k = n := by omega
        go_wp2_with fail
        go_ret2
        exact ⟨_, _, _, _, _, rfl, ho, by omega, he⟩

end Go.Proofs.Ytnifgfnhcjhodaa
