/- The quorum systems of package impl: FamilyBoth. Conditions: each lemma's own. -/
import Derived.Test.YtnlmcbilhfmenaaCE
import Derived.Test.YtnlmcbilhfmenaaC3
namespace Go.Proofs.Ytnlmcbilhfmenaa
open Go.RowKit
set_option linter.unusedVariables false

theorem unisT_len {p q : List Nat} (hp : p.length ≤ 20) (hq : q.length ≤ 20) (k j : Nat) (c : Nat) : (unis (p.take k) q ++ (q.take j).map (fun y => c ||| y)).length ≤ 420 := by
  rw [List.length_append, unis_len, List.length_map, List.length_take, List.length_take]
  have h3 : min k p.length * q.length ≤ 20 * 20 := Nat.mul_le_mul (by omega) hq
  omega
set_option maxHeartbeats 3000000 in
theorem FamilyBoth_any {a : Option Addr} {n cp : Nat} {f : List (List Int)} {b : Option Addr} {m cq : Nat} {g : List (List Int)} {w : World} (h : Fam w a n f) (h' : Fam w b m g) :
    Calls Try.prog 52 #[.slice a n cp, .slice b m cq] w (RGB w (bothL f g) (ok2 f g)) := by
  cases hk : ok2 f g
  · have hno2 := Lib.hid (bothL_no hk)
    go_enter Try.func52, Try.ntmps52
    go_wp2_with fail
    refine (readFamilies_is h h' hk).mono ?_; rintro e w1 ⟨a1, n1, c1, b1, m1, d1, rfl, o1, o2, hne, e1⟩
    go_wp2_with fail
    go_ret2
    exact ⟨_, _, _, rfl, by rw [hno2.out]; exact OwnG.nil _ _ _, e1⟩
  · obtain ⟨hf, hg⟩ := ok2_iff hk
    have hyes := Lib.hid (bothL_yes hk)
    have hn1 := Lib.hid (show (masks f).length ≤ 20 from by rw [masks_len]; exact famB_len hf)
    have hm1 := Lib.hid (show (masks g).length ≤ 20 from by rw [masks_len]; exact famB_len hg)
    have hrf := Lib.hid (rdF_yes hf)
    have hrg := Lib.hid (rdF_yes hg)
    have hf64 := Lib.hid (masks_lt hf)
    have hg64 := Lib.hid (masks_lt hg)
    have h64 := Lib.hid (show ∀ x ∈ unis (masks f) (masks g), x < 64 from fun x hx => (unis_pos (fam_pos hf) (fam_pos hg) x hx).1)
    have hlen := Lib.hid (unisT_len hn1.out hm1.out)
    go_enter Try.func52, Try.ntmps52
    go_wp2_with fail
    refine (readFamilies_is h h' hk).mono ?_; rintro e w1 ⟨a1, n1, c1, b1, m1, d1, rfl, o1, o2, hne, e1⟩
    rw [hrf.out] at o1
    rw [hrg.out] at o2
    have l1 : n1 ≤ 20 := by rw [← o1.len]; exact hn1.out
    have l2 : m1 ≤ 20 := by rw [← o2.len]; exact hm1.out
    have hl1 := Lib.hid o1.len
    have hl2 := Lib.hid o2.len
    have HO1 := Lib.hid o1.crs
    have HO2 := Lib.hid o2.crs
    have HE1 := Lib.hid e1
    obtain ⟨p, hp⟩ : ∃ p, p = masks f := ⟨_, rfl⟩
    obtain ⟨q, hq⟩ : ∃ q, q = masks g := ⟨_, rfl⟩
    rw [← hp] at hl1 HO1 hf64
    rw [← hq] at hl2 HO2 hg64
    rw [← hp, ← hq] at hlen h64 hyes
    clear o1 o2 hne h h' e1 hp hq hn1 hm1 hrf hrg
    go_wp2_with fail
    go_loopw [9, 25] (fun v i wr => ∃ (k : Nat) (a2 : Option Addr) (n2 c2 : Nat), k ≤ n1 ∧ i = .int .i64 (k : Nat) ∧ v = .slice a2 n2 c2 ∧ OwnC wr w1.heap.size a2 n2 c2 (unis (p.take k) q) ∧ Ext none w1 wr)
      (fun _ i _ => n1 - (intOf i).toNat)
    case atStart => exact ⟨0, none, 0, 0, by omega, rfl, rfl, OwnC.nil _ _, Ext.refl _ _⟩
    case round =>
      obtain ⟨k, a2, n2, c2, hk, rfl, rfl, ho, he⟩ := hrel
      have HO := Lib.hid ho
      clear ho
      by_cases hlt : k < n1
      · have hltI : (k : Int) < (n1 : Int) := by omega
        have hkl : k < p.length := by rw [hl1.out]; exact hlt
        obtain ⟨b, off, rfl, hc⟩ := (HO1.out.ext he).cell hlt
        have hx64 := getD_lt hf64.out hkl
        obtain ⟨x, hx⟩ : ∃ x, x = p.getD k 0 := ⟨_, rfl⟩
        rw [← hx] at hc hx64
        have HX := Lib.hid hx
        clear hx
        go_wp2_with fail
        obtain ⟨wo, rfl⟩ : ∃ wo : World, wo = wr := ⟨_, rfl⟩
        go_loopw [9, 31] (fun v i wr => ∃ (j : Nat) (a2 : Option Addr) (n2 c2 : Nat), j ≤ m1 ∧ i = .int .i64 (j : Nat) ∧ v = .slice a2 n2 c2 ∧ OwnC wr w1.heap.size a2 n2 c2 (unis (p.take k) q ++ (q.take j).map (fun y => x ||| y)) ∧ Ext none w1 wr)
          (fun _ i _ => m1 - (intOf i).toNat)
        case atStart => exact ⟨0, a2, n2, c2, by omega, rfl, rfl, by simpa using HO.out, he⟩
        case round =>
          obtain ⟨j, a3, n3, c3, hj, rfl, rfl, ho3, he3⟩ := hrel
          have HO3 := Lib.hid ho3
          clear ho3
          by_cases hjt : j < m1
          · have hjtI : (j : Int) < (m1 : Int) := by omega
            have hjl : j < q.length := by rw [hl2.out]; exact hjt
            have hn3 : n3 ≤ 420 := by rw [← OwnC.len HO3.out]; exact hlen.out k j x
            obtain ⟨b5, off5, rfl, hc5⟩ := (HO2.out.ext he3).cell hjt
            have hy64 := getD_lt hg64.out hjl
            obtain ⟨y, hy⟩ : ∃ y, y = q.getD j 0 := ⟨_, rfl⟩
            rw [← hy] at hc5 hy64
            have hst := Lib.hid (show unis (p.take k) q ++ (q.take (j + 1)).map (fun y => x ||| y) = (unis (p.take k) q ++ (q.take j).map (fun y => x ||| y)) ++ [x ||| y] from by
              rw [snoc_take q 0 j hjl, List.map_append, ← List.append_assoc, ← hy]; rfl)
            have hbits := bits_or x y hx64 hy64
            clear hy
            go_wp2_with (at_builtin; refine app_crew 49 Try.underlying49 _ rfl _ _ rfl w1.heap.size a3 n3 c3 _ HO3.out (x ||| y) rfl rfl (by omega) he3.size ?_; intro g c' w9 ho9 hg9)
            go_roundw
            case rel => exact ⟨j + 1, _, _, _, by omega, by go_num, rfl, by rw [hst.out]; exact ho9, he3.grown hg9 (fun q hq => .inl (Own.block HO3.out q hq))⟩
            case measure => simp [intOf]; omega
          · obtain rfl : j = m1 := by omega
            have hall := Lib.hid (show q.take j = q from List.take_of_length_le (by rw [hl2.out]; exact Nat.le_refl _))
            have hst := Lib.hid (show unis (p.take (k + 1)) q = unis (p.take k) q ++ q.map (fun y => x ||| y) from by
              rw [snoc_take p 0 k hkl, unis_step, ← HX.out])
            go_wp2_with fail
            go_roundw
            case rel => exact ⟨k + 1, a3, n3, c3, by omega, by go_num, rfl, by rw [hst.out, ← hall.out]; rw [hall.out]; have := HO3.out; rwa [hall.out] at this, he3⟩
            case measure => simp [intOf]; omega
      · obtain rfl : k = n1 := by omega
        have hall := Lib.hid (show p.take k = p from List.take_of_length_le (by rw [hl1.out]; exact Nat.le_refl _))
        have hcr := Lib.hid (show Crs wr a2 n2 (unis p q) from by have := OwnC.crs HO.out; rwa [hall.out] at this)
        have hn2 := Lib.hid (show n2 ≤ 900000 from by rw [← OwnC.len HO.out]; have := hlen.out k 0 0; simp at this; omega)
        go_wp2_with fail
        refine (minimal_any hcr.out h64.out hn2.out).mono ?_; rintro e w4 ⟨a4, n4, c4, rfl, o4, e4⟩
        have hn4 := Lib.hid (show n4 ≤ 900000 from by rw [← o4.len]; exact Nat.le_trans (List.length_filter_le _ _) (by simp))
        go_wp2_with fail
        refine (lists_any o4.crs (fun x hx => minOf_lt hx) hn4.out).mono ?_; rintro e w5 ⟨a5, n5, c5, rfl, o5, e5⟩
        have hE := Lib.hid ((HE1.out.trans he).trans e4)
        go_wp2_with fail
        go_ret2
        exact ⟨a5, n5, c5, rfl, by rw [hyes.out]; exact o5.low hE.out.size, hE.out.trans e5⟩
end Go.Proofs.Ytnlmcbilhfmenaa
