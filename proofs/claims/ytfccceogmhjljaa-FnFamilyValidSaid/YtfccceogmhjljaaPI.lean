/- XPI: several texts in one. Conditions: each lemma's own. -/
import Derived.Test.YtfccceogmhjljaaPH
import Derived.Test.YtfccceogmhjljaaPJ
import Derived.Test.YtfccceogmhjljaaPQ

import Derived.Test.YtfccceogmhjljaaPE

import Derived.Test.YtfccceogmhjljaaPB
namespace Go.Proofs.Ytfccceogmhjljaa
open Go.RowKit
set_option linter.unusedVariables false

set_option maxHeartbeats 1000000 in
theorem lists_any {a : Option Addr} {n cp : Nat} {q : List Nat} {w : World} (h : Crs w a n q) (hq : ∀ x ∈ q, x < 64) (hn : n ≤ 900000) :
    Calls Try.prog 65 #[.slice a n cp] w (RG w (famL q)) := by
  have H := Lib.hid h
  have HQ := Lib.hid hq
  have hlq := Lib.hid h.len
  clear h hq
  go_enter Try.func65, Try.ntmps65
  go_wp2_with fail
  go_loopw [3, 8] (fun v i wr => ∃ (k : Nat) (a2 : Option Addr) (n2 c2 : Nat), k ≤ n ∧ n2 = k ∧ i = .int .i64 (k : Nat) ∧ v = .slice a2 n2 c2 ∧ OwnG wr w.heap.size wr.heap.size a2 n2 c2 (famL (q.take k)) ∧ Ext none w wr)
    (fun _ i _ => n - (intOf i).toNat)
  case atStart => exact ⟨0, none, 0, 0, by omega, rfl, rfl, rfl, OwnG.nil _ _ _, Ext.refl _ _⟩
  case round =>
    obtain ⟨k, a2, n2, c2, hk, hn2, rfl, rfl, hG, hE⟩ := hrel
    subst hn2
    have HG := Lib.hid hG
    have HE := Lib.hid hE
    by_cases hlt : n2 < n
    · have hltI : (n2 : Int) < (n : Int) := by omega
      have hkl : n2 < q.length := by rw [hlq.out]; exact hlt
      obtain ⟨b, off, rfl, hc⟩ := (H.out.ext hE).cell hlt
      have hx64 := getD_lt HQ.out hkl
      obtain ⟨x, hx⟩ : ∃ x, x = q.getD n2 0 := ⟨_, rfl⟩
      rw [← hx] at hc hx64
      have hst := Lib.hid (show famL (q.take (n2 + 1)) = famL (q.take n2) ++ [mem x] from by rw [snoc_take q 0 n2 hkl, ← hx, famL_snoc])
      clear hG hE hx
      go_wp2_with fail
      refine (members_any hx64).mono ?_; rintro e w2 ⟨a3, n3, c3, rfl, o3, e3⟩
      have hG2 := HG.out.ext0 e3
      have HE2 := Lib.hid (HE.out.trans e3)
      have hsz := e3.size
      have hlo := HE.out.size
      clear e3
      go_wp2_with (at_builtin; refine app_rowG _ rfl _ _ rfl w.heap.size wr.heap.size a2 n2 c2 _ hG2 a3 n3 c3 _ o3 hlo rfl rfl (by omega) hsz ?_; intro g c' w5 ho5 hg5)
      go_roundw
      case rel => exact ⟨n2 + 1, _, _, _, by omega, rfl, by go_num, rfl, by rw [hst.out]; exact ho5, HE2.out.grown hg5 (fun j hj => .inl (hG2.ownF.block j hj))⟩
      case measure => simp [intOf]; omega
    · obtain rfl : n2 = n := by omega
      have hall := Lib.hid (show q.take n2 = q from List.take_of_length_le (by rw [hlq.out]; exact Nat.le_refl _))
      clear hG hE
      go_wp2_with fail
      go_ret
      exact ⟨a2, n2, c2, rfl, by rw [← hall.out]; exact HG.out, HE.out⟩

/-- What readFamilies leaves. -/
def RQ2 (w : World) (f g : List (List Int)) (e : Ending) (w' : World) : Prop :=
  ∃ a n c b m d, e = .returned (.tuple #[.slice a n c, .slice b m d, .bool (ok2 f g)]) ∧ OwnC w' w.heap.size a n c (rdF f) ∧ OwnC w' w.heap.size b m d (rdF g) ∧ (∀ k, (Value.slice a n c).ownBlock = some k → (Value.slice b m d).ownBlock ≠ some k) ∧ Ext none w w'
theorem retT {a b : Value} {x y : Bool} (h : x = y) : Ending.returned (.tuple #[a, b, .bool y]) = .returned (.tuple #[a, b, .bool x]) := by rw [h]
set_option maxHeartbeats 1000000 in
theorem readFamilies_any {a : Option Addr} {n cp : Nat} {f : List (List Int)} {b : Option Addr} {m cq : Nat} {g : List (List Int)} {w : World} (h : Fam w a n f) (h' : Fam w b m g) :
    Calls Try.prog 67 #[.slice a n cp, .slice b m cq] w (RQ2 w f g) := by
  cases hf : famB f
  · have hok := Lib.hid (show ok2 f g = false from by unfold ok2; rw [hf]; rfl)
    go_enter Try.func67, Try.ntmps67
    go_wp2_with fail
    refine (readFamily_is h hf).mono ?_; rintro e w1 ⟨a1, n1, c1, rfl, o1, e1⟩
    have hlt := Lib.hid (fun k hk => (World.ownsRow.lt o1 k hk).2)
    go_wp2_with fail
    refine (readFamily_any (h'.ext e1)).mono ?_; rintro e w2 ⟨a2, n2, c2, rfl, o2, e2⟩
    have hge := Lib.hid (fun k hk => (World.ownsRow.lt o2 k hk).1)
    go_wp2_with fail
    go_ret3
    exact ⟨_, _, _, _, _, _, retT hok.out, o1.ext0 e2, o2.mono e1.size, fun k hk hk' => by have := hlt.out k hk; have := hge.out k hk'; omega, e1.trans e2⟩
  · have hok := Lib.hid (show ok2 f g = famB g from by unfold ok2; rw [hf]; rfl)
    go_enter Try.func67, Try.ntmps67
    go_wp2_with fail
    refine (readFamily_is h hf).mono ?_; rintro e w1 ⟨a1, n1, c1, rfl, o1, e1⟩
    have hlt := Lib.hid (fun k hk => (World.ownsRow.lt o1 k hk).2)
    go_wp2_with fail
    refine (readFamily_any (h'.ext e1)).mono ?_; rintro e w2 ⟨a2, n2, c2, rfl, o2, e2⟩
    have hge := Lib.hid (fun k hk => (World.ownsRow.lt o2 k hk).1)
    go_wp2_with fail
    go_ret3
    exact ⟨_, _, _, _, _, _, retT hok.out, o1.ext0 e2, o2.mono e1.size, fun k hk hk' => by have := hlt.out k hk; have := hge.out k hk'; omega, e1.trans e2⟩


theorem readFamilies_is {a : Option Addr} {n cp : Nat} {f : List (List Int)} {b : Option Addr} {m cq : Nat} {g : List (List Int)} {w : World} {q : Bool} (h : Fam w a n f) (h' : Fam w b m g) (hq : ok2 f g = q) :
    Calls Try.prog 67 #[.slice a n cp, .slice b m cq] w fun e w' => ∃ a n c b m d, e = .returned (.tuple #[.slice a n c, .slice b m d, .bool q]) ∧ OwnC w' w.heap.size a n c (rdF f) ∧ OwnC w' w.heap.size b m d (rdF g) ∧ (∀ k, (Value.slice a n c).ownBlock = some k → (Value.slice b m d).ownBlock ≠ some k) ∧ Ext none w w' := by
  rw [← hq]; exact readFamilies_any h h'

set_option maxHeartbeats 2000000 in
theorem FamilyMinimize_any {a : Option Addr} {n cp : Nat} {f : List (List Int)} {w : World} (h : Fam w a n f) :
    Calls Try.prog 22 #[.slice a n cp] w (RGB w (minimizeL f) (okM f)) := by
  have hm := h.max
  have H := Lib.hid h
  have hl := Lib.hid h.len
  rcases Nat.lt_or_ge 64 n with hbig | hsm
  · have hI : (64 : Int) < (n : Int) := by omega
    have hno := Lib.hid (show okM f = false from by
      unfold okM
      rw [show decide (f.length ≤ 64) = false from by rw [decide_eq_false_iff_not, hl.out]; omega, Bool.and_false])
    have hno2 := Lib.hid (minimizeL_no hno.out)
    go_enter Try.func22, Try.ntmps22
    go_wp2_with fail
    go_ret2
    exact ⟨_, _, _, by rw [hno.out]; rfl, by rw [hno2.out]; exact OwnG.nil _ _ _, Ext.refl _ _⟩
  have hI : ¬ (64 : Int) < (n : Int) := by omega
  clear h
  go_enter Try.func22, Try.ntmps22
  go_wp2_with fail
  go_loopw [4, 14] (fun q i wr => ∃ (k : Nat) (a2 : Option Addr) (n2 c2 : Nat), k ≤ n ∧ n2 = k ∧ i = .int .i64 (k : Nat) ∧ q = .slice a2 n2 c2 ∧ (∀ s ∈ f.take k, valid s = true ∧ mask s ≠ 0) ∧ OwnC wr w.heap.size a2 n2 c2 (masks (f.take k)) ∧ Ext none w wr)
    (fun _ i _ => n - (intOf i).toNat)
  case atStart => exact ⟨0, none, 0, 0, by omega, rfl, rfl, rfl, fun s hs => by simp at hs, OwnC.nil _ _, Ext.refl _ _⟩
  case round =>
    obtain ⟨k, a2, n2, c2, hk, hn2, rfl, rfl, hall, ho, he⟩ := hrel
    subst hn2
    have HALL := Lib.hid hall
    have HO := Lib.hid ho
    clear hall ho
    by_cases hlt : n2 < n
    · have hkl : n2 < f.length := by rw [hl.out]; exact hlt
      obtain ⟨b1, off, a3, n3, c3, rfl, hc, hi⟩ := (H.out.ext he).cell hlt
      obtain ⟨s, hs⟩ : ∃ s, s = f.getD n2 [] := ⟨_, rfl⟩
      rw [← hs] at hi
      have HS := Lib.hid hs
      clear hs
      cases hvs : valid s
      · have hno := Lib.hid (okM_bad hkl (.inl (by rw [← HS.out]; exact hvs)))
        have hno2 := Lib.hid (minimizeL_no hno.out)
        go_wp2_with fail
        refine (readSet_is hi hvs).mono ?_; rintro e w_ ⟨rfl, rfl⟩
        go_wp2_with fail
        go_ret2
        exact ⟨_, _, _, by rw [hno.out]; rfl, by rw [hno2.out]; exact OwnG.nil _ _ _, he⟩
      · obtain ⟨m, hmm⟩ : ∃ m, m = mask s := ⟨_, rfl⟩
        have HM := Lib.hid hmm.symm
        clear hmm
        by_cases h0 : m = 0
        · subst h0
          have hno := Lib.hid (okM_bad hkl (.inr (by rw [← HS.out]; exact HM.out)))
          have hno2 := Lib.hid (minimizeL_no hno.out)
          go_wp2_with fail
          refine (readSet_ok hi hvs HM.out).mono ?_; rintro e w_ ⟨rfl, rfl⟩
          go_wp2_with fail
          go_ret2
          exact ⟨_, _, _, by rw [hno.out]; rfl, by rw [hno2.out]; exact OwnG.nil _ _ _, he⟩
        · have hb0 : ((m : Int) == 0) = false := by rw [beq_eq_false_iff_ne]; omega
          have hnx := Lib.hid (show ∀ x ∈ f.take (n2 + 1), valid x = true ∧ mask x ≠ 0 from fun x hx => by
            rcases take_mem_cases hkl hx with hx | hx
            · exact HALL.out x hx
            · rw [hx, ← HS.out]; exact ⟨hvs, by rw [HM.out]; exact h0⟩)
          have hmk := Lib.hid (show masks (f.take n2) ++ [m] = masks (f.take (n2 + 1)) from by rw [snoc_take f [] n2 hkl, masks_snoc, ← HS.out, HM.out])
          go_wp2_with fail
          refine (readSet_ok hi hvs HM.out).mono ?_; rintro e w_ ⟨rfl, rfl⟩
          go_wp2_with (at_builtin; refine app_crew 55 Try.underlying55 _ rfl _ _ rfl w.heap.size a2 n2 c2 _ HO.out m rfl rfl (by omega) he.size ?_; intro g c' w1 ho1 hg1)
          go_roundw
          case rel => exact ⟨n2 + 1, _, _, _, by omega, rfl, by go_num, rfl, hnx.out, by rw [← hmk.out]; exact ho1, he.grown hg1 (fun j hj => .inl (Own.block HO.out j hj))⟩
          case measure => simp [intOf]; omega
    · obtain rfl : n2 = n := by omega
      have hfin := Lib.hid (show f.take n2 = f from List.take_of_length_le (by rw [hl.out]; exact Nat.le_refl _))
      have hval := Lib.hid (show ∀ s ∈ f, valid s = true ∧ mask s ≠ 0 from by have := HALL.out; rwa [hfin.out] at this)
      have hyes := Lib.hid (show okM f = true from by
        unfold okM
        simp only [Bool.and_eq_true, List.all_eq_true, decide_eq_true_eq]
        exact ⟨hval.out, by rw [hl.out]; exact hsm⟩)
      have hyes2 := Lib.hid (show minimizeL f = famL (minOf (up (masks f))) from by unfold minimizeL; rw [hyes.out, if_pos rfl, minL_yes (fun s hs => (hval.out s hs).1)])
      have h64 := Lib.hid (masks64 (fun s hs => (hval.out s hs).1))
      have hcr := Lib.hid (show Crs wr a2 n2 (masks f) from by have := OwnC.crs HO.out; rwa [hfin.out] at this)
      go_wp2_with fail
      refine (minimal_any hcr.out h64.out (by omega)).mono ?_; rintro e w3 ⟨a3, n3, c3, rfl, o3, e3⟩
      have hn3 := Lib.hid (show n3 ≤ 900000 from by rw [← o3.len]; exact Nat.le_trans (List.length_filter_le _ _) (by simp))
      go_wp2_with fail
      refine (lists_any o3.crs (fun x hx => minOf_lt hx) hn3.out).mono ?_; rintro e w4 ⟨a4, n4, c4, rfl, o4, e4⟩
      go_wp2_with fail
      go_ret2
      exact ⟨a4, n4, c4, by rw [hyes.out]; rfl, by rw [hyes2.out]; exact o4.low (he.trans e3).size, (he.trans e3).trans e4⟩

/-- append of a slice of masks that may be nil -/
theorem wpl_crews (t : TypeId) (ht : Try.prog.underlying t = some (.slice 63)) {ops : Array Oper} {rest : List Oper} {o : Oper} {a : Act} {w : World} {Q : Exit → Act → World → Prop}
    (hg : o.guard = none) (s x : Operand) (ho : o.op = Op.call { callee := Callee.builtin Builtin.append, args := #[s, x], argTypes := #[t, t] })
    (B : Nat) (ad : Option Addr) (n c : Nat) (q : List Nat) (hs : a.eval s = .slice ad n c) (hown : OwnC w B ad n c q)
    (B2 : Nat) (sa : Option Addr) (m cs : Nat) (p : List Nat) (hx : a.eval x = .slice sa m cs) (hsrc : OwnC w B2 sa m cs p) (hlen : n + m ≤ 1000000) (hB : B ≤ w.heap.size)
    (hK : ∀ a' c' w', OwnC w' B a' (n + m) c' (q ++ p) → w.grownBy w' (Value.slice ad n c).ownBlock → wpList Try.prog ops Q rest (a.put o.dst (.slice a' (n + m) c')) w') :
    wpList Try.prog ops Q (o :: rest) a w := by
  obtain ⟨i0, hi, hz0, hz1, hz2⟩ := info_parts crewInfo
  cases sa with
  | some sa =>
    refine wpl_app hg s x t ho B 63 i0 (.int .u64 0) 8 ht hi hz0 hz1 hz2 rfl ad n c _ hs hown sa m cs _ hx hsrc.crs ?_ hlen (by decide) hB fun a' c' w' k1 k2 _ _ => hK a' c' w' (by unfold OwnC; rw [List.map_append]; exact k1) k2
    intro u hu
    obtain ⟨y, _, rfl⟩ := List.mem_map.1 hu
    rfl
  | none =>
    have h0 : m = 0 ∧ cs = 0 := by
      rcases hsrc.2 with ⟨hv, h0⟩ | ⟨g, cap, _, hv, _⟩
      · injection hv with _ _ hc; exact ⟨h0, hc⟩
      · injection hv with h _ _; cases h
    obtain ⟨rfl, rfl⟩ := h0
    have hp : p = [] := List.eq_nil_of_length_eq_zero hsrc.len
    subst hp
    refine wpList_append_own_none hg s x t ho B 63 i0 1 ht hi _ n _ hs hown hx ?_
    exact hK ad c w (by rw [List.append_nil]; exact hown) (World.grownBy.refl _ _)

set_option maxHeartbeats 2000000 in
theorem FamilyEither_any {a : Option Addr} {n cp : Nat} {f : List (List Int)} {b : Option Addr} {m cq : Nat} {g : List (List Int)} {w : World} (h : Fam w a n f) (h' : Fam w b m g) :
    Calls Try.prog 27 #[.slice a n cp, .slice b m cq] w (RGB w (eitherL f g) (ok2 f g)) := by
  cases hk : ok2 f g
  · have hno2 := Lib.hid (eitherL_no hk)
    go_enter Try.func27, Try.ntmps27
    go_wp2_with fail
    refine (readFamilies_is h h' hk).mono ?_; rintro e w1 ⟨a1, n1, c1, b1, m1, d1, rfl, o1, o2, hne, e1⟩
    go_wp2_with fail
    go_ret2
    exact ⟨_, _, _, rfl, by rw [hno2.out]; exact OwnG.nil _ _ _, e1⟩
  · obtain ⟨hf, hg⟩ := ok2_iff hk
    have hyes := Lib.hid (eitherL_mask hk)
    have hn1 := Lib.hid (show (masks f).length ≤ 20 from by rw [masks_len]; exact famB_len hf)
    have hm1 := Lib.hid (show (masks g).length ≤ 20 from by rw [masks_len]; exact famB_len hg)
    have hrf := Lib.hid (rdF_yes hf)
    have hrg := Lib.hid (rdF_yes hg)
    have h64 := Lib.hid (show ∀ x ∈ masks f ++ masks g, x < 64 from fun x hx => by
      rcases List.mem_append.1 hx with hx | hx
      · exact masks_lt hf x hx
      · exact masks_lt hg x hx)
    go_enter Try.func27, Try.ntmps27
    go_wp2_with fail
    refine (readFamilies_is h h' hk).mono ?_; rintro e w1 ⟨a1, n1, c1, b1, m1, d1, rfl, o1, o2, hne, e1⟩
    rw [hrf.out] at o1
    rw [hrg.out] at o2
    have l1 : n1 ≤ 20 := by rw [← o1.len]; exact hn1.out
    have l2 : m1 ≤ 20 := by rw [← o2.len]; exact hm1.out
    have HO1 := Lib.hid o1
    have HO2 := Lib.hid o2
    clear o1 o2 hne h h'
    go_wp2_with (at_builtin; refine wpl_crews 56 Try.underlying56 rfl _ _ rfl w.heap.size a1 n1 c1 _ rfl HO1.out w.heap.size b1 m1 d1 _ rfl HO2.out (by omega) e1.size ?_; intro a3 c3 w3 o3 g3)
    have HE3 := Lib.hid (e1.grown g3 (fun j hj => .inl (Own.block HO1.out j hj)))
    have hcr := Lib.hid o3.crs
    refine (minimal_any hcr.out h64.out (by omega)).mono ?_; rintro e w4 ⟨a4, n4, c4, rfl, o4, e4⟩
    have hn4 := Lib.hid (show n4 ≤ 900000 from by rw [← o4.len]; exact Nat.le_trans (List.length_filter_le _ _) (by simp))
    go_wp2_with fail
    refine (lists_any o4.crs (fun x hx => minOf_lt hx) hn4.out).mono ?_; rintro e w5 ⟨a5, n5, c5, rfl, o5, e5⟩
    go_wp2_with fail
    go_ret2
    exact ⟨a5, n5, c5, rfl, by rw [hyes.out]; exact o5.low (HE3.out.trans e4).size, (HE3.out.trans e4).trans e5⟩


theorem unisT_len {p q : List Nat} (hp : p.length ≤ 20) (hq : q.length ≤ 20) (k j : Nat) (c : Nat) : (unis (p.take k) q ++ (q.take j).map (fun y => c ||| y)).length ≤ 420 := by
  rw [List.length_append, unis_len, List.length_map, List.length_take, List.length_take]
  have h3 : min k p.length * q.length ≤ 20 * 20 := Nat.mul_le_mul (by omega) hq
  omega
set_option maxHeartbeats 3000000 in
theorem FamilyBoth_any {a : Option Addr} {n cp : Nat} {f : List (List Int)} {b : Option Addr} {m cq : Nat} {g : List (List Int)} {w : World} (h : Fam w a n f) (h' : Fam w b m g) :
    Calls Try.prog 29 #[.slice a n cp, .slice b m cq] w (RGB w (bothL f g) (ok2 f g)) := by
  cases hk : ok2 f g
  · have hno2 := Lib.hid (bothL_no hk)
    go_enter Try.func29, Try.ntmps29
    go_wp2_with fail
    refine (readFamilies_is h h' hk).mono ?_; rintro e w1 ⟨a1, n1, c1, b1, m1, d1, rfl, o1, o2, hne, e1⟩
    go_wp2_with fail
    go_ret2
    exact ⟨_, _, _, rfl, by rw [hno2.out]; exact OwnG.nil _ _ _, e1⟩
  · obtain ⟨hf, hg⟩ := ok2_iff hk
    have hyes := Lib.hid (bothL_yes hk)
    have hn1 := Lib.hid (show (masks f).length ≤ 20 from by rw [masks_len]; exact famB_len hf)
    have hm1 := Lib.hid (show (masks g).length ≤ 20 from by rw [masks_len]; exact famB_len hg)
    have hrf := Lib.hid (rdF_yes hf)
    have hrg := Lib.hid (rdF_yes hg)
    have hf64 := Lib.hid (masks_lt hf)
    have hg64 := Lib.hid (masks_lt hg)
    have h64 := Lib.hid (show ∀ x ∈ unis (masks f) (masks g), x < 64 from fun x hx => (unis_pos (fam_pos hf) (fam_pos hg) x hx).1)
    have hlen := Lib.hid (unisT_len hn1.out hm1.out)
    go_enter Try.func29, Try.ntmps29
    go_wp2_with fail
    refine (readFamilies_is h h' hk).mono ?_; rintro e w1 ⟨a1, n1, c1, b1, m1, d1, rfl, o1, o2, hne, e1⟩
    rw [hrf.out] at o1
    rw [hrg.out] at o2
    have l1 : n1 ≤ 20 := by rw [← o1.len]; exact hn1.out
    have l2 : m1 ≤ 20 := by rw [← o2.len]; exact hm1.out
    have hl1 := Lib.hid o1.len
    have hl2 := Lib.hid o2.len
    have HO1 := Lib.hid o1.crs
    have HO2 := Lib.hid o2.crs
    have HE1 := Lib.hid e1
    obtain ⟨p, hp⟩ : ∃ p, p = masks f := ⟨_, rfl⟩
    obtain ⟨q, hq⟩ : ∃ q, q = masks g := ⟨_, rfl⟩
    rw [← hp] at hl1 HO1 hf64
    rw [← hq] at hl2 HO2 hg64
    rw [← hp, ← hq] at hlen h64 hyes
    clear o1 o2 hne h h' e1 hp hq hn1 hm1 hrf hrg
    go_wp2_with fail
    go_loopw [9, 25] (fun v i wr => ∃ (k : Nat) (a2 : Option Addr) (n2 c2 : Nat), k ≤ n1 ∧ i = .int .i64 (k : Nat) ∧ v = .slice a2 n2 c2 ∧ OwnC wr w1.heap.size a2 n2 c2 (unis (p.take k) q) ∧ Ext none w1 wr)
      (fun _ i _ => n1 - (intOf i).toNat)
    case atStart => exact ⟨0, none, 0, 0, by omega, rfl, rfl, OwnC.nil _ _, Ext.refl _ _⟩
    case round =>
      obtain ⟨k, a2, n2, c2, hk, rfl, rfl, ho, he⟩ := hrel
      have HO := Lib.hid ho
      clear ho
      by_cases hlt : k < n1
      · have hltI : (k : Int) < (n1 : Int) := by omega
        have hkl : k < p.length := by rw [hl1.out]; exact hlt
        obtain ⟨b, off, rfl, hc⟩ := (HO1.out.ext he).cell hlt
        have hx64 := getD_lt hf64.out hkl
        obtain ⟨x, hx⟩ : ∃ x, x = p.getD k 0 := ⟨_, rfl⟩
        rw [← hx] at hc hx64
        have HX := Lib.hid hx
        clear hx
        go_wp2_with fail
        obtain ⟨wo, rfl⟩ : ∃ wo : World, wo = wr := ⟨_, rfl⟩
        go_loopw [9, 31] (fun v i wr => ∃ (j : Nat) (a2 : Option Addr) (n2 c2 : Nat), j ≤ m1 ∧ i = .int .i64 (j : Nat) ∧ v = .slice a2 n2 c2 ∧ OwnC wr w1.heap.size a2 n2 c2 (unis (p.take k) q ++ (q.take j).map (fun y => x ||| y)) ∧ Ext none w1 wr)
          (fun _ i _ => m1 - (intOf i).toNat)
        case atStart => exact ⟨0, a2, n2, c2, by omega, rfl, rfl, by simpa using HO.out, he⟩
        case round =>
          obtain ⟨j, a3, n3, c3, hj, rfl, rfl, ho3, he3⟩ := hrel
          have HO3 := Lib.hid ho3
          clear ho3
          by_cases hjt : j < m1
          · have hjtI : (j : Int) < (m1 : Int) := by omega
            have hjl : j < q.length := by rw [hl2.out]; exact hjt
            have hn3 : n3 ≤ 420 := by rw [← OwnC.len HO3.out]; exact hlen.out k j x
            obtain ⟨b5, off5, rfl, hc5⟩ := (HO2.out.ext he3).cell hjt
            have hy64 := getD_lt hg64.out hjl
            obtain ⟨y, hy⟩ : ∃ y, y = q.getD j 0 := ⟨_, rfl⟩
            rw [← hy] at hc5 hy64
            have hst := Lib.hid (show unis (p.take k) q ++ (q.take (j + 1)).map (fun y => x ||| y) = (unis (p.take k) q ++ (q.take j).map (fun y => x ||| y)) ++ [x ||| y] from by
              rw [snoc_take q 0 j hjl, List.map_append, ← List.append_assoc, ← hy]; rfl)
            have hbits := bits_or x y hx64 hy64
            clear hy
            go_wp2_with (at_builtin; refine app_crew 55 Try.underlying55 _ rfl _ _ rfl w1.heap.size a3 n3 c3 _ HO3.out (x ||| y) rfl rfl (by omega) he3.size ?_; intro g c' w9 ho9 hg9)
            go_roundw
            case rel => exact ⟨j + 1, _, _, _, by omega, by go_num, rfl, by rw [hst.out]; exact ho9, he3.grown hg9 (fun q hq => .inl (Own.block HO3.out q hq))⟩
            case measure => simp [intOf]; omega
          · obtain rfl : j = m1 := by omega
            have hall := Lib.hid (show q.take j = q from List.take_of_length_le (by rw [hl2.out]; exact Nat.le_refl _))
            have hst := Lib.hid (show unis (p.take (k + 1)) q = unis (p.take k) q ++ q.map (fun y => x ||| y) from by
              rw [snoc_take p 0 k hkl, unis_step, ← HX.out])
            go_wp2_with fail
            go_roundw
            case rel => exact ⟨k + 1, a3, n3, c3, by omega, by go_num, rfl, by rw [hst.out, ← hall.out]; rw [hall.out]; have := HO3.out; rwa [hall.out] at this, he3⟩
            case measure => simp [intOf]; omega
      · obtain rfl : k = n1 := by omega
        have hall := Lib.hid (show p.take k = p from List.take_of_length_le (by rw [hl1.out]; exact Nat.le_refl _))
        have hcr := Lib.hid (show Crs wr a2 n2 (unis p q) from by have := OwnC.crs HO.out; rwa [hall.out] at this)
        have hn2 := Lib.hid (show n2 ≤ 900000 from by rw [← OwnC.len HO.out]; have := hlen.out k 0 0; simp at this; omega)
        go_wp2_with fail
        refine (minimal_any hcr.out h64.out hn2.out).mono ?_; rintro e w4 ⟨a4, n4, c4, rfl, o4, e4⟩
        have hn4 := Lib.hid (show n4 ≤ 900000 from by rw [← o4.len]; exact Nat.le_trans (List.length_filter_le _ _) (by simp))
        go_wp2_with fail
        refine (lists_any o4.crs (fun x hx => minOf_lt hx) hn4.out).mono ?_; rintro e w5 ⟨a5, n5, c5, rfl, o5, e5⟩
        have hE := Lib.hid ((HE1.out.trans he).trans e4)
        go_wp2_with fail
        go_ret2
        exact ⟨a5, n5, c5, rfl, by rw [hyes.out]; exact o5.low hE.out.size, hE.out.trans e5⟩
end Go.Proofs.Ytfccceogmhjljaa
