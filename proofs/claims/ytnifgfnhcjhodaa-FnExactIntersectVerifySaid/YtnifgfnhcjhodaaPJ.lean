/- XPJ: several texts in one. Conditions: each lemma's own. -/
import Derived.Test.YtnifgfnhcjhodaaPB
import Derived.Test.YtnifgfnhcjhodaaPN
import Derived.Test.YtnifgfnhcjhodaaPW

import Derived.Test.YtnifgfnhcjhodaaPF

namespace Go.Proofs.Ytnifgfnhcjhodaa
open Go.RowKit
set_option linter.unusedVariables false

/-- a slice of masks -/
def Crs (w : World) (a : Option Addr) (n : Nat) (q : List Nat) : Prop := At w a n (q.map (fun c => Value.int .u64 (c : Nat)))
theorem Crs.len {w : World} {a : Option Addr} {n : Nat} {q : List Nat} (h : Crs w a n q) : q.length = n := by simpa using h.1
theorem Crs.max {w : World} {a : Option Addr} {n : Nat} {q : List Nat} (h : Crs w a n q) : n ≤ 9223372036854775807 := At.max h
theorem Crs.ext {w w' : World} {a : Option Addr} {n : Nat} {q : List Nat} (h : Crs w a n q) (hx : Ext none w w') : Crs w' a n q := At.ext h hx
theorem Crs.cell {w : World} {a : Option Addr} {n : Nat} {q : List Nat} (h : Crs w a n q) {k : Nat} (hk : k < n) :
    ∃ b off, a = some ⟨b, off, none⟩ ∧ w.cell? ⟨b, off + k, none⟩ = some (.int .u64 (q.getD k 0 : Nat)) := by
  obtain ⟨b, off, ha, hc⟩ := h.2.2 k hk
  have hl : k < q.length := by rw [h.len]; exact hk
  exact ⟨b, off, ha, by rw [hc]; simp [List.getD, hl]⟩
theorem Crs.cellAt {w : World} {b off n : Nat} {q : List Nat} (h : Crs w (some ⟨b, off, none⟩) n q) {k : Nat} (hk : k < n) :
    w.cell? ⟨b, off + k, none⟩ = some (.int .u64 (q.getD k 0 : Nat)) := by
  obtain ⟨b', off', ha, hc⟩ := h.cell hk
  simp only [Option.some.injEq, Addr.mk.injEq, and_true] at ha
  obtain ⟨rfl, rfl⟩ := ha
  exact hc
theorem Crs.nil (w : World) (a : Option Addr) : Crs w a 0 [] := At.nil w a
def OwnC (w : World) (B : Nat) (a : Option Addr) (n c : Nat) (q : List Nat) : Prop := Own w B 52 a n c (q.map (fun c => Value.int .u64 (c : Nat)))
theorem OwnC.crs {w : World} {B : Nat} {a : Option Addr} {n c : Nat} {q : List Nat} (h : OwnC w B a n c q) : Crs w a n q := Own.at_ h
theorem OwnC.len {w : World} {B : Nat} {a : Option Addr} {n c : Nat} {q : List Nat} (h : OwnC w B a n c q) : q.length = n := h.crs.len
theorem OwnC.mono {w : World} {B B' : Nat} {a : Option Addr} {n c : Nat} {q : List Nat} (h : OwnC w B a n c q) (hB : B' ≤ B) : OwnC w B' a n c q := Own.mono h hB
theorem OwnC.ext0 {w w' : World} {B : Nat} {a : Option Addr} {n c : Nat} {q : List Nat} (h : OwnC w B a n c q) (hx : Ext none w w') : OwnC w' B a n c q := Own.ext0 h hx
theorem OwnC.nil (w : World) (B : Nat) : OwnC w B none 0 0 [] := Own.nil w B _
theorem crewInfo : (Try.prog.info? 52).map (fun i => (i.zero, i.size, i.bytes)) = some (some (.int .u64 0), 1, 8) := by kernel_rfl
/-- 'q = append(q, c)'. -/
theorem app_crew (t : TypeId) (ht : Try.prog.underlying t = some (.slice 52)) (w : World) {ops : Array Oper} {rest : List Oper} {o : Oper} {a : Act} {Q : Exit → Act → World → Prop} (hgd : o.guard = none) (s x : Operand)
    (ho : o.op = .call { callee := .builtin .append, args := #[s, x], argTypes := #[t, t] })
    (B : Nat) (ad : Option Addr) (n c : Nat) (q : List Nat) (hown : OwnC w B ad n c q) (y : Nat) (hs : a.eval s = .slice ad n c)
    (hx : a.eval x = .slice (some ⟨w.heap.size, 0, none⟩) 1 1) (hlen : n + 1 ≤ 1000000) (hB : B ≤ w.heap.size)
    (h : ∀ g c' w', OwnC w' B (some ⟨g, 0, none⟩) (n + 1) c' (q ++ [y]) → w.grownBy w' (Value.slice ad n c).ownBlock → wpList Try.prog ops Q rest (a.put o.dst (.slice (some ⟨g, 0, none⟩) (n + 1) c')) w') :
    wpList Try.prog ops Q (o :: rest) a (w.alloc (.cells #[.int .u64 (y : Nat)] 52)) := by
  obtain ⟨i0, hi, hz0, hz1, hz2⟩ := info_parts crewInfo
  refine append1 w hgd s x t ho B 52 i0 (.int .u64 0) 8 ht hi hz0 hz1 hz2 rfl ad n c _ hs hown (.int .u64 (y : Nat)) hx rfl hlen (by decide) hB ?_
  intro g c' w' h1 h2
  exact h g c' w' (by simpa [OwnC, List.map_append] using h1) h2

theorem up_snoc (q : List Nat) (x c : Nat) : up (q ++ [x]) c = (up q c || sub x c) := by simp [up]
theorem up_take {q : List Nat} {c k : Nat} (h : up (q.take k) c = true) : up q c = true := by
  unfold up at *
  rw [List.any_eq_true] at *
  obtain ⟨x, hx, hs⟩ := h
  exact ⟨x, List.mem_of_mem_take hx, hs⟩
theorem getD_lt {q : List Nat} (hq : ∀ x ∈ q, x < 64) {k : Nat} (hk : k < q.length) : q.getD k 0 < 64 := by
  simp only [List.getD, List.getElem?_eq_getElem hk, Option.getD_some]; exact hq _ (List.getElem_mem hk)

set_option maxHeartbeats 1000000 in
theorem reached_is {a : Option Addr} {n cp : Nat} {q : List Nat} {c : Nat} {b : Bool} {w : World} (h : Crs w a n q) (hq : ∀ x ∈ q, x < 64) (hc64 : c < 64) (hb : up q c = b) :
    Calls Try.prog 67 #[.slice a n cp, .int .u64 c] w fun e w' => e = .returned (.bool b) ∧ w = w' := by
  have hm := h.max
  have HQ := Lib.hid hq
  have HB := Lib.hid hb
  clear hq hb
  go_enter Try.func67, Try.ntmps67
  go_wp2_with fail
  go_loop [9] (fun i => ∃ k : Nat, k ≤ n ∧ i = .int .i64 k ∧ up (q.take k) c = false)
    (fun i => n - (intOf i).toNat)
  case atStart => exact ⟨0, by omega, rfl, rfl⟩
  case round =>
    obtain ⟨k, hk, rfl, hv⟩ := hrel
    have hV := Lib.hid hv
    clear hv
    by_cases hlt : k < n
    · have hl : k < q.length := by rw [h.len]; exact hlt
      obtain ⟨b1, off, rfl, hc⟩ := h.cell hlt
      have hx64 := getD_lt HQ.out hl
      have hst := Lib.hid (show up (q.take (k + 1)) c = sub (q.getD k 0) c from by rw [snoc_take q 0 k hl, up_snoc, hV.out]; rfl)
      obtain ⟨x, hxx⟩ : ∃ x, x = q.getD k 0 := ⟨_, rfl⟩
      rw [← hxx] at hc hx64
      have HX := Lib.hid hxx
      clear hxx
      go_wp2_with fail
      refine (within_any hx64 hc64).mono ?_; rintro e w_ ⟨rfl, rfl⟩
      cases ht : sub x c
      · go_wp2_with fail
        go_round
        case rel => exact ⟨k + 1, by omega, by go_num, by rw [hst.out, ← HX.out]; exact ht⟩
        case measure => simp [intOf]; omega
      · have hin := Lib.hid (show b = true from by rw [← HB.out]; exact up_take (k := k + 1) (by rw [hst.out, ← HX.out]; exact ht))
        go_wp2_with fail
        go_ret
        exact ⟨by rw [hin.out]; rfl, rfl⟩
    · obtain rfl : k = n := by omega
      have hfin := Lib.hid (show b = false from by rw [← HB.out, ← hV.out, List.take_of_length_le (by rw [h.len]; omega)])
      go_wp2_with fail
      go_ret
      exact ⟨by rw [hfin.out]; rfl, rfl⟩


/-- the masks of a quorum system; none of another list -/
def rdF (f : List (List Int)) : List Nat := if famB f then masks f else []
/-- what readFamily leaves -/
def RQ (w : World) (f : List (List Int)) (e : Ending) (w' : World) : Prop :=
  ∃ a n c, e = .returned (.tuple #[.slice a n c, .bool (famB f)]) ∧ OwnC w' w.heap.size a n c (rdF f) ∧ Ext none w w'
theorem readSet_is {a : Option Addr} {n cp : Nat} {xs : List Int} {b : Bool} {w : World} (h : Ints w a n xs) (hb : valid xs = b) :
    Calls Try.prog 56 #[.slice a n cp] w fun e w' => e = .returned (.tuple #[.int .u64 (rdC xs : Nat), .bool b]) ∧ w = w' := by
  rw [← hb]; exact readSet_any h
theorem readSet_ok {a : Option Addr} {n cp : Nat} {xs : List Int} {m : Nat} {w : World} (h : Ints w a n xs) (hv : valid xs = true) (hm : mask xs = m) :
    Calls Try.prog 56 #[.slice a n cp] w fun e w' => e = .returned (.tuple #[.int .u64 (m : Nat), .bool true]) ∧ w = w' := by
  have : rdC xs = m := by unfold rdC; rw [hv, if_pos rfl, hm]
  rw [← this, ← hv]; exact readSet_any h
theorem masks_getD (f : List (List Int)) (k j : Nat) (hj : j < k) (hk : k ≤ f.length) : (masks (f.take k)).getD j 0 = mask (f.getD j []) := by
  unfold masks
  have h1 : j < f.length := by omega
  simp [List.getD, hj, h1]
theorem masks_snoc (f : List (List Int)) (s : List Int) : masks (f ++ [s]) = masks f ++ [mask s] := by simp [masks]
theorem masks_take_len (f : List (List Int)) (k : Nat) (h : k ≤ f.length) : (masks (f.take k)).length = k := by simp [masks]; omega
theorem rdF_no {f : List (List Int)} (h : famB f = false) : rdF f = [] := by unfold rdF; rw [h]; rfl
theorem up_masks_bad {f : List (List Int)} {k : Nat} {s : List Int} (h : up (masks (f.take k)) (mask s) = true) : fstep (f.take k) s = false := by
  unfold up masks at h
  rw [List.any_map, List.any_eq_true] at h
  obtain ⟨x, hx, hs⟩ := h
  exact fstep_bad hx (.inr hs)
theorem up_masks_ok {f : List (List Int)} {k : Nat} {s : List Int} (h : up (masks (f.take k)) (mask s) = false) : ∀ x ∈ f.take k, sub (mask x) (mask s) = false := by
  intro x hx
  unfold up masks at h
  rw [List.any_map, List.any_eq_false] at h
  simpa using h x hx

set_option maxHeartbeats 4000000 in
theorem readFamily_any {a : Option Addr} {n cp : Nat} {f : List (List Int)} {w : World} (h : Fam w a n f) :
    Calls Try.prog 50 #[.slice a n cp] w (RQ w f) := by
  have hm := h.max
  rcases Nat.lt_or_ge 20 n with hbig | hsm
  · have hI : (20 : Int) < (n : Int) := by omega
    have hno := Lib.hid (show famB f = false from by unfold famB; rw [show decide (f.length ≤ 20) = false from by rw [decide_eq_false_iff_not, h.len]; omega, Bool.and_false])
    go_enter Try.func50, Try.ntmps50
    go_wp2_with fail
    go_ret2
    exact ⟨_, _, _, by rw [hno.out]; rfl, by rw [rdF_no hno.out]; exact OwnC.nil _ _, Ext.refl _ _⟩
  have hI : ¬ (20 : Int) < (n : Int) := by omega
  go_enter Try.func50, Try.ntmps50
  go_wp2_with fail
  go_loopw [4, 14] (fun q i wr => ∃ (k : Nat) (a2 : Option Addr) (n2 c2 : Nat), k ≤ n ∧ n2 = k ∧ i = .int .i64 k ∧ q = .slice a2 n2 c2 ∧ fvp (f.take k) = true ∧ OwnC wr w.heap.size a2 n2 c2 (masks (f.take k)) ∧ Ext none w wr)
    (fun _ i _ => n - (intOf i).toNat)
  case atStart => exact ⟨0, none, 0, 0, by omega, rfl, rfl, rfl, rfl, OwnC.nil _ _, Ext.refl _ _⟩
  case round =>
    obtain ⟨k, a2, n2, c2, hk, hn2, rfl, rfl, hv, ho, he⟩ := hrel
    subst hn2
    have HV := Lib.hid hv
    clear hv
    have h1 := h.ext he
    by_cases hlt : n2 < n
    · have hl : n2 < f.length := by rw [h.len]; exact hlt
      obtain ⟨b1, off, a3, n3, c3, rfl, hc, hi⟩ := h1.cell hlt
      obtain ⟨s, hs⟩ : ∃ s, s = f.getD n2 [] := ⟨_, rfl⟩
      rw [← hs] at hi
      have HS := Lib.hid hs
      clear hs
      cases hvs : valid s
      · have hno := Lib.hid (famB_no hl (by rw [← HS.out]; exact fstep_inv hvs))
        go_wp2_with fail
        refine (readSet_is hi hvs).mono ?_; rintro e w_ ⟨rfl, rfl⟩
        go_wp2_with fail
        go_ret2
        exact ⟨_, _, _, by rw [hno.out]; rfl, by rw [rdF_no hno.out]; exact OwnC.nil _ _, he⟩
      · obtain ⟨m, hmm⟩ : ∃ m, m = mask s := ⟨_, rfl⟩
        have hm64 : m < 64 := by rw [hmm]; exact mask_lt hvs
        have HM := Lib.hid hmm.symm
        clear hmm
        by_cases h0 : m = 0
        · subst h0
          have hno := Lib.hid (famB_no hl (by rw [← HS.out]; exact fstep_zero HM.out))
          go_wp2_with fail
          refine (readSet_ok hi hvs HM.out).mono ?_; rintro e w_ ⟨rfl, rfl⟩
          go_wp2_with fail
          go_ret2
          exact ⟨_, _, _, by rw [hno.out]; rfl, by rw [rdF_no hno.out]; exact OwnC.nil _ _, he⟩
        · have hb0 : ((m : Int) == 0) = false := by rw [beq_eq_false_iff_ne]; omega
          have hpos := Lib.hid (show mask s ≠ 0 from by rw [HM.out]; exact h0)
          by_cases hk0 : 0 < n2
          · obtain ⟨b2, off2, rfl, hc2⟩ := ho.crs.cell (k := n2 - 1) (by omega)
            rw [masks_getD f n2 (n2 - 1) (by omega) (by omega)] at hc2
            obtain ⟨x, hx⟩ : ∃ x, x = mask (f.getD (n2 - 1) []) := ⟨_, rfl⟩
            rw [← hx] at hc2
            have HX := Lib.hid hx
            clear hx
            have hI : (0 : Int) < (n2 : Int) := by omega
            by_cases hle : m ≤ x
            · have hleI : (m : Int) ≤ (x : Int) := by omega
              have hno := Lib.hid (famB_no hl (by rw [← HS.out]; exact fstep_bad (mem_take_getD (j := n2 - 1) (by omega) (by omega)) (.inl (by rw [HM.out, ← HX.out]; exact hle))))
              go_wp2_with fail
              refine (readSet_ok hi hvs HM.out).mono ?_; rintro e w_ ⟨rfl, rfl⟩
              go_wp2_with fail
              go_ret2
              exact ⟨_, _, _, by rw [hno.out]; rfl, by rw [rdF_no hno.out]; exact OwnC.nil _ _, he⟩
            · have hleI : ¬ (m : Int) ≤ (x : Int) := by omega
              have h64 : ∀ x ∈ masks (f.take n2), x < 64 := fun x hx => by
                obtain ⟨t, ht, rfl⟩ := List.mem_map.1 hx
                exact mask_lt (fvp_all HV.out t ht).1
              have H64 := Lib.hid h64
              clear h64
              cases hup : up (masks (f.take n2)) m
              · have hok := Lib.hid (show fvp (f.take (n2 + 1)) = true from by
                  rw [fvp_step f n2 hl, HV.out, ← HS.out]
                  obtain ⟨j, rfl⟩ : ∃ j, n2 = j + 1 := ⟨n2 - 1, by omega⟩
                  rw [fstep_of (by omega) HV.out hvs hpos.out (by rw [HM.out]; have := HX.out; simp only [Nat.add_sub_cancel] at this; rw [← this]; omega) (up_masks_ok (by rw [HM.out]; exact hup))]; rfl)
                have hmk := Lib.hid (show masks (f.take n2) ++ [m] = masks (f.take (n2 + 1)) from by rw [snoc_take f [] n2 hl, masks_snoc, ← HS.out, HM.out])
                go_wp2_with fail
                refine (readSet_ok hi hvs HM.out).mono ?_; rintro e w_ ⟨rfl, rfl⟩
                go_wp2_with fail
                refine (reached_is ho.crs H64.out hm64 hup).mono ?_; rintro e w_ ⟨rfl, rfl⟩
                go_wp2_with (at_builtin; refine app_crew 45 Try.underlying45 _ rfl _ _ rfl w.heap.size _ n2 c2 _ ho m rfl rfl (by omega) he.size ?_; intro g c' w1 ho1 hg1)
                go_roundw
                case rel => exact ⟨n2 + 1, _, _, _, by omega, rfl, by go_num, rfl, hok.out, by rw [← hmk.out]; exact ho1, he.grown hg1 (fun j hj => .inl (Own.block ho j hj))⟩
                case measure => simp [intOf]; omega
              · have hno := Lib.hid (famB_no hl (by rw [← HS.out]; exact up_masks_bad (by rw [HM.out]; exact hup)))
                go_wp2_with fail
                refine (readSet_ok hi hvs HM.out).mono ?_; rintro e w_ ⟨rfl, rfl⟩
                go_wp2_with fail
                refine (reached_is ho.crs H64.out hm64 hup).mono ?_; rintro e w_ ⟨rfl, rfl⟩
                go_wp2_with fail
                go_ret2
                exact ⟨_, _, _, by rw [hno.out]; rfl, by rw [rdF_no hno.out]; exact OwnC.nil _ _, he⟩
          · have hI : ¬ (0 : Int) < (n2 : Int) := by omega
            have h64 : ∀ x ∈ masks (f.take n2), x < 64 := fun x hx => by
              obtain ⟨t, ht, rfl⟩ := List.mem_map.1 hx
              exact mask_lt (fvp_all HV.out t ht).1
            have H64 := Lib.hid h64
            clear h64
            cases hup : up (masks (f.take n2)) m
            · have hok := Lib.hid (show fvp (f.take (n2 + 1)) = true from by
                rw [fvp_step f n2 hl, HV.out, ← HS.out]
                have e : n2 = 0 := by omega
                rw [e, List.take_zero, fstep_first hvs hpos.out]; rfl)
              have hmk := Lib.hid (show masks (f.take n2) ++ [m] = masks (f.take (n2 + 1)) from by rw [snoc_take f [] n2 hl, masks_snoc, ← HS.out, HM.out])
              go_wp2_with fail
              refine (readSet_ok hi hvs HM.out).mono ?_; rintro e w_ ⟨rfl, rfl⟩
              go_wp2_with fail
              refine (reached_is ho.crs H64.out hm64 hup).mono ?_; rintro e w_ ⟨rfl, rfl⟩
              go_wp2_with (at_builtin; refine app_crew 45 Try.underlying45 _ rfl _ _ rfl w.heap.size _ n2 c2 _ ho m rfl rfl (by omega) he.size ?_; intro g c' w1 ho1 hg1)
              go_roundw
              case rel => exact ⟨n2 + 1, _, _, _, by omega, rfl, by go_num, rfl, hok.out, by rw [← hmk.out]; exact ho1, he.grown hg1 (fun j hj => .inl (Own.block ho j hj))⟩
              case measure => simp [intOf]; omega
            · have hno := Lib.hid (famB_no hl (by rw [← HS.out]; exact up_masks_bad (by rw [HM.out]; exact hup)))
              go_wp2_with fail
              refine (readSet_ok hi hvs HM.out).mono ?_; rintro e w_ ⟨rfl, rfl⟩
              go_wp2_with fail
              refine (reached_is ho.crs H64.out hm64 hup).mono ?_; rintro e w_ ⟨rfl, rfl⟩
              go_wp2_with fail
              go_ret2
              exact ⟨_, _, _, by rw [hno.out]; rfl, by rw [rdF_no hno.out]; exact OwnC.nil _ _, he⟩
    · obtain rfl : n2 = n := by omega
      have hfin := Lib.hid (show f.take n2 = f from List.take_of_length_le (by rw [h.len]; omega))
      have hyes := Lib.hid (show famB f = true from by
        have := HV.out
        rw [hfin.out] at this
        unfold famB; rw [this, h.len]; simp; omega)
      go_wp2_with fail
      go_ret2
      exact ⟨_, _, _, by rw [hyes.out]; rfl, by unfold rdF; rw [hyes.out, if_pos rfl, ← hfin.out]; exact ho, he⟩


theorem rdF_yes {f : List (List Int)} (h : famB f = true) : rdF f = masks f := by unfold rdF; rw [h]; rfl
/-- readFamily, with its answer a literal -/
theorem readFamily_is {a : Option Addr} {n cp : Nat} {f : List (List Int)} {b : Bool} {w : World} (h : Fam w a n f) (hb : famB f = b) :
    Calls Try.prog 50 #[.slice a n cp] w fun e w' => ∃ a n c, e = .returned (.tuple #[.slice a n c, .bool b]) ∧ OwnC w' w.heap.size a n c (rdF f) ∧ Ext none w w' := by
  rw [← hb]; exact readFamily_any h

theorem not63 {c : Nat} (hc : c < 64) : bits BinOp.andNot IntKind.u64 63 (c : Nat) = ((dif 63 c : Nat) : Int) := by
  have h := u64_andNot_nat 63 c (by omega) (by omega)
  have key : ∀ c < 64, 63 &&& (18446744073709551615 - c) = dif 63 c := by decide +kernel
  rw [show ((63 : Nat) : Int) = 63 from rfl] at h
  rw [h, key c hc]
end Go.Proofs.Ytnifgfnhcjhodaa
