/- container/heap over package impl: Pop; minimal. Conditions: each lemma's own. -/
import Derived.Test.YtnlmcbilhfmenaaH4
namespace Go.Proofs.Ytnlmcbilhfmenaa
open Go.RowKit
set_option linter.unusedVariables false

set_option maxRecDepth 20000 in
set_option maxHeartbeats 3000000 in
theorem heapPop_any {hb lo hi n : Nat} {q : List Nat} {w : World} (h : HeapM w hb lo hi q) (hl : q.length = n + 1) (hh : heapOn q.length q) (hq : q.length ≤ 1000000) :
    Calls Try.prog 93 #[.iface 82 (.pointer (some ⟨hb, 0, none⟩))] w fun e w' => ∃ (x : Nat) (q' : List Nat), e = .returned (.iface 54 (.int .u64 (x : Nat))) ∧ (q' ++ [x]).Perm q ∧ heapOn q'.length q' ∧ q'.length = n ∧ (∀ y ∈ q, x ≤ y) ∧ HeapM w' hb lo hi q' ∧ Chg lo hi w w' := by
  have H := Lib.hid h
  obtain ⟨a, c, hc, hf, ho, hne, hlo, hhb⟩ := h.cell
  rw [hl] at hc ho hne
  obtain ⟨g, rfl, hg⟩ := crsOwn ho (by omega)
  have HO := Lib.hid ho
  have HL := Lib.hid hl
  have hst := Lib.hid (down_start hl hh)
  have hpm := Lib.hid (swp_perm q 0 n (by omega) (by omega))
  have hlast := Lib.hid (show (swp q 0 n).getD n 0 = q.getD 0 0 from by rw [swp_get q 0 n n (by omega) (by omega), if_pos rfl])
  have hleast := Lib.hid (heap_least hh)
  have hq2 : n + 1 ≤ 1000000 := by omega
  clear ho hl hh h hne hf hq
  have e1 : ((n + 1 : Nat) : Int) - 1 = (n : Int) := by omega
  have m1 := m_val "Len" _ kLen hb w _ hc
  have m2 := m_val "Swap" _ kSwap hb w _ hc
  go_enter Try.func93, Try.ntmps93
  go_wp2_with (go_at_call 92; refine (oLen_any (by omega)).mono ?_; rintro e w' ⟨rfl, rfl⟩)
  rw [show (0 : Int) = ((0 : Nat) : Int) from rfl]
  refine (oSwap_any HO.out (by omega) (by omega)).mono ?_; rintro e w2 ⟨⟨v, rfl⟩, o2, g2⟩
  have hM2 := Lib.hid (H.out.swapped (a := none) hc o2 g2)
  clear o2 g2 m1 m2 hc
  go_wp2_with fail
  refine (heapDown_any hM2.out.1 (by rw [swp_len, HL.out]; omega) hst.out (by rw [swp_len, HL.out]; exact hq2)).mono ?_; rintro e w3 ⟨⟨v, rfl⟩, p, hp, hh3, hk3, hM3, hC3⟩
  have hlp := Lib.hid (show p.length = n + 1 from by rw [hp.length_eq, swp_len, HL.out])
  have HP := Lib.hid (hp.trans hpm.out)
  have HH := Lib.hid hh3
  have hx := Lib.hid (show p.getD n 0 = q.getD 0 0 from by rw [hk3 n (Nat.le_refl _), hlast.out])
  have HM := Lib.hid hM3
  have HC := Lib.hid (hM2.out.2.trans hC3)
  clear hp hh3 hk3 hM3 hC3
  have m3 := m_pop hb w3
  go_wp2_with fail
  refine (oPop_any HM.out hlp.out).mono ?_; rintro e w4 ⟨rfl, hM4, hC4⟩
  have HM4 := Lib.hid hM4
  have HC4 := Lib.hid (HC.out.trans hC4)
  clear hM4 hC4 m3
  go_wp2_with fail
  go_ret
  refine ⟨p.getD n 0, p.take n, rfl, popped hlp.out HP.out, heap_take HH.out (by rw [hlp.out]; omega), by rw [List.length_take, hlp.out]; omega, fun y hy => by rw [hx.out]; exact hleast.out y hy, HM4.out, HC4.out⟩

theorem ta_crew2 (x : Nat) (w : World) : (Instr.typeAssert (.iface 54 (.int .u64 (x : Nat))) 20 54 true).run Try.prog w = .ok (.tuple #[.int .u64 (x : Nat), .bool true]) w := by kernel_rfl

/-- how many are in the heap -/
def heapLen (hb : Nat) (w : World) : Nat := match w.cell? ⟨hb, 0, none⟩ with | some (.slice _ n _) => n | _ => 0
theorem HeapM.many {w : World} {hb lo hi : Nat} {q : List Nat} (h : HeapM w hb lo hi q) : heapLen hb w = q.length := by
  obtain ⟨a, c, hc, _⟩ := h.cell
  unfold heapLen; rw [hc]
theorem HeapM.made (w : World) : HeapM ((w.alloc (.cells #[] 54)).alloc (.cells #[.slice (some ⟨w.heap.size, 0, none⟩) 0 0] 83)) (w.heap.size + 1) w.heap.size (w.heap.size + 2) [] := by
  have h1 : OwnC (w.alloc (.cells #[] 54)) w.heap.size (some ⟨w.heap.size, 0, none⟩) 0 0 [] := World.ownsRow_made w #[] 0 (Nat.le_refl _) (by simp [maxLen]) rfl
  refine ⟨_, 0, 0, ?_, h1.ext0 ((Ext.refl none _).alloc _), by omega, by omega, fun g hg => ?_⟩
  · have := heap_alloc_new (w.alloc (.cells #[] 54)) (.cells #[.slice (some ⟨w.heap.size, 0, none⟩) 0 0] 83)
    rw [World.size_alloc] at this; exact this
  · have : w.heap.size = g := by simpa [Value.ownBlock] using hg
    omega
theorem out_lt {q out left : List Nat} (h : MinI q out left) (hq : ∀ x ∈ q, x < 64) : ∀ x ∈ out, x < 64 := fun x hx => hq x (h.2.1 x hx)

set_option maxRecDepth 20000 in
set_option maxHeartbeats 4000000 in
theorem minimal_any {a : Option Addr} {n cp : Nat} {q : List Nat} {w : World} (h : Crs w a n q) (hq : ∀ x ∈ q, x < 64) (hn : n ≤ 900000) :
    Calls Try.prog 80 #[.slice a n cp] w fun e w' => ∃ a n c, e = .returned (.slice a n c) ∧ OwnC w' w.heap.size a n c (minOf (up q)) ∧ Ext none w w' := by
  have H := Lib.hid h
  have HQ := Lib.hid hq
  have hlq := Lib.hid h.len
  have hmx := h.max
  clear h hq
  obtain ⟨hb, hhb⟩ : ∃ hb, hb = w.heap.size + 1 := ⟨_, rfl⟩
  have hst := Lib.hid (show HeapM ((w.alloc (.cells #[] 54)).alloc (.cells #[.slice (some ⟨w.heap.size, 0, none⟩) 0 0] 83)) hb w.heap.size (w.heap.size + 2) [] from by rw [hhb]; exact HeapM.made w)
  have hE0 := Lib.hid (show Ext none w ((w.alloc (.cells #[] 54)).alloc (.cells #[.slice (some ⟨w.heap.size, 0, none⟩) 0 0] 83)) from ((Ext.refl _ _).alloc _).alloc _)
  have hsz := Lib.hid (show w.heap.size + 2 = ((w.alloc (.cells #[] 54)).alloc (.cells #[.slice (some ⟨w.heap.size, 0, none⟩) 0 0] 83)).heap.size from by simp)
  have HHB := Lib.hid hhb
  clear hhb
  go_enter Try.func80, Try.ntmps80
  go_wp2_with fail
  rw [← HHB.out]
  go_loopw [13] (fun i wr => ∃ (k : Nat) (p : List Nat), k ≤ n ∧ i = .int .i64 (k : Nat) ∧ HeapM wr hb w.heap.size wr.heap.size p ∧ heapOn p.length p ∧ p.Perm (q.take k) ∧ Ext none w wr)
    (fun i _ => n - (intOf i).toNat)
  case atStart => exact ⟨0, [], by omega, rfl, hsz.out ▸ hst.out, heap_nil, List.Perm.refl _, hE0.out⟩
  case round =>
    obtain ⟨k, p, hk, rfl, hM, hH, hP, hE⟩ := hrel
    have HM := Lib.hid hM
    have HH := Lib.hid hH
    have HP := Lib.hid hP
    have hpl := Lib.hid (show p.length = k from by rw [hP.length_eq, List.length_take, hlq.out]; omega)
    by_cases hlt : k < n
    · have hltI : (k : Int) < (n : Int) := by omega
      have hkl : k < q.length := by rw [hlq.out]; exact hlt
      obtain ⟨b, off, rfl, hc⟩ := (H.out.ext hE).cell hlt
      obtain ⟨x, hx⟩ : ∃ x, x = q.getD k 0 := ⟨_, rfl⟩
      rw [← hx] at hc
      have HX := Lib.hid hx
      clear hM hH hP hx
      go_wp2_with fail
      refine (heapPush_any (x := x) HM.out HH.out hE (Nat.le_refl _) (by rw [hpl.out]; omega)).mono ?_; rintro e w2 ⟨⟨v, rfl⟩, p2, hp2, hh2, hM2, hE2⟩
      have hp3 := Lib.hid (show p2.Perm (q.take (k + 1)) from by rw [snoc_take q 0 k hkl, ← HX.out]; exact hp2.trans (List.Perm.append_right _ HP.out))
      have HH2 := Lib.hid hh2
      have HM2 := Lib.hid hM2
      clear hp2 hh2 hM2 hE
      go_wp2_with fail
      go_roundw
      case rel => exact ⟨k + 1, p2, by omega, by go_num, HM2.out, HH2.out, hp3.out, hE2⟩
      case measure => simp [intOf]; omega
    · obtain rfl : k = n := by omega
      have hall := Lib.hid (show q.take k = q from List.take_of_length_le (by rw [hlq.out]; exact Nat.le_refl _))
      have hmi := Lib.hid (MinI.start q (hall.out ▸ hP))
      have hHs := Lib.hid hE.size
      clear hM hH hP
      go_wp2_with fail
      obtain ⟨w9, hw9⟩ : ∃ x, x = wr := ⟨_, rfl⟩
      rw [← hw9] at HM hE hHs ⊢
      clear hw9
      go_loopw [6] (fun v wr => ∃ (p out : List Nat) (a2 : Option Addr) (n2 c2 : Nat), v = .slice a2 n2 c2 ∧ OwnC wr w9.heap.size a2 n2 c2 out ∧ HeapM wr hb w.heap.size w9.heap.size p ∧ heapOn p.length p ∧ MinI q out p ∧ p.length + n2 ≤ k ∧ Ext none w wr ∧ w9.heap.size ≤ wr.heap.size)
        (fun _ wr => heapLen hb wr)
      case atStart => exact ⟨p, [], none, 0, 0, rfl, OwnC.nil _ _, HM.out, HH.out, hmi.out, by rw [hpl.out]; exact Nat.le_refl _, hE, Nat.le_refl _⟩
      case round =>
        obtain ⟨p, out, a2, n2, c2, rfl, hO, hM, hH, hI, hlen, hE2, hS⟩ := hrel
        have HO := Lib.hid hO
        have HI := Lib.hid hI
        have HH2 := Lib.hid hH
        have HM2 := Lib.hid hM
        have hmany := Lib.hid hM.many
        obtain ⟨a3, c3, hc3, _⟩ := hM.cell
        by_cases h0 : p.length = 0
        · have hp0 : p = [] := List.eq_nil_of_length_eq_zero h0
          subst hp0
          have hfin := Lib.hid (MinI.done HI.out HQ.out)
          have hc3 : wr.cell? ⟨hb, 0, none⟩ = some (.slice a3 0 c3) := hc3
          clear hM hH hI h0 hO
          go_wp2_with (go_at_call 92; refine (oLen_any (by omega)).mono ?_; rintro e w' ⟨rfl, rfl⟩)
          go_ret
          exact ⟨a2, n2, c2, rfl, by rw [← hfin.out]; exact HO.out.mono hHs.out, hE2⟩
        · obtain ⟨m, hm⟩ : ∃ m, p.length = m + 1 := ⟨p.length - 1, by omega⟩
          rw [hm] at hc3 hlen
          have HL := Lib.hid hm
          have hpos : (0 : Int) < ((m + 1 : Nat) : Int) := by omega
          clear hM hH hI hm h0 hO
          have hm3 : m + 1 ≤ 1000000 := by omega
          go_wp2_with (go_at_call 92; refine (oLen_any (by omega)).mono ?_; rintro e w' ⟨rfl, rfl⟩)
          refine (heapPop_any HM2.out HL.out HH2.out (by rw [HL.out]; omega)).mono ?_; rintro e w4 ⟨x, p', rfl, hperm, hh4, hl4, hle4, hM4, hC4⟩
          have HM4 := Lib.hid hM4
          have HH4 := Lib.hid hh4
          have HP4 := Lib.hid hperm
          have HL4 := Lib.hid hl4
          have HLE := Lib.hid hle4
          have HO4 := Lib.hid (show OwnC w4 w9.heap.size a2 n2 c2 out from Own.same HO.out (fun g hg => hC4.2.2.2.2 g (World.ownsRow.lt HO.out g hg).2 (.inr (World.ownsRow.lt HO.out g hg).1)))
          have hE4 := Lib.hid (hC4.ext hE2 (Nat.le_refl _))
          have hS4 := Lib.hid (show w9.heap.size ≤ w4.heap.size from Nat.le_trans hS hC4.2.2.2.1)
          have hxq := Lib.hid (show x ∈ q from HI.out.2.2.1 x (HP4.out.mem_iff.1 (by simp)))
          have hx64 := HQ.out x hxq.out
          have hcr := Lib.hid (OwnC.crs HO4.out)
          have ho64 := Lib.hid (out_lt HI.out HQ.out)
          have hmany4 := Lib.hid HM4.out.many
          clear hM4 hh4 hperm hl4 hle4 hC4 hc3 hE2 hS
          have t2 := ta_crew2
          cases hu : up out x
          · have hnx := Lib.hid (HI.out.keep HP4.out HLE.out hu)
            go_wp2_with fail
            refine (reached_is hcr.out ho64.out hx64 hu).mono ?_; rintro e w_ ⟨rfl, rfl⟩
            go_wp2_with (at_builtin; refine app_crew 50 Try.underlying50 _ rfl _ _ rfl w9.heap.size a2 n2 c2 _ HO4.out x rfl rfl (by omega) hS4.out ?_; intro g c' w5 ho5 hg5)
            have hM5 := Lib.hid (HM4.out.same (w' := w5) (fun g _ hg hlt => hg5.block g hlt (fun e => by have := (World.ownsRow.lt HO4.out g e.symm).1; omega)))
            go_roundw
            case rel => exact ⟨p', out ++ [x], _, n2 + 1, c', rfl, ho5, hM5.out, HH4.out, hnx.out, by rw [HL4.out]; omega, hE4.out.grown hg5 (fun j hj => .inl (by have := (World.ownsRow.lt HO4.out j hj).1; have := hHs.out; omega)), Nat.le_trans hS4.out hg5.size⟩
            case measure => rw [hM5.out.many, hmany.out, HL4.out, HL.out]; omega
          · have hnx := Lib.hid (HI.out.skip HP4.out hu)
            go_wp2_with fail
            refine (reached_is hcr.out ho64.out hx64 hu).mono ?_; rintro e w_ ⟨rfl, rfl⟩
            go_wp2_with fail
            go_roundw
            case rel => exact ⟨p', out, a2, n2, c2, rfl, HO4.out, HM4.out, HH4.out, hnx.out, by rw [HL4.out]; omega, hE4.out, hS4.out⟩
            case measure => rw [hmany4.out, hmany.out, HL4.out, HL.out]; omega
end Go.Proofs.Ytnlmcbilhfmenaa
