/- The quorum systems of package spec: FamilyBoth, FamilyOfExpr, WeightsFamily. Conditions: each lemma's own. -/
import Derived.Test.YtnlmcbilhfmenaaSC
namespace Go.Proofs.Ytnlmcbilhfmenaa
open Go.RowKit
set_option linter.unusedVariables false

theorem famL_snoc' (q : List Nat) (c : Nat) : famL (q ++ [c]) = famL q ++ [mem c] := by simp [famL]
set_option maxRecDepth 20000 in
set_option maxHeartbeats 4000000 in
theorem l3Both_any {a : Option Addr} {n cp : Nat} {f : List (List Int)} {b : Option Addr} {m cq : Nat} {g : List (List Int)} {w : World} (h : Fam w a n f) (h' : Fam w b m g) (hf : famB f = true) (hg : famB g = true) :
    Calls Try.prog 83 #[.slice a n cp, .slice b m cq] w (RF w (bothL f g)) := by
  have H := Lib.hid h
  have H' := Lib.hid h'
  have hn20 : n ≤ 20 := by rw [← h.len]; exact famB_len hf
  have hm20 : m ≤ 20 := by rw [← h'.len]; exact famB_len hg
  have hlen := Lib.hid (unis_take_len hf hg)
  have hvf := Lib.hid (fam_valid hf)
  have hvg := Lib.hid (fam_valid hg)
  have hfin := Lib.hid (bothL_min (ok2_both hf hg))
  have hl := Lib.hid h.len
  have hl' := Lib.hid h'.len
  clear h h' hf hg
  go_enter Try.func83, Try.ntmps83
  go_wp2_with fail
  go_loopw [5, 6] (fun q i wr => ∃ (k : Nat) (a2 : Option Addr) (n2 c2 : Nat), k ≤ n ∧ i = .int .i64 k ∧ q = .slice a2 n2 c2 ∧ OwnF wr w.heap.size w.heap.size a2 n2 c2 (famL (unis (masks (f.take k)) (masks g))) ∧ Ext none w wr)
    (fun _ i _ => n - (intOf i).toNat)
  case atStart => exact ⟨0, _, _, _, by omega, rfl, rfl, OwnF.made w _, (Ext.refl _ _).alloc _⟩
  case round =>
    obtain ⟨k, a2, n2, c2, hk, rfl, rfl, ho, he⟩ := hrel
    by_cases hlt : k < n
    · have hltI : (k : Int) < (n : Int) := by omega
      have hkl : k < f.length := by rw [hl.out]; exact hlt
      go_wp2_with fail
      obtain ⟨wo, rfl⟩ : ∃ wo : World, wo = wr := ⟨_, rfl⟩
      go_loopw [5, 7] (fun q i wr => ∃ (j : Nat) (a2 : Option Addr) (n2 c2 : Nat), j ≤ m ∧ i = .int .i64 j ∧ q = .slice a2 n2 c2 ∧ OwnF wr w.heap.size w.heap.size a2 n2 c2 (famL (unis (masks (f.take k)) (masks g) ++ (masks (g.take j)).map (fun y => mask (f.getD k []) ||| y))) ∧ Ext none w wr)
        (fun _ i _ => m - (intOf i).toNat)
      case atStart => exact ⟨0, _, _, _, by omega, rfl, rfl, by simpa [masks] using ho, he⟩
      case round =>
        obtain ⟨j, a3, n3, c3, hj, rfl, rfl, ho3, he3⟩ := hrel
        by_cases hjt : j < m
        · have hjtI : (j : Int) < (m : Int) := by omega
          have hjl : j < g.length := by rw [hl'.out]; exact hjt
          have hn3 : n3 ≤ 420 := by rw [← ho3.len, famL_len]; exact hlen.out k j
          obtain ⟨b1, off1, a4, n4, c4, rfl, hc4, hi4⟩ := (H.out.ext he3).cell hlt
          obtain ⟨b5, off5, a5, n5, c5, rfl, hc5, hi5⟩ := (H'.out.ext he3).cell hjt
          have hE := Lib.hid (show uniB (f.getD k []) (g.getD j []) = mem (mask (f.getD k []) ||| mask (g.getD j [])) from uniB_valid (hvf.out _ (getD_mem hkl)) (hvg.out _ (getD_mem hjl)))
          have hst := Lib.hid (show famL (unis (masks (f.take k)) (masks g) ++ (masks (g.take (j + 1))).map (fun y => mask (f.getD k []) ||| y)) = famL (unis (masks (f.take k)) (masks g) ++ (masks (g.take j)).map (fun y => mask (f.getD k []) ||| y)) ++ [mem (mask (f.getD k []) ||| mask (g.getD j []))] from by
            rw [masks_step g j hjl, List.map_append, ← List.append_assoc, List.map_singleton, famL_snoc])
          have hi4' := Lib.hid hi4
          have hi5' := Lib.hid hi5
          clear hi4 hi5
          have hdr := Lib.hid (show Ext none wr wr.drew from (Ext.refl _ _).drew)
          have ho3' := Lib.hid ho3
          have he3' := Lib.hid he3
          have hnb := Lib.hid ho3.blockLt
          clear ho3 he3
          go_wp2_with fail
          go_region_law (first
            | (refine step_row w6 rfl (.tmp 21) (.tmp 31) rfl w.heap.size w.heap.size a3 n3 c3 _ rfl (ho3'.out.ext0 HE6.out) (.slice a6 n6 c6) _ rfl hr6.out (by omega) (he3'.out.trans HE6.out).size ?_; intro a7 c7 w7 ho7 hg7)
            | (go_simp; go_at_call 94; refine (l1Union_any (hi4'.out.ext hdr.out) (hi5'.out.ext hdr.out)).mono ?_; rintro e w6 ⟨a6, n6, c6, rfl, o6, e6⟩; have HE6 := Lib.hid (hdr.out.trans e6); have hr6 := Lib.hid (o6.row (r := (Value.slice a3 n3 c3).ownBlock) (R := w.heap.size) (fun q hq => Nat.lt_of_lt_of_le (hnb.out q hq) hdr.out.size) (he3'.out.trans hdr.out).size); clear o6 e6))
          all_goals
            go_wp2_with fail
            go_roundw
            case rel => exact ⟨j + 1, a7, n3 + 1, c7, by omega, by go_num, rfl, by rw [hst.out, ← hE.out]; exact ho7, (he3'.out.trans HE6.out).grown hg7 (fun q hq => .inl (ho3'.out.block q hq))⟩
            case measure => simp [intOf]; omega
        · obtain rfl : j = m := by omega
          have hall := Lib.hid (show g.take j = g from List.take_of_length_le (by rw [hl'.out]; exact Nat.le_refl _))
          have hst := Lib.hid (show unis (masks (f.take (k + 1))) (masks g) = unis (masks (f.take k)) (masks g) ++ (masks g).map (fun y => mask (f.getD k []) ||| y) from by
            rw [masks_step f k hkl, unis_step])
          go_wp2_with fail
          go_roundw
          case rel => exact ⟨k + 1, a3, n3, c3, by omega, by go_num, rfl, by rw [hst.out]; rw [hall.out] at ho3; exact ho3, he3⟩
          case measure => simp [intOf]; omega
    · obtain rfl : k = n := by omega
      have hall := Lib.hid (show f.take k = f from List.take_of_length_le (by rw [hl.out]; exact Nat.le_refl _))
      have hF := ho.fam
      go_wp2_with fail
      refine (l3Minimize_any hF).mono ?_; rintro e w7 ⟨a7, n7, c7, rfl, o7, e7⟩
      rw [hall.out, hfin.out] at o7
      go_wp2_with fail
      go_ret
      exact ⟨a7, n7, c7, rfl, o7.mono he.size he.size, he.trans e7⟩
end Go.Proofs.Ytnlmcbilhfmenaa
