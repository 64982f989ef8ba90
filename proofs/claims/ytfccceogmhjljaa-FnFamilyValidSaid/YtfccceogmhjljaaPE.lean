/- XPE: several texts in one. Conditions: each lemma's own. -/
import Derived.Test.YtfccceogmhjljaaPF
import Derived.Test.YtfccceogmhjljaaPQ
import Derived.Test.YtfccceogmhjljaaPA
import Derived.Test.YtfccceogmhjljaaS3


namespace Go.Proofs.Ytfccceogmhjljaa
open Go.RowKit
set_option linter.unusedVariables false

theorem eitherL_no {f g : List (List Int)} (h : ok2 f g = false) : eitherL f g = [] := by unfold eitherL; rw [h]; rfl
theorem bothL_no {f g : List (List Int)} (h : ok2 f g = false) : bothL f g = [] := by unfold bothL; rw [h]; rfl
theorem ok2_no1 {f : List (List Int)} (g : List (List Int)) (h : famB f = false) : ok2 f g = false := by unfold ok2; rw [h]; rfl
theorem ok2_no2 (f : List (List Int)) {g : List (List Int)} (h : famB g = false) : ok2 f g = false := by unfold ok2; rw [h, Bool.and_false]

set_option maxHeartbeats 2000000 in
theorem sFamilyEither_any {a : Option Addr} {n cp : Nat} {f : List (List Int)} {b : Option Addr} {m cq : Nat} {g : List (List Int)} {w : World} (h : Fam w a n f) (hz : Nil0 a n cp) (h' : Fam w b m g) (hz' : Nil0 b m cq) :
    Calls Try.prog 26 #[.slice a n cp, .slice b m cq] w (RFB w (eitherL f g) (ok2 f g)) := by
  cases hf : famB f
  · have hno := Lib.hid (ok2_no1 g hf)
    have hno2 := Lib.hid (eitherL_no hno.out)
    go_enter Try.func26, Try.ntmps26
    go_wp2_with fail
    refine (sFamilyValid_is h hf).mono ?_; rintro e w1 ⟨rfl, hd⟩
    go_wp2_with fail
    go_ret2
    exact ⟨_, _, _, by rw [hno.out]; rfl, by rw [hno2.out]; exact (OwnF.made w1 _).mono (hd.ext (r := none)).size (Nat.le_refl _), hd.ext.alloc _⟩
  · cases hg : famB g
    · have hno := Lib.hid (ok2_no2 f hg)
      have hno2 := Lib.hid (eitherL_no hno.out)
      go_enter Try.func26, Try.ntmps26
      go_wp2_with fail
      refine (sFamilyValid_is h hf).mono ?_; rintro e w1 ⟨rfl, hd⟩
      go_wp2_with fail
      refine (sFamilyValid_is (h'.ext hd.ext) hg).mono ?_; rintro e w2 ⟨rfl, hd2⟩
      go_wp2_with fail
      go_ret2
      exact ⟨_, _, _, by rw [hno.out]; rfl, by rw [hno2.out]; exact (OwnF.made w2 _).mono ((hd.trans hd2).ext (r := none)).size (Nat.le_refl _), (hd.trans hd2).ext.alloc _⟩
    · have hyes := Lib.hid (ok2_both hf hg)
      have hyes2 := Lib.hid (eitherL_yes hyes.out)
      have hn20 : n ≤ 20 := by rw [← h.len]; exact famB_len hf
      have hm20 : m ≤ 20 := by rw [← h'.len]; exact famB_len hg
      have HZ := Lib.hid hz
      have HZ' := Lib.hid hz'
      clear hz hz'
      go_enter Try.func26, Try.ntmps26
      go_wp2_with fail
      refine (sFamilyValid_is h hf).mono ?_; rintro e w1 ⟨rfl, hd⟩
      go_wp2_with fail
      refine (sFamilyValid_is (h'.ext hd.ext) hg).mono ?_; rintro e w2 ⟨rfl, hd2⟩
      have hx := Lib.hid ((hd.trans hd2).ext (r := none))
      have ha0 := Lib.hid ((Ext.refl none w2).alloc (.cells #[] 26))
      have hE := Lib.hid (show Ext none w (w2.alloc (.cells #[] 26)) from hx.out.alloc _)
      obtain ⟨us, hat, hrow⟩ := h.ext hx.out
      obtain ⟨us', hat', hrow'⟩ := h'.ext hx.out
      have hat1 := Lib.hid (hat.ext ha0.out)
      have hrow1 := Lib.hid (rows_ext (rows_sep (r := some w2.heap.size) hrow (fun k hk => by cases hk; exact Nat.le_refl _)) ha0.out)
      have HAT' := Lib.hid hat'
      have HROW' := Lib.hid hrow'
      clear hat hrow hat' hrow' h h' hd hd2
      go_wp2_with (first
        | (at_builtin; refine wpl_fam0 rfl (.tmp 15) (.tmp 16) rfl w2.heap.size 0 _ 0 0 [] rfl (OwnF.made w2 0) a n cp us f rfl HZ.out hat1.out hrow1.out (by omega) (by simp) ?_; intro a5 c5 w5 ho5 hg5; have HE5 := Lib.hid (ha0.out.grown hg5 (fun j hj => .inl (by cases hj; exact Nat.le_refl _))); simp only [Nat.zero_add, List.nil_append] at ho5; clear hg5)
        | (at_builtin; refine wpl_fam0 rfl (.tmp 17) (.tmp 18) rfl w2.heap.size 0 a5 n c5 f rfl ho5 b m cq us' g rfl HZ'.out (HAT'.out.ext HE5.out) (rows_ext (rows_sep HROW'.out ho5.block) HE5.out) (by omega) HE5.out.size ?_; intro a6 c6 w6 ho6 hg6; have HE6 := Lib.hid (HE5.out.grown hg6 (fun j hj => .inl (ho5.block j hj)))))
      refine (l3Minimize_any ho6.fam).mono ?_; rintro e w7 ⟨a7, n7, c7, rfl, o7, e7⟩
      have hB := (hx.out.trans HE6.out).size
      go_wp2_with fail
      go_ret2
      exact ⟨_, _, _, by rw [hyes.out]; rfl, by rw [hyes2.out]; exact o7.mono hB hB, (hx.out.trans HE6.out).trans e7⟩


theorem famL_snoc' (q : List Nat) (c : Nat) : famL (q ++ [c]) = famL q ++ [mem c] := by simp [famL]
set_option maxRecDepth 20000 in
set_option maxHeartbeats 4000000 in
theorem l3Both_any {a : Option Addr} {n cp : Nat} {f : List (List Int)} {b : Option Addr} {m cq : Nat} {g : List (List Int)} {w : World} (h : Fam w a n f) (h' : Fam w b m g) (hf : famB f = true) (hg : famB g = true) :
    Calls Try.prog 68 #[.slice a n cp, .slice b m cq] w (RF w (bothL f g)) := by
  have H := Lib.hid h
  have H' := Lib.hid h'
  have hn20 : n ≤ 20 := by rw [← h.len]; exact famB_len hf
  have hm20 : m ≤ 20 := by rw [← h'.len]; exact famB_len hg
  have hlen := Lib.hid (unis_take_len hf hg)
  have hvf := Lib.hid (fam_valid hf)
  have hvg := Lib.hid (fam_valid hg)
  have hfin := Lib.hid (bothL_min (ok2_both hf hg))
  have hl := Lib.hid h.len
  have hl' := Lib.hid h'.len
  clear h h' hf hg
  go_enter Try.func68, Try.ntmps68
  go_wp2_with fail
  go_loopw [5, 6] (fun q i wr => ∃ (k : Nat) (a2 : Option Addr) (n2 c2 : Nat), k ≤ n ∧ i = .int .i64 k ∧ q = .slice a2 n2 c2 ∧ OwnF wr w.heap.size w.heap.size a2 n2 c2 (famL (unis (masks (f.take k)) (masks g))) ∧ Ext none w wr)
    (fun _ i _ => n - (intOf i).toNat)
  case atStart => exact ⟨0, _, _, _, by omega, rfl, rfl, OwnF.made w _, (Ext.refl _ _).alloc _⟩
  case round =>
    obtain ⟨k, a2, n2, c2, hk, rfl, rfl, ho, he⟩ := hrel
    by_cases hlt : k < n
    · have hltI : (k : Int) < (n : Int) := by omega
      have hkl : k < f.length := by rw [hl.out]; exact hlt
      go_wp2_with fail
      obtain ⟨wo, rfl⟩ : ∃ wo : World, wo = wr := ⟨_, rfl⟩
      go_loopw [5, 7] (fun q i wr => ∃ (j : Nat) (a2 : Option Addr) (n2 c2 : Nat), j ≤ m ∧ i = .int .i64 j ∧ q = .slice a2 n2 c2 ∧ OwnF wr w.heap.size w.heap.size a2 n2 c2 (famL (unis (masks (f.take k)) (masks g) ++ (masks (g.take j)).map (fun y => mask (f.getD k []) ||| y))) ∧ Ext none w wr)
        (fun _ i _ => m - (intOf i).toNat)
      case atStart => exact ⟨0, _, _, _, by omega, rfl, rfl, by simpa [masks] using ho, he⟩
      case round =>
        obtain ⟨j, a3, n3, c3, hj, rfl, rfl, ho3, he3⟩ := hrel
        by_cases hjt : j < m
        · have hjtI : (j : Int) < (m : Int) := by omega
          have hjl : j < g.length := by rw [hl'.out]; exact hjt
          have hn3 : n3 ≤ 420 := by rw [← ho3.len, famL_len]; exact hlen.out k j
          obtain ⟨b1, off1, a4, n4, c4, rfl, hc4, hi4⟩ := (H.out.ext he3).cell hlt
          obtain ⟨b5, off5, a5, n5, c5, rfl, hc5, hi5⟩ := (H'.out.ext he3).cell hjt
          have hE := Lib.hid (show uniB (f.getD k []) (g.getD j []) = mem (mask (f.getD k []) ||| mask (g.getD j [])) from uniB_valid (hvf.out _ (getD_mem hkl)) (hvg.out _ (getD_mem hjl)))
          have hst := Lib.hid (show famL (unis (masks (f.take k)) (masks g) ++ (masks (g.take (j + 1))).map (fun y => mask (f.getD k []) ||| y)) = famL (unis (masks (f.take k)) (masks g) ++ (masks (g.take j)).map (fun y => mask (f.getD k []) ||| y)) ++ [mem (mask (f.getD k []) ||| mask (g.getD j []))] from by
            rw [masks_step g j hjl, List.map_append, ← List.append_assoc, List.map_singleton, famL_snoc])
          have hi4' := Lib.hid hi4
          have hi5' := Lib.hid hi5
          clear hi4 hi5
          have hdr := Lib.hid (show Ext none wr wr.drew from (Ext.refl _ _).drew)
          have ho3' := Lib.hid ho3
          have he3' := Lib.hid he3
          have hnb := Lib.hid ho3.blockLt
          clear ho3 he3
          go_wp2_with fail
          go_region_law (first
            | (refine step_row w6 rfl (.tmp 21) (.tmp 31) rfl w.heap.size w.heap.size a3 n3 c3 _ rfl (ho3'.out.ext0 HE6.out) (.slice a6 n6 c6) _ rfl hr6.out (by omega) (he3'.out.trans HE6.out).size ?_; intro a7 c7 w7 ho7 hg7)
            | (go_simp; go_at_call 102; refine (l1Union_any (hi4'.out.ext hdr.out) (hi5'.out.ext hdr.out)).mono ?_; rintro e w6 ⟨a6, n6, c6, rfl, o6, e6⟩; have HE6 := Lib.hid (hdr.out.trans e6); have hr6 := Lib.hid (o6.row (r := (Value.slice a3 n3 c3).ownBlock) (R := w.heap.size) (fun q hq => Nat.lt_of_lt_of_le (hnb.out q hq) hdr.out.size) (he3'.out.trans hdr.out).size); clear o6 e6))
          all_goals
            go_wp2_with fail
            go_roundw
            case rel => exact ⟨j + 1, a7, n3 + 1, c7, by omega, by go_num, rfl, by rw [hst.out, ← hE.out]; exact ho7, (he3'.out.trans HE6.out).grown hg7 (fun q hq => .inl (ho3'.out.block q hq))⟩
            case measure => simp [intOf]; omega
        · obtain rfl : j = m := by omega
          have hall := Lib.hid (show g.take j = g from List.take_of_length_le (by rw [hl'.out]; exact Nat.le_refl _))
          have hst := Lib.hid (show unis (masks (f.take (k + 1))) (masks g) = unis (masks (f.take k)) (masks g) ++ (masks g).map (fun y => mask (f.getD k []) ||| y) from by
            rw [masks_step f k hkl, unis_step])
          go_wp2_with fail
          go_roundw
          case rel => exact ⟨k + 1, a3, n3, c3, by omega, by go_num, rfl, by rw [hst.out]; rw [hall.out] at ho3; exact ho3, he3⟩
          case measure => simp [intOf]; omega
    · obtain rfl : k = n := by omega
      have hall := Lib.hid (show f.take k = f from List.take_of_length_le (by rw [hl.out]; exact Nat.le_refl _))
      have hF := ho.fam
      go_wp2_with fail
      refine (l3Minimize_any hF).mono ?_; rintro e w7 ⟨a7, n7, c7, rfl, o7, e7⟩
      rw [hall.out, hfin.out] at o7
      go_wp2_with fail
      go_ret
      exact ⟨a7, n7, c7, rfl, o7.mono he.size he.size, he.trans e7⟩


set_option maxHeartbeats 2000000 in
theorem sFamilyBoth_any {a : Option Addr} {n cp : Nat} {f : List (List Int)} {b : Option Addr} {m cq : Nat} {g : List (List Int)} {w : World} (h : Fam w a n f) (h' : Fam w b m g) :
    Calls Try.prog 28 #[.slice a n cp, .slice b m cq] w (RFB w (bothL f g) (ok2 f g)) := by
  cases hf : famB f
  · have hno := Lib.hid (ok2_no1 g hf)
    have hno2 := Lib.hid (bothL_no hno.out)
    go_enter Try.func28, Try.ntmps28
    go_wp2_with fail
    refine (sFamilyValid_is h hf).mono ?_; rintro e w1 ⟨rfl, hd⟩
    go_wp2_with fail
    go_ret2
    exact ⟨_, _, _, by rw [hno.out]; rfl, by rw [hno2.out]; exact (OwnF.made w1 _).mono (hd.ext (r := none)).size (Nat.le_refl _), hd.ext.alloc _⟩
  · cases hg : famB g
    · have hno := Lib.hid (ok2_no2 f hg)
      have hno2 := Lib.hid (bothL_no hno.out)
      go_enter Try.func28, Try.ntmps28
      go_wp2_with fail
      refine (sFamilyValid_is h hf).mono ?_; rintro e w1 ⟨rfl, hd⟩
      go_wp2_with fail
      refine (sFamilyValid_is (h'.ext hd.ext) hg).mono ?_; rintro e w2 ⟨rfl, hd2⟩
      go_wp2_with fail
      go_ret2
      exact ⟨_, _, _, by rw [hno.out]; rfl, by rw [hno2.out]; exact (OwnF.made w2 _).mono ((hd.trans hd2).ext (r := none)).size (Nat.le_refl _), (hd.trans hd2).ext.alloc _⟩
    · have hyes := Lib.hid (ok2_both hf hg)
      go_enter Try.func28, Try.ntmps28
      go_wp2_with fail
      refine (sFamilyValid_is h hf).mono ?_; rintro e w1 ⟨rfl, hd⟩
      go_wp2_with fail
      refine (sFamilyValid_is (h'.ext hd.ext) hg).mono ?_; rintro e w2 ⟨rfl, hd2⟩
      have hx := Lib.hid ((hd.trans hd2).ext (r := none))
      go_wp2_with fail
      refine (l3Both_any (h.ext hx.out) (h'.ext hx.out) hf hg).mono ?_; rintro e w3 ⟨a3, n3, c3, rfl, o3, e3⟩
      go_wp2_with fail
      go_ret2
      exact ⟨_, _, _, by rw [hyes.out]; rfl, o3.mono hx.out.size hx.out.size, hx.out.trans e3⟩

theorem l2Satisfied_is {s : ByteArray} {t : Fo} {a : Option Addr} {n cp : Nat} {xs : List Int} {w : World} {q : Bool} (hs : s.size ≤ 1000000) (h1 : byt s = t.str) (h2 : t.wf = true) (h3 : t.len = 1) (hx : Ints w a n xs) (hv : valid xs = true) (hq : sat (mask xs) t = q) :
    Calls Try.prog 117 #[.string s, .slice a n cp] w fun e w' => e = .returned (.bool q) ∧ Ext none w w' := by
  rw [← hq]; exact l2Satisfied_ind s.size s t _ _ _ xs _ (Nat.le_refl _) hs h1 h2 h3 hx hv

set_option maxHeartbeats 2000000 in
theorem l3OfExpr_any {s : ByteArray} {w : World} (ho : okE (byt s) = true) :
    Calls Try.prog 108 #[.string s] w (RF w (ofExprL (byt s))) := by
  obtain ⟨t, ht⟩ : ∃ t, ex (byt s) = some t := Option.isSome_iff_exists.1 ho
  obtain ⟨h1, h2, h3, h4, _⟩ := ex_some ht
  have hS := Lib.hid (show ∀ c, satE (byt s) c = sat c t from fun c => by unfold satE; rw [ht])
  have hfin := Lib.hid (show minL (famL (fltrTo (satE (byt s)) 64)) = ofExprL (byt s) from by rw [minL_fltr, ofExprL_yes ho])
  have H1 := Lib.hid h1
  have H2 := Lib.hid h2
  have H3 := Lib.hid h3
  rw [byt_len] at h4
  have hsz : s.size ≤ 1000000 := by omega
  clear h1 h2 h3 ht ho h4
  go_enter Try.func108, Try.ntmps108
  go_wp2_with fail
  go_loopw [3, 4] (fun q i wr => ∃ (k : Nat) (a2 : Option Addr) (n2 c2 : Nat), k ≤ 64 ∧ i = .int .i64 k ∧ q = .slice a2 n2 c2 ∧ OwnF wr w.heap.size w.heap.size a2 n2 c2 (famL (fltrTo (satE (byt s)) k)) ∧ Ext none w wr)
    (fun _ i _ => 64 - (intOf i).toNat)
  case atStart => exact ⟨0, _, _, _, by omega, rfl, rfl, OwnF.made w _, (Ext.refl _ _).alloc _⟩
  case round =>
    obtain ⟨k, a2, n2, c2, hk, rfl, rfl, ho, he⟩ := hrel
    by_cases hlt : k < 64
    · have hltI : (k : Int) < 64 := by omega
      have hn2 : n2 ≤ 64 := by rw [← ho.len, famL_len]; exact Nat.le_trans (fltrTo_len _ k) hk
      have hst := Lib.hid (fltrTo_succ (satE (byt s)) k)
      go_wp2_with fail
      refine (l1Masks_any).mono ?_; rintro e w_ ⟨rfl, rfl⟩
      go_wp2_with fail
      refine (l1OfMask_any hlt).mono ?_; rintro e w1 ⟨a3, n3, c3, rfl, o3, e3⟩
      have ho1 := ho.ext0 e3
      have i3 := o3.ints
      have hrow := Lib.hid (o3.row (r := (Value.slice a2 n2 c2).ownBlock) (R := w.heap.size) (fun j hj => ho.blockLt j hj) he.size)
      have he1 := Lib.hid (he.trans e3)
      clear ho o3 e3 he
      cases hq : sat k t
      · go_wp2_with fail
        refine (l2Satisfied_is (q := false) hsz H1.out H2.out H3.out i3 (mem_valid hlt) (by rw [mask_mem hlt]; exact hq)).mono ?_; rintro e w4 ⟨rfl, e4⟩
        go_wp2_with fail
        go_roundw
        case rel => exact ⟨k + 1, a2, n2, c2, by omega, by go_num, rfl, by rw [hst.out, hS.out, hq]; exact ho1.ext0 e4, he1.out.trans e4⟩
        case measure => simp [intOf]; omega
      · go_wp2_with fail
        refine (l2Satisfied_is (q := true) hsz H1.out H2.out H3.out i3 (mem_valid hlt) (by rw [mask_mem hlt]; exact hq)).mono ?_; rintro e w4 ⟨rfl, e4⟩
        have ho2 := ho1.ext0 e4
        have hr2 := hrow.out.ext e4
        go_wp2_with (at_builtin; refine app_row _ rfl _ _ rfl w.heap.size w.heap.size a2 n2 c2 _ ho2 a3 n3 c3 _ hr2 rfl rfl (by omega) (he1.out.trans e4).size ?_; intro g c' w9 ho9 hg9)
        go_roundw
        case rel => exact ⟨k + 1, _, _, _, by omega, by go_num, rfl, by rw [hst.out, hS.out, hq, if_pos rfl, famL_snoc]; exact ho9, (he1.out.trans e4).grown hg9 (fun q hq => .inl (ho2.block q hq))⟩
        case measure => simp [intOf]; omega
    · obtain rfl : k = 64 := by omega
      have hF := ho.fam
      go_wp2_with fail
      refine (l1Masks_any).mono ?_; rintro e w_ ⟨rfl, rfl⟩
      go_wp2_with fail
      refine (l3Minimize_any hF).mono ?_; rintro e w7 ⟨a7, n7, c7, rfl, o7, e7⟩
      rw [hfin.out] at o7
      go_wp2_with fail
      go_ret
      exact ⟨a7, n7, c7, rfl, o7.mono he.size he.size, he.trans e7⟩

theorem sExprValid_is {s : ByteArray} {w : World} {q : Bool} (hs : s.size ≤ 9223372036854775807) (hq : okE (byt s) = q) :
    Calls Try.prog 107 #[.string s] w fun e w' => e = .returned (.bool q) ∧ w = w' := by
  rw [← hq]; exact sExprValid_any hs
set_option maxHeartbeats 1000000 in
theorem sFamilyOfExpr_any {s : ByteArray} {w : World} (hs : s.size ≤ 9223372036854775807) :
    Calls Try.prog 93 #[.string s] w (RFB w (ofExprL (byt s)) (okE (byt s))) := by
  cases ho : okE (byt s)
  · have hno2 := Lib.hid (ofExprL_no ho)
    go_enter Try.func93, Try.ntmps93
    go_wp2_with fail
    refine (sExprValid_is hs ho).mono ?_; rintro e w_ ⟨rfl, rfl⟩
    go_wp2_with fail
    go_ret2
    exact ⟨_, _, _, rfl, by rw [hno2.out]; exact OwnF.made _ _, (Ext.refl _ _).alloc _⟩
  · go_enter Try.func93, Try.ntmps93
    go_wp2_with fail
    refine (sExprValid_is hs ho).mono ?_; rintro e w_ ⟨rfl, rfl⟩
    go_wp2_with fail
    refine (l3OfExpr_any ho).mono ?_; rintro e w3 ⟨a3, n3, c3, rfl, o3, e3⟩
    go_wp2_with fail
    go_ret2
    exact ⟨_, _, _, rfl, o3, e3⟩

theorem sWeightsValid_is {a : Option Addr} {n cp : Nat} {xs : List Int} {w : World} {q : Bool} (h : Ints w a n xs) (hq : valW xs = q) :
    Calls Try.prog 73 #[.slice a n cp] w fun e w' => e = .returned (.bool q) ∧ w = w' := by
  rw [← hq]; exact sWeightsValid_any h
theorem l6In_is {n lo hi : Int} {w : World} {q : Bool} (hq : inB n lo hi = q) :
    Calls Try.prog 74 #[.int .i64 n, .int .i64 lo, .int .i64 hi] w fun e w' => e = .returned (.bool q) ∧ w = w' := by
  rw [← hq]; exact l6In_any
theorem l4Sum_mem {a : Option Addr} {n cp : Nat} {ws : List Int} {b : Option Addr} {m cq c : Nat} {w : World} {q : Int} (h : Ints w a n ws) (hs : Ints w b m (mem c)) (hw : valW ws = true) (hc : c < 64) (hq : sumW ws c = q) :
    Calls Try.prog 75 #[.slice a n cp, .slice b m cq] w fun e w' => e = .returned (.int .i64 q) ∧ w = w' := by
  have := l4Sum_any (cp := cp) (cq := cq) h hs hw (mem_valid hc)
  rw [mask_mem hc, hq] at this; exact this

set_option maxHeartbeats 4000000 in
theorem sWeightsFamily_any {a : Option Addr} {n cp : Nat} {ws : List Int} {need : Int} {w : World} (h : Ints w a n ws) :
    Calls Try.prog 36 #[.slice a n cp, .int .i64 need] w (RFB w (wFamL ws need) (okW ws need)) := by
  cases hv : valW ws
  · have hno := Lib.hid (show okW ws need = false from by unfold okW; rw [hv]; rfl)
    have hno2 := Lib.hid (wFamL_no hno.out)
    go_enter Try.func36, Try.ntmps36
    go_wp2_with fail
    refine (sWeightsValid_is h hv).mono ?_; rintro e w_ ⟨rfl, rfl⟩
    go_wp2_with fail
    go_ret2
    exact ⟨_, _, _, by rw [hno.out]; rfl, by rw [hno2.out]; exact OwnF.made _ _, (Ext.refl _ _).alloc _⟩
  · have hbd := sumW_bd hv 63
    obtain ⟨tot, htot⟩ : ∃ t, t = sumW ws 63 := ⟨_, rfl⟩
    rw [← htot] at hbd
    have hok := Lib.hid (show okW ws need = inB need 1 tot from by unfold okW inB; rw [hv, htot]; rfl)
    have HT := Lib.hid htot
    clear htot
    cases hin : inB need 1 tot
    · have hno := Lib.hid (hok.out.trans hin)
      have hno2 := Lib.hid (wFamL_no hno.out)
      go_enter Try.func36, Try.ntmps36
      go_wp2_with fail
      refine (sWeightsValid_is h hv).mono ?_; rintro e w_ ⟨rfl, rfl⟩
      go_wp2_with fail
      refine (l1Masks_any).mono ?_; rintro e w_ ⟨rfl, rfl⟩
      go_wp2_with fail
      refine (l1OfMask_any (c := 63) (by decide)).mono ?_; rintro e w1 ⟨a3, n3, c3, rfl, o3, e3⟩
      go_wp2_with fail
      refine (l4Sum_mem (h.ext e3) o3.ints hv (by decide) HT.out.symm).mono ?_; rintro e w_ ⟨rfl, rfl⟩
      go_wp2_with fail
      refine (l6In_is hin).mono ?_; rintro e w_ ⟨rfl, rfl⟩
      go_wp2_with fail
      go_ret2
      exact ⟨_, _, _, by rw [hno.out]; rfl, by rw [hno2.out]; exact (OwnF.made w1 _).mono e3.size (Nat.le_refl _), e3.alloc _⟩
    · have hyes := Lib.hid (hok.out.trans hin)
      have hfin := Lib.hid (show minL (famL (fltrTo (enough ws need) 64)) = wFamL ws need from by rw [minL_fltr, wFamL_yes hyes.out])
      have H := Lib.hid h
      have HB := Lib.hid (fun c => sumW_bd hv c)
      go_enter Try.func36, Try.ntmps36
      go_wp2_with fail
      refine (sWeightsValid_is h hv).mono ?_; rintro e w_ ⟨rfl, rfl⟩
      go_wp2_with fail
      refine (l1Masks_any).mono ?_; rintro e w_ ⟨rfl, rfl⟩
      go_wp2_with fail
      refine (l1OfMask_any (c := 63) (by decide)).mono ?_; rintro e w1 ⟨a3, n3, c3, rfl, o3, e3⟩
      go_wp2_with fail
      refine (l4Sum_mem (h.ext e3) o3.ints hv (by decide) HT.out.symm).mono ?_; rintro e w_ ⟨rfl, rfl⟩
      go_wp2_with fail
      refine (l6In_is hin).mono ?_; rintro e w_ ⟨rfl, rfl⟩
      have hm0 := (OwnF.made w1 w.heap.size).mono e3.size (Nat.le_refl _)
      have he0 := e3.alloc (.cells #[] 26)
      clear o3 e3 h
      go_wp2_with fail
      go_loopw [6, 7] (fun q i wr => ∃ (k : Nat) (a2 : Option Addr) (n2 c2 : Nat), k ≤ 64 ∧ i = .int .i64 k ∧ q = .slice a2 n2 c2 ∧ OwnF wr w.heap.size w.heap.size a2 n2 c2 (famL (fltrTo (enough ws need) k)) ∧ Ext none w wr)
        (fun _ i _ => 64 - (intOf i).toNat)
      case atStart => exact ⟨0, _, _, _, by omega, rfl, rfl, hm0, he0⟩
      case round =>
        obtain ⟨k, a2, n2, c2, hk, rfl, rfl, ho, he⟩ := hrel
        by_cases hlt : k < 64
        · have hltI : (k : Int) < 64 := by omega
          have hn2 : n2 ≤ 64 := by rw [← ho.len, famL_len]; exact Nat.le_trans (fltrTo_len _ k) hk
          have hst := Lib.hid (fltrTo_succ (enough ws need) k)
          obtain ⟨q, hqq⟩ : ∃ q, sumW ws k = q := ⟨_, rfl⟩
          have HQ := Lib.hid hqq
          clear hqq
          go_wp2_with fail
          refine (l1Masks_any).mono ?_; rintro e w_ ⟨rfl, rfl⟩
          go_wp2_with fail
          refine (l1OfMask_any hlt).mono ?_; rintro e w3 ⟨a3, n3, c3, rfl, o3, e3⟩
          have ho1 := ho.ext0 e3
          have i3 := o3.ints
          have he1 := Lib.hid (he.trans e3)
          clear ho o3 e3 he
          by_cases hle : need ≤ q
          · have hen := Lib.hid (show enough ws need k = true from by unfold enough; rw [HQ.out, decide_eq_true hle])
            go_wp2_with fail
            refine (l4Sum_mem (H.out.ext he1.out) i3 hv hlt HQ.out).mono ?_; rintro e w_ ⟨rfl, rfl⟩
            go_wp2_with fail
            refine (l1OfMask_any hlt).mono ?_; rintro e w4 ⟨a4, n4, c4, rfl, o4, e4⟩
            have hr2 := o4.row (r := (Value.slice a2 n2 c2).ownBlock) (R := w.heap.size) (fun j hj => ho1.blockLt j hj) he1.out.size
            have ho2 := ho1.ext0 e4
            have he2 := Lib.hid (he1.out.trans e4)
            clear o4 e4
            go_wp2_with (at_builtin; refine app_row _ rfl _ _ rfl w.heap.size w.heap.size a2 n2 c2 _ ho2 a4 n4 c4 _ hr2 rfl rfl (by omega) he2.out.size ?_; intro g c' w9 ho9 hg9)
            go_roundw
            case rel => exact ⟨k + 1, _, _, _, by omega, by go_num, rfl, by rw [hst.out, hen.out, if_pos rfl, famL_snoc]; exact ho9, he2.out.grown hg9 (fun q hq => .inl (ho2.block q hq))⟩
            case measure => simp [intOf]; omega
          · have hen := Lib.hid (show enough ws need k = false from by unfold enough; rw [HQ.out, decide_eq_false hle])
            go_wp2_with fail
            refine (l4Sum_mem (H.out.ext he1.out) i3 hv hlt HQ.out).mono ?_; rintro e w_ ⟨rfl, rfl⟩
            go_wp2_with fail
            go_roundw
            case rel => exact ⟨k + 1, a2, n2, c2, by omega, by go_num, rfl, by rw [hst.out, hen.out]; exact ho1, he1.out⟩
            case measure => simp [intOf]; omega
        · obtain rfl : k = 64 := by omega
          have hF := ho.fam
          go_wp2_with fail
          refine (l1Masks_any).mono ?_; rintro e w_ ⟨rfl, rfl⟩
          go_wp2_with fail
          refine (l3Minimize_any hF).mono ?_; rintro e w7 ⟨a7, n7, c7, rfl, o7, e7⟩
          rw [hfin.out] at o7
          go_wp2_with fail
          go_ret2
          exact ⟨a7, n7, c7, by rw [hyes.out]; rfl, o7.mono he.size he.size, he.trans e7⟩
end Go.Proofs.Ytfccceogmhjljaa
