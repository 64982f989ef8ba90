/- XP1: several texts in one. Conditions: each lemma's own. -/
import Derived.Test.YtnifgfnhcjhodaaPZ
import Derived.Test.YtnifgfnhcjhodaaPI
import Derived.Lib.AppendZerosOnto


import Derived.Test.YtnifgfnhcjhodaaSF
import Derived.Test.YtnifgfnhcjhodaaRD
import Derived.Test.YtnifgfnhcjhodaaD8
import Derived.Conc.LeavingOf
import Derived.Below


namespace Go.Proofs.Ytnifgfnhcjhodaa
set_option linter.unusedVariables false
set_option linter.unusedSimpArgs false
section
open Go.RowKit

def idxN (q : List Nat) (v : Nat) : Int := if v ∈ q then (q.idxOf v : Int) else -1
theorem idxN_at {q : List Nat} {v j : Nat} (hj : j < q.length) (hv : v = q.getD j 0) (hne : ∀ k, k < j → q.getD k 0 ≠ v) : idxN q v = j := by
  have e : q.getD j 0 = q[j] := by simp [List.getD, hj]
  have hm : v ∈ q := by rw [hv, e]; exact List.getElem_mem hj
  unfold idxN
  rw [if_pos hm]
  have h1 : q.idxOf v ≤ j := by
    apply Classical.byContradiction
    intro h
    have h2 : j < q.idxOf v := by omega
    have h3 : ¬ (q[j] == v) = true := by
      have := List.not_of_lt_findIdx (p := (· == v)) (xs := q) (i := j) h2
      simpa using this
    exact h3 (by rw [← e, ← hv]; simp)
  rcases Nat.lt_or_ge (q.idxOf v) j with h | h
  · have hl : q.idxOf v < q.length := List.idxOf_lt_length_of_mem hm
    have := List.getElem_idxOf hl
    exact absurd (by simp [List.getD, hl]) (hne _ h)
  · congr 1; omega
theorem idxN_none {q : List Nat} {v : Nat} (hne : ∀ k, k < q.length → q.getD k 0 ≠ v) : idxN q v = -1 := by
  unfold idxN
  rw [if_neg]
  intro hm
  obtain ⟨k, hk, e⟩ := List.mem_iff_getElem.1 hm
  exact hne k hk (by simp [List.getD, hk, e])
theorem idxN_pos {q : List Nat} {v : Nat} : decide (idxN q v ≥ 0) = q.contains v := by
  unfold idxN
  by_cases h : v ∈ q
  · rw [if_pos h]; simp [h]
  · rw [if_neg h]; simp [h]
theorem idxN_lt {q : List Nat} {v : Nat} (h : 0 ≤ idxN q v) : ∃ k, idxN q v = (k : Nat) ∧ k < q.length ∧ q.getD k 0 = v := by
  unfold idxN at *
  by_cases hm : v ∈ q
  · rw [if_pos hm] at *
    have hl : q.idxOf v < q.length := List.idxOf_lt_length_of_mem hm
    exact ⟨q.idxOf v, rfl, hl, by simp [List.getD, hl]⟩
  · rw [if_neg hm] at h; omega

set_option maxHeartbeats 1000000 in
theorem Index_any {a : Option Addr} {n c : Nat} {q : List Nat} {v : Nat} {w : World} (h : Crs w a n q) :
    Calls Try.prog 33 #[.slice a n c, .int .u64 v] w fun e w' => e = .returned (.int .i64 (idxN q v)) ∧ w = w' := by
  have hm := h.max
  have hlen := Lib.hid h.len
  go_enter Try.func33, Try.ntmps33
  go_wp2_with fail
  go_loop [8] (fun i => ∃ j : Nat, j ≤ n ∧ i = .int .i64 (j : Nat) ∧ ∀ k, k < j → q.getD k 0 ≠ v) (fun i => n - (intOf i).toNat)
  case atStart => exact ⟨0, by omega, rfl, fun k hk => absurd hk (by omega)⟩
  case round =>
    obtain ⟨j, hj, rfl, hne⟩ := hrel
    have HN := Lib.hid hne
    clear hne
    by_cases hlt : j < n
    · obtain ⟨b, off, rfl, hc⟩ := h.cell hlt
      obtain ⟨x, hx⟩ : ∃ x, x = q.getD j 0 := ⟨_, rfl⟩
      rw [← hx] at hc
      by_cases he : v = x
      · have hret := Lib.hid (idxN_at (by rw [hlen.out]; exact hlt) (he.trans hx) HN.out)
        subst he
        clear hx
        go_wp2_with fail
        go_ret
        exact ⟨by rw [hret.out]; rfl, rfl⟩
      · have heI : ¬ ((v : Int) = (x : Int)) := by omega
        have hst := Lib.hid (show ∀ k, k < j + 1 → q.getD k 0 ≠ v from fun k hk => by
          rcases Nat.lt_or_ge k j with h1 | h1
          · exact HN.out k h1
          · obtain rfl : k = j := by omega
            rw [← hx]; exact fun e => he e.symm)
        clear hx he
        go_wp2_with fail
        go_round
        case rel => exact ⟨j + 1, by omega, by go_num, hst.out⟩
        case measure => simp [intOf]; omega
    · obtain rfl : j = n := by omega
      have hret := Lib.hid (idxN_none (fun k hk => HN.out k (by rw [← hlen.out]; exact hk)))
      go_wp2_with fail
      go_ret
      exact ⟨by rw [hret.out]; rfl, rfl⟩

set_option maxHeartbeats 1000000 in
theorem Contains_is {a : Option Addr} {n c : Nat} {q : List Nat} {v : Nat} {b : Bool} {w : World} (h : Crs w a n q) (hb : q.contains v = b) :
    Calls Try.prog 40 #[.slice a n c, .int .u64 v] w fun e w' => e = .returned (.bool b) ∧ w = w' := by
  have hi := idxN_pos (q := q) (v := v)
  rw [hb] at hi
  have HH := Lib.hid h
  clear h hb
  obtain ⟨i, hI⟩ : ∃ i, i = idxN q v := ⟨_, rfl⟩
  rw [← hI] at hi
  have HI := Lib.hid hI
  clear hI
  go_enter Try.func40, Try.ntmps40
  go_wp2_with fail
  refine (Index_any HH.out).mono ?_; rintro e w1 ⟨rfl, rfl⟩
  rw [← HI.out]
  go_wp2_with fail
  go_ret
  exact ⟨by rw [← hi]; rfl, rfl⟩

set_option maxHeartbeats 4000000 in
set_option maxRecDepth 100000 in
theorem Grow_any {n : Nat} {w : World} (hn : n ≤ 1000) :
    Calls Try.prog 57 #[.slice none 0 0, .int .i64 (n : Nat)] w fun e w' => ∃ a c, e = .returned (.slice a 0 c) ∧ OwnC w' w.heap.size a 0 c [] ∧ Ext none w w' := by
  rcases Nat.eq_zero_or_pos n with rfl | hpos
  · go_enter Try.func57, Try.ntmps57
    go_wp2_with fail
    go_ret
    exact ⟨none, 0, rfl, OwnC.nil _ _, Ext.refl _ _⟩
  · obtain ⟨i0, hi, hz0, hz1, hz2⟩ := info_parts crewInfo
    have hrz : ∀ ty, (Builtin.append_ #[44, 3] ty #[.slice none 0 0, .int .i64 (n : Nat)]).run Try.prog w =
        .ok (.slice (some ⟨w.heap.size, 0, none⟩) n (grownCap w n 0 52)) (w.drew.alloc (.cells (#[] ++ Builtin.zeroCells (Value.int .u64 0).cells n ++ Builtin.zeroCells (Value.int .u64 0).cells (grownCap w n 0 52 - n)) 52)) := fun ty => by
      have h := Lib.run_append_grow_zeros w 44 3 ty 52 i0 (.int .u64 0) .i64 .i64 Try.underlying44 Try.underlying3 hi hz0 none 0 0 [] (run_firstCells_none w.drew i0.size 0 0 0) n hpos (by rw [hz1]; decide) (by omega) (by omega)
        (by rw [hz2]; omega) (growslice_fits (by omega) (by rw [hz2]; omega))
      simpa using h
    have hGn : n ≤ grownCap w n 0 52 := grownCap_ge w _ _ _
    have hG63 : grownCap w n 0 52 ≤ maxLen := grownCap_le_maxLen w n 0 52 (by unfold maxLen; omega)
    obtain ⟨g, hG⟩ : ∃ g, g = grownCap w n 0 52 := ⟨_, rfl⟩
    rw [← hG] at hrz hGn hG63
    obtain ⟨M, hM⟩ : ∃ M, M = #[] ++ Builtin.zeroCells (Value.int .u64 0).cells n ++ Builtin.zeroCells (Value.int .u64 0).cells (g - n) := ⟨_, rfl⟩
    have hMs := Lib.hid (show M.size = g from by rw [hM]; simp [Builtin.zeroCells, Value.cells]; omega)
    rw [← hM] at hrz
    have HG63 := Lib.hid hG63
    have hg63 : g ≤ 9223372036854775807 := by unfold maxLen at hG63; exact hG63
    have hsz := Lib.hid (show w.drew.heap.size = w.heap.size from rfl)
    clear hG hM hG63
    have h4 : (n : Int) - 0 > 0 := by omega
    go_enter Try.func57, Try.ntmps57
    go_wp2_with (at_builtin; refine Lib.wpList_append_run _ rfl _ _ _ _ rfl _ _ rfl rfl _ _ (hrz _) ?_)
    all_goals (
      go_ret
      refine ⟨_, _, rfl, ?_, ?_⟩)
    · have := World.ownsRow_made (e := 52) (base := w.heap.size) (size := 1) w.drew M g (Nat.le_of_eq hsz.out.symm) HG63.out (by rw [hMs.out, Nat.mul_one])
      exact this
    · exact ((Ext.refl none w).drew).alloc _

theorem flat_take (rs : List (List Nat)) (j : Nat) (hj : j < rs.length) : (rs.take (j + 1)).flatten = (rs.take j).flatten ++ rs.getD j [] := by
  rw [snoc_take rs [] j hj, List.flatten_append]
  simp
theorem flat_le {rs : List (List Nat)} (h : ∀ r ∈ rs, r.length ≤ 20) : rs.flatten.length ≤ 20 * rs.length := by
  induction rs with
  | nil => simp
  | cons r rs ih =>
    have h1 := h r (by simp)
    have h2 := ih fun x hx => h x (by simp [hx])
    simp only [List.flatten_cons, List.length_append, List.length_cons]
    omega

set_option maxHeartbeats 2000000 in
theorem Concat_any {a : Option Addr} {n c : Nat} {rs : List (List Nat)} {w : World} (h : Mat w a n rs) (hn : n ≤ 20) (hr : ∀ r ∈ rs, r.length ≤ 20) :
    Calls Try.prog 41 #[.slice a n c] w fun e w' => ∃ a' m c', e = .returned (.slice a' m c') ∧ OwnC w' w.heap.size a' m c' rs.flatten ∧ Ext none w w' := by
  have hlen := Lib.hid h.len
  have hbd := Lib.hid (show ∀ j, (rs.take j).flatten.length ≤ 400 from fun j => by
    have := flat_le (rs := rs.take j) fun r hx => hr r (List.mem_of_mem_take hx)
    have h2 : (rs.take j).length ≤ 20 := by have := hlen.out; rw [List.length_take]; omega
    omega)
  have hrow := Lib.hid (show ∀ k, k < n → (rs.getD k []).length ≤ 20 from fun k hk => by
    have hk' : k < rs.length := by rw [hlen.out]; exact hk
    have e : rs.getD k [] = rs[k] := by simp [List.getD, hk']
    rw [e]; exact hr _ (List.getElem_mem hk'))
  have H := Lib.hid h
  clear h hr
  go_enter Try.func41, Try.ntmps41
  go_wp2_with fail
  go_loop [3, 11] (fun s i => ∃ j l : Nat, j ≤ n ∧ i = .int .i64 (j : Nat) ∧ s = .int .i64 (l : Nat) ∧ l = (rs.take j).flatten.length) (fun _ i => n - (intOf i).toNat)
  case atStart => exact ⟨0, 0, by omega, rfl, rfl, by simp⟩
  case round =>
    obtain ⟨j, l, hj, rfl, rfl, hl⟩ := hrel
    have hl400 : l ≤ 400 := by rw [hl]; exact hbd.out j
    have HL := Lib.hid hl
    clear hl
    by_cases hlt : j < n
    · obtain ⟨b, off, a2, n2, c2, rfl, hc, ho⟩ := H.out.cell hlt
      have hn2 : n2 ≤ 20 := by rw [← ho.len]; exact hrow.out j hlt
      have hst := Lib.hid (show l + n2 = (rs.take (j + 1)).flatten.length from by rw [flat_take rs j (by rw [hlen.out]; exact hlt), List.length_append, ← HL.out, ho.len])
      clear ho
      go_wp2_with fail
      go_round
      case rel => exact ⟨j + 1, l + n2, by omega, by go_num, by go_num, hst.out⟩
      case measure => simp [intOf]; omega
    · obtain rfl : j = n := by omega
      have hall := Lib.hid (show rs.take j = rs from List.take_of_length_le (by rw [hlen.out]; exact Nat.le_refl _))
      go_wp2_with fail
      refine (Grow_any (by omega)).mono ?_; rintro e w1 ⟨a1, c1, rfl, o1, e1⟩
      have HO1 := Lib.hid o1
      have HE1 := Lib.hid e1
      clear o1 e1
      go_wp2_with fail
      go_loopw [6, 27] (fun v i wr => ∃ (k : Nat) (a2 : Option Addr) (n2 c2 : Nat), k ≤ j ∧ i = .int .i64 (k : Nat) ∧ v = .slice a2 n2 c2 ∧ OwnC wr w.heap.size a2 n2 c2 (rs.take k).flatten ∧ Ext none w wr) (fun _ i _ => j - (intOf i).toNat)
      case atStart => exact ⟨0, a1, 0, c1, by omega, rfl, rfl, by simpa using HO1.out, HE1.out⟩
      case round =>
        obtain ⟨k, a2, n2, c2, hk, rfl, rfl, ho, hE⟩ := hrel
        have hn2 : n2 ≤ 400 := by rw [← ho.len]; exact hbd.out k
        have HO := Lib.hid ho
        have HE := Lib.hid hE
        clear ho hE
        by_cases hlt : k < j
        · obtain ⟨b, off, a3, n3, c3, rfl, hc, hr3⟩ := (H.out.ext HE.out).cell hlt
          have hn3 : n3 ≤ 20 := by rw [← hr3.len]; exact hrow.out k hlt
          have HR3 := Lib.hid hr3
          have hst := Lib.hid (flat_take rs k (by rw [hlen.out]; exact hlt))
          have hsz := HE.out.size
          clear hr3
          go_wp2_with (at_builtin; refine wpl_crews 44 Try.underlying44 rfl _ _ rfl w.heap.size a2 n2 c2 _ rfl HO.out 0 a3 n3 c3 _ rfl HR3.out (by omega) hsz ?_; intro a4 c4 w4 o4 g4)
          go_roundw
          case rel => exact ⟨k + 1, _, _, _, by omega, by go_num, rfl, by rw [hst.out]; exact o4, HE.out.grown g4 (fun q hq => .inl (Own.block HO.out q hq))⟩
          case measure => simp [intOf]; omega
        · obtain rfl : k = j := by omega
          go_wp2_with fail
          go_ret
          exact ⟨_, _, _, rfl, by rw [← hall.out]; exact HO.out, HE.out⟩
end

section
open Go.Conc Go.RowKit

theorem bkn (f : FuncId) : (base f).kind ≠ .early := by simp [base]
theorem wpOps_rest {P : Program} {ops : Array Oper} {Q : Exit → Act → World → Prop} {l : List Nat} {a : Act} {w : World} (k : Nat) (hl : l = List.range' k (ops.toList.drop k).length) (h : wpList P ops Q (ops.toList.drop k) a w) : wpOps P ops Q l a w := by
  rw [hl, wpOps_eq_wpList (ops.toList.drop k) k (fun j => by rw [List.getElem?_drop, Array.getElem?_toList])]
  exact h
section
variable {P : Program} {X0 X : Nat → Prop} {u0 u : World} {Q : (Nat → Prop) → Goroutine → World → Prop} {b : Frame} {a : Act} {k : List Item} {cs : List Frame} {ops : Array Oper} {i : Nat} {rest : List Nat} {oo : Oper} {x : Operand}
theorem mvP {P : Program} {a : Act} {w : World} {o : Oper} {x : Operand} (h : o.op = .move x ∨ o.op = .assign x) : (execOp a.eval o).run P w = .ok (.value (a.eval x)) w ∧ (execOp a.eval o).events P w #[] = #[] := by
  rcases h with h | h <;> constructor <;> unfold execOp <;> simp only [h] <;> simp [go_sem]
theorem Gw.mv (ho : ops[i]? = some oo) (h : oo.op = .move x ∨ oo.op = .assign x) (hw : Region.wanted oo (yielded ops a.tmps) = true) (hk : b.kind ≠ .early)
    (hg : Gw P X0 u0 Q X u (G (b.at (a.put oo.dst (a.eval x)) (.inRegion ops rest :: k)) cs)) : Gw P X0 u0 Q X u (G (b.at a (.inRegion ops (i :: rest) :: k)) cs) := Gw.val ho hw hk (fun w => mvP h) hg
end

theorem pick_run {P : Program} {a : Act} {w : World} {o : Oper} {c x y : Operand} {t : Bool} (h : o.op = .pick c x y) (hc : a.eval c = .bool t) : (execOp a.eval o).run P w = .ok (.value (a.eval (if t then x else y))) w ∧ (execOp a.eval o).events P w #[] = #[] := by
  constructor <;> unfold execOp <;> simp only [h, hc] <;> cases t <;> simp [go_sem]
/-- What impl.Intersects returns. -/
def intL (f g : List (List Int)) : Bool := ok2 f g && !((rowsL (rdF f) (rdF g)).flatten.contains 0)
theorem rdF_len (f : List (List Int)) : (rdF f).length ≤ 20 := by
  unfold rdF
  split
  · rename_i h
    rw [masks_len]; exact famB_len h
  · simp
theorem rdF_lt (f : List (List Int)) : ∀ x ∈ rdF f, x < 64 := by
  unfold rdF
  split
  · rename_i h
    exact masks_lt h
  · simp
theorem rowsL_le {x y : List Nat} (h : y.length ≤ 20) : ∀ r ∈ rowsL x y, r.length ≤ 20 := by
  intro r hr
  unfold rowsL at hr
  obtain ⟨a, _, rfl⟩ := List.mem_map.1 hr
  simpa using h

theorem nmCommon : (Try.f32.name == "runtime.NumGoroutine") = false := by kernel_rfl
noncomputable def bInt : Code := Try.f14.body.getD .skip
noncomputable def rInt : Array Oper := co (cl (cr (cr bInt)))
set_option maxRecDepth 20000 in
theorem Intersects_g {a : Option Addr} {n cp : Nat} {f : List (List Int)} {b : Option Addr} {m cq : Nat} {g : List (List Int)} {u : World} (h : Fam u a n f) (h' : Fam u b m g) :
    GCalls Try.prog 14 #[.slice a n cp, .slice b m cq] u fun v _ => v = .bool (intL f g) := by
  refine GCalls.of (cd := bInt) Try.func14 rfl fun X c cs hXl => ?_
  refine Gw.ctl rfl (fun w => stepG_seq (x := cl bInt) (y := cr bInt)) ?_
  refine Gw.seg CC RR (f := 14) (N := fun a' u' => a' = ⟨#[.slice a n cp, .slice b m cq, undef, undef, .bool false, undef, undef, undef, undef, undef, undef, undef, undef, undef, undef, undef, undef, undef, undef, undef, undef, undef, undef, undef], []⟩) (Rt := fun _ _ => False) rfl (kn_nil rfl) rfl (by kernel_rfl) (fun _ _ _ _ h => h) (fun _ _ _ _ h => h) (fun t d => ?_) (fun a' u1 hg1 h1 => ?_) fun _ _ _ _ _ h => h.elim
  · generalize World.re u t d = v
    simp only [bInt, cl, Try.f14, Option.getD_some, List.size_toArray, List.length_cons, List.length_nil, Nat.reduceAdd, Nat.reduceSub, Array.replicate_succ, Array.replicate_zero, List.push_toArray, List.append_toArray, List.nil_append, List.cons_append]
    go_wp2_with fail
    exact ⟨rfl, Ext.refl _ _⟩
  subst h1
  replace h := hg1.fam h
  replace h' := hg1.fam h'
  refine Gw.ctl rfl (fun w => stepG_seq (x := cl (cr bInt)) (y := cr (cr bInt))) ?_
  refine Gw.seg CC RR (f := 14) (N := fun a' u' => ∃ v8 v9 v10 v11 v12 v13 v14 xa n1 c1 ya m1 d1, a' = ⟨#[.slice a n cp, .slice b m cq, undef, undef, .bool false, .slice xa n1 c1, .slice ya m1 d1, .bool (ok2 f g), v8, v9, v10, v11, v12, v13, v14, undef, undef, undef, undef, undef, undef, undef, undef, undef], []⟩ ∧ Crs u' xa n1 (rdF f) ∧ Crs u' ya m1 (rdF g))
    (Rt := fun _ _ => False) rfl (kn_nil rfl) rfl (by kernel_rfl) (fun _ _ _ _ h => h) (fun _ _ _ _ h => h) (fun t d => ?_) (fun a' u2 hg2 h2 => ?_) fun _ _ _ _ _ h => h.elim
  · have H : Fam (World.re u1 t d) a n f := h
    have H' : Fam (World.re u1 t d) b m g := h'
    generalize World.re u1 t d = v at H H'
    simp only [bInt, cl, cr, Try.f14, Option.getD_some]
    go_wp2_with fail
    refine (readFamilies_any H H').mono ?_; rintro e w1 ⟨a1, n1, c1, b1, m1, d1, rfl, o1, o2, hne, e1⟩
    go_wp2_with fail
    exact ⟨⟨_, _, _, _, _, _, _, _, _, _, _, _, _, rfl, o1.crs, o2.crs⟩, e1⟩
  obtain ⟨v8, v9, v10, v11, v12, v13, v14, xa, n1, c1, ya, m1, d1, rfl, hx, hy⟩ := h2
  refine Gw.ctl rfl (fun w => stepG_seq (x := .region 2 rInt false) (y := .ret)) ?_
  refine Gw.ctl rfl (fun w => stepG_region) ?_
  rw [show List.range rInt.size = [0, 1, 2, 3, 4, 5, 6, 7, 8, 9] from rfl]
  refine Gw.mv (oo := rInt.getD 0 default) rfl (.inl rfl) rfl (bkn _) ?_
  refine Gw.mv (oo := rInt.getD 1 default) rfl (.inl rfl) rfl (bkn _) ?_
  show Gw _ _ _ _ _ _ (G ((base 14).at ⟨#[.slice a n cp, .slice b m cq, undef, undef, .bool false, .slice xa n1 c1, .slice ya m1 d1, .bool (ok2 f g), v8, v9, v10, v11, v12, v13, v14, .bool (ok2 f g), .bool (ok2 f g), undef, undef, undef, undef, undef, undef, undef], []⟩ _) _)
  unfold intL
  cases hok : ok2 f g
  · refine Gw.skip (oo := rInt.getD 2 default) rfl rfl ?_
    refine Gw.skip (oo := rInt.getD 3 default) rfl rfl ?_
    refine Gw.skip (oo := rInt.getD 4 default) rfl rfl ?_
    show Gw _ _ _ _ _ _ (G ((base 14).at ⟨#[.slice a n cp, .slice b m cq, undef, undef, .bool false, .slice xa n1 c1, .slice ya m1 d1, .bool false, v8, v9, v10, v11, v12, v13, v14, .bool false, .bool false, undef, undef, undef, undef, undef, undef, undef], []⟩ _) _)
    refine Gw.skip (oo := rInt.getD 5 default) rfl rfl ?_
    refine Gw.skip (oo := rInt.getD 6 default) rfl rfl ?_
    refine Gw.skip (oo := rInt.getD 7 default) rfl rfl ?_
    show Gw _ _ _ _ _ _ (G ((base 14).at ⟨#[.slice a n cp, .slice b m cq, undef, undef, .bool false, .slice xa n1 c1, .slice ya m1 d1, .bool false, v8, v9, v10, v11, v12, v13, v14, .bool false, .bool false, undef, undef, undef, undef, undef, undef, undef], []⟩ _) _)
    refine Gw.val (oo := rInt.getD 8 default) rfl rfl (bkn _) (fun w => pick_run (t := false) rfl rfl) ?_
    refine Gw.mv (oo := rInt.getD 9 default) rfl (.inr rfl) rfl (bkn _) ?_
    show Gw _ _ _ _ _ _ (G ((base 14).at ⟨#[.slice a n cp, .slice b m cq, undef, undef, .bool false, .slice xa n1 c1, .slice ya m1 d1, .bool false, v8, v9, v10, v11, v12, v13, v14, .bool false, .bool false, undef, undef, undef, undef, undef, undef, .bool false], []⟩ _) _)
    refine Gw.ctl rfl (fun w => stepG_region_end) ?_
    refine Gw.ctl rfl (fun w => stepG_ret') ?_
    exact Gw.leave (v := .bool false) Try.func14 rfl (by simp [results, Try.f14]) (Gw.done rfl)
  · refine Gw.mv (oo := rInt.getD 2 default) rfl (.inl rfl) rfl (bkn _) ?_
    refine Gw.mv (oo := rInt.getD 3 default) rfl (.inl rfl) rfl (bkn _) ?_
    show Gw _ _ _ _ _ _ (G ((base 14).at ⟨#[.slice a n cp, .slice b m cq, undef, undef, .bool false, .slice xa n1 c1, .slice ya m1 d1, .bool true, v8, v9, v10, v11, v12, v13, v14, .bool true, .bool true, .slice xa n1 c1, .slice ya m1 d1, undef, undef, undef, undef, undef], []⟩ _) _)
    have hn1 : n1 ≤ 20 := by rw [← hx.len]; exact rdF_len f
    have hm1 : m1 ≤ 20 := by rw [← hy.len]; exact rdF_len g
    refine Gw.gcall (oo := rInt.getD 4 default) (g := 32) (args := #[.tmp 17, .tmp 18]) rfl rfl (bkn _) rfl Try.func32 nmCommon rfl (vals := #[.slice xa n1 c1, .slice ya m1 d1]) (by simp [Act.eval]) (common_g (cx := c1) (cy := d1) hx hy hn1 hm1 (rdF_lt f) (rdF_lt g)) fun X' v u3 hg3 ⟨C, hv, hM⟩ => ?_
    subst hv
    show Gw _ _ _ _ _ _ (G ((base 14).at ⟨#[.slice a n cp, .slice b m cq, undef, undef, .bool false, .slice xa n1 c1, .slice ya m1 d1, .bool true, v8, v9, v10, v11, v12, v13, v14, .bool true, .bool true, .slice xa n1 c1, .slice ya m1 d1, .slice (some ⟨C, 0, none⟩) n1 n1, undef, undef, undef, undef], []⟩ _) _)
    obtain ⟨q, hq⟩ : ∃ q, ((rowsL (rdF f) (rdF g)).flatten.contains 0) = q := ⟨_, rfl⟩
    rw [hq]
    have HQ := Lib.hid hq
    have hrl := Lib.hid (rowsL_le (x := rdF f) (rdF_len g))
    clear hq
    refine Gw.oprest CC RR (f := 14) (N := fun a' u' => a'.tmps.getD 4 undef = .bool (true && !q) ∧ a'.defers = []) rfl (kn_nil rfl) rfl (by kernel_rfl) (fun _ _ _ _ h => h) (fun t d => ?_) (fun a' u4 hg4 h4 => ?_)
    · have HM : Mat (World.re u3 t d) (some ⟨C, 0, none⟩) n1 (rowsL (rdF f) (rdF g)) := hM
      generalize World.re u3 t d = v at HM
      refine wpOps_rest 5 rfl ?_
      simp only [rInt, bInt, cl, cr, co, Try.f14, Option.getD_some, List.drop_succ_cons, List.drop_zero]
      go_wp2_with fail
      refine (Concat_any HM hn1 hrl.out).mono ?_; rintro e w1 ⟨a4, m4, c4, rfl, o4, e4⟩
      go_wp2_with fail
      refine (Contains_is (v := 0) (b := q) o4.crs HQ.out).mono ?_; rintro e w2 ⟨rfl, rfl⟩
      go_wp2_with fail
      exact ⟨⟨rfl, rfl⟩, e4⟩
    · obtain ⟨T, ds⟩ := a'
      obtain ⟨h4, hd⟩ := h4
      subst hd
      refine Gw.ctl rfl (fun w => stepG_ret') ?_
      exact Gw.leave (v := .bool (true && !q)) Try.func14 rfl (by rw [← h4]; simp [results, Try.f14]) (Gw.done rfl)
end

section
open Go.RowKit

/-- Every quorum meets every one of the other. -/
def meetQ (x y : List Nat) : Bool := x.all fun c => hitsQ y c
theorem meetQ_rows (x y : List Nat) : meetQ x y = !((rowsL x y).flatten.contains 0) := by
  rw [Bool.eq_iff_iff]
  unfold meetQ hitsQ rowsL
  simp only [List.all_eq_true, decide_eq_true_eq, Bool.not_eq_true', List.contains_eq_mem, decide_eq_false_iff_not, List.mem_flatten, List.mem_map, not_exists, not_and]
  constructor
  · rintro h l ⟨c, hc, rfl⟩ hm
    obtain ⟨b, hb, e⟩ := List.mem_map.1 hm
    exact h c hc b hb (by rw [Nat.and_comm]; exact e)
  · intro h c hc b hb e
    exact h _ ⟨c, hc, rfl⟩ (List.mem_map.2 ⟨b, hb, by rw [Nat.and_comm]; exact e⟩)
theorem intL_meet (f g : List (List Int)) : intL f g = (famB f && (famB g && meetQ (masks f) (masks g))) := by
  unfold intL ok2
  cases hf : famB f
  · simp
  · cases hg : famB g
    · simp
    · rw [meetQ_rows, rdF_yes hf, rdF_yes hg]; simp
theorem meet_step (f : List (List Int)) (y : List Nat) (k : Nat) (h : k < f.length) : meetQ (masks (f.take (k + 1))) y = (meetQ (masks (f.take k)) y && hitsQ y (mask (f.getD k []))) := by
  rw [masks_step f k h]; unfold meetQ; rw [List.all_append]; simp
theorem meet_take {f : List (List Int)} {y : List Nat} {k : Nat} (h : meetQ (masks (f.take k)) y = false) : meetQ (masks f) y = false := by
  cases hq : meetQ (masks f) y
  · rfl
  · exfalso
    have : meetQ (masks (f.take k)) y = true := by
      unfold meetQ masks at *
      rw [List.all_eq_true] at *
      intro x hx
      obtain ⟨s, hs, rfl⟩ := List.mem_map.1 hx
      exact hq _ (List.mem_map_of_mem (List.mem_of_mem_take hs))
    rw [this] at h; cases h

set_option maxHeartbeats 1000000 in
theorem l11_is {a : Option Addr} {n cp : Nat} {f : List (List Int)} {b : Option Addr} {m cq : Nat} {g : List (List Int)} {w : World} {q : Bool} (h : Fam w a n f) (h' : Fam w b m g) (hv : ∀ s ∈ f, valid s = true) (hv' : ∀ s ∈ g, valid s = true) (hq : meetQ (masks f) (masks g) = q) :
    Calls Try.prog 47 #[.slice a n cp, .slice b m cq] w fun e w' => e = .returned (.bool q) ∧ Ext none w w' := by
  have hm := h.max
  have H := Lib.hid h
  have H' := Lib.hid h'
  have HV := Lib.hid hv
  have HV' := Lib.hid hv'
  have HQ := Lib.hid hq
  have hl := Lib.hid h.len
  clear h h' hv hv' hq
  go_enter Try.func47, Try.ntmps47
  go_wp2_with fail
  go_loopw [5] (fun i wr => ∃ k : Nat, k ≤ n ∧ i = .int .i64 (k : Nat) ∧ meetQ (masks (f.take k)) (masks g) = true ∧ Ext none w wr)
    (fun i _ => n - (intOf i).toNat)
  case atStart => exact ⟨0, by omega, rfl, rfl, Ext.refl _ _⟩
  case round =>
    obtain ⟨k, hk, rfl, ht, he⟩ := hrel
    have HT := Lib.hid ht
    clear ht
    by_cases hlt : k < n
    · have hltI : (k : Int) < (n : Int) := by omega
      have hkl : k < f.length := by rw [hl.out]; exact hlt
      obtain ⟨b1, off, a2, n2, c2, rfl, hc1, hi⟩ := (H.out.ext he).cell hlt
      have hval := HV.out _ (getD_mem hkl)
      have HI := Lib.hid (show Ints wr a2 n2 (mem (mask (f.getD k []))) from by rw [mem_mask hval]; exact hi)
      have h64 := Lib.hid (mask_lt hval)
      have hst := Lib.hid (meet_step f (masks g) k hkl)
      clear hi hval
      obtain ⟨p, hp⟩ : ∃ p, hitsQ (masks g) (mask (f.getD k [])) = p := ⟨_, rfl⟩
      have HP := Lib.hid hp
      clear hp
      go_wp2_with fail
      refine (l3Hits_is (H'.out.ext he) HI.out h64.out HV'.out HP.out).mono ?_; rintro e w2 ⟨rfl, e2⟩
      have he2 := Lib.hid (he.trans e2)
      clear he e2
      cases p
      · have hno := Lib.hid (show q = false from by
          rw [← HQ.out]; refine meet_take (k := k + 1) ?_
          rw [hst.out, HP.out, Bool.and_false])
        go_wp2_with fail
        go_ret
        exact ⟨retB hno.out, he2.out⟩
      · have hyes := Lib.hid (show meetQ (masks (f.take (k + 1))) (masks g) = true from by rw [hst.out, HT.out, HP.out]; rfl)
        go_wp2_with fail
        go_roundw
        case rel => exact ⟨k + 1, by omega, by go_num, hyes.out, he2.out⟩
        case measure => simp [intOf]; omega
    · obtain rfl : k = n := by omega
      have hyes := Lib.hid (show q = true from by
        rw [← HQ.out]; have := HT.out; rwa [List.take_of_length_le (by rw [hl.out]; exact Nat.le_refl _)] at this)
      go_wp2_with fail
      go_ret
      exact ⟨retB hyes.out, he⟩

set_option maxHeartbeats 1000000 in
theorem sIntersects_is {a : Option Addr} {n cp : Nat} {f : List (List Int)} {b : Option Addr} {m cq : Nat} {g : List (List Int)} {w : World} {q : Bool} (h : Fam w a n f) (h' : Fam w b m g) (hq : intL f g = q) :
    Calls Try.prog 27 #[.slice a n cp, .slice b m cq] w fun e w' => e = .returned (.bool q) ∧ Ext none w w' := by
  rw [intL_meet] at hq
  cases hf : famB f
  · have HQ := Lib.hid (show q = false from by rw [← hq, hf]; rfl)
    clear hq
    go_enter Try.func27, Try.ntmps27
    go_wp2_with fail
    refine (sFamilyValid_is h hf).mono ?_; rintro e w1 ⟨rfl, d1⟩
    go_wp2_with fail
    go_ret
    exact ⟨retB HQ.out, d1.ext⟩
  · cases hg : famB g
    · have HQ := Lib.hid (show q = false from by rw [← hq, hf, hg]; rfl)
      clear hq
      go_enter Try.func27, Try.ntmps27
      go_wp2_with fail
      refine (sFamilyValid_is h hf).mono ?_; rintro e w1 ⟨rfl, d1⟩
      go_wp2_with fail
      refine (sFamilyValid_is (h'.ext d1.ext) hg).mono ?_; rintro e w2 ⟨rfl, d2⟩
      go_wp2_with fail
      go_ret
      exact ⟨retB HQ.out, d1.ext.trans d2.ext⟩
    · have HQ := Lib.hid (show meetQ (masks f) (masks g) = q from by rw [← hq, hf, hg]; rfl)
      have V := Lib.hid (fam_valid hf)
      have V' := Lib.hid (fam_valid hg)
      clear hq
      go_enter Try.func27, Try.ntmps27
      go_wp2_with fail
      refine (sFamilyValid_is h hf).mono ?_; rintro e w1 ⟨rfl, d1⟩
      go_wp2_with fail
      refine (sFamilyValid_is (h'.ext d1.ext) hg).mono ?_; rintro e w2 ⟨rfl, d2⟩
      have HE := Lib.hid (show Ext none w w2 from d1.ext.trans d2.ext)
      go_wp2_with fail
      refine (l11_is (h.ext HE.out) (h'.ext HE.out) V.out V'.out HQ.out).mono ?_; rintro e w3 ⟨rfl, e3⟩
      go_wp2_with fail
      go_ret
      exact ⟨rfl, HE.out.trans e3⟩

/-- What l91Pair leaves. -/
def PairR (w : World) (rb k : Nat) (e : Ending) (w' : World) : Prop :=
  ∃ a n c f b m d g, e = .returned (.tuple #[.slice a n c, .slice b m d]) ∧ FamV w' a n c f ∧ n ≤ 80 ∧ FamV w' b m d g ∧ m ≤ 80 ∧ Rd w' rb k ∧ Ext (some rb) w w'
set_option maxHeartbeats 1000000 in
theorem l91Pair_any {rb k : Nat} {w : World} (h : Rd w rb k) (hk : k ≤ 700000) :
    Calls Try.prog 28 #[.pointer (some ⟨rb, 0, none⟩)] w (PairR w rb (k + 90)) := by
  have hlt := Lib.hid h.lt
  go_enter Try.func28, Try.ntmps28
  go_wp2_with fail
  refine (l91Family_any h (by omega)).mono ?_; rintro e w1 ⟨a1, n1, c1, f, rfl, o1, hn1, r1, e1⟩
  have F1 := Lib.hid o1.famV
  have O1 := Lib.hid o1
  have R1 := Lib.hid r1
  have E1 := Lib.hid e1
  clear o1 r1 e1 h
  obtain ⟨q, hq⟩ : ∃ q, okT f = q := ⟨_, rfl⟩
  have HQ := Lib.hid hq
  have hsm := Lib.hid (small_transL f)
  clear hq
  go_wp2_with fail
  refine (sFamilyTransversals_r F1.out HQ.out).mono ?_; rintro e w2 ⟨a2, n2, c2, rfl, f2, e2⟩
  have hn2 : n2 ≤ 64 := by rw [← f2.len]; exact hsm.out.1
  have F2 := Lib.hid f2
  have F12 := Lib.hid (F1.out.ext e2)
  have R2 := Lib.hid (R1.out.ext e2)
  have E2 := Lib.hid (E1.out.trans e2.weak)
  have O2 := Lib.hid (O1.out.ext0 e2)
  have hlt1 := Lib.hid (Nat.lt_of_lt_of_le hlt.out E1.out.size)
  clear f2 e2
  cases q
  · go_wp2_with fail
    refine (l91Family_any R2.out (by omega)).mono ?_; rintro e w3 ⟨a3, n3, c3, g, rfl, o3, hn3, r3, e3⟩
    go_wp2_with fail
    go_ret2
    have hs := E1.out.size
    exact ⟨_, _, _, _, _, _, _, _, rfl, (O2.out.ext e3 (fun j hj => by cases hj; exact ⟨hlt.out, hlt.out⟩)).famV, by omega, o3.famV, by omega, Rd.more r3 (by omega), E2.out.trans e3⟩
  · go_wp2_with fail
    refine (pick_any R2.out (by omega) (by omega) (by omega)).mono ?_; rintro e w3 ⟨x, rfl, hx0, hx1, r3, e3⟩
    by_cases hp : x > 0
    · go_wp2_with fail
      go_ret2
      exact ⟨_, _, _, _, _, _, _, _, rfl, (O2.out.ext e3 (fun j hj => by cases hj; exact ⟨hlt.out, hlt.out⟩)).famV, by omega, (F2.out.ext e3 (fun j hj => by cases hj; exact ⟨hlt1.out, hlt1.out⟩)).famV, by omega, Rd.more r3 (by omega), E2.out.trans e3⟩
    · go_wp2_with fail
      refine (l91Family_any r3 (by omega)).mono ?_; rintro e w4 ⟨a4, n4, c4, g, rfl, o4, hn4, r4, e4⟩
      go_wp2_with fail
      go_ret2
      exact ⟨_, _, _, _, _, _, _, _, rfl, ((O2.out.ext e3 (fun j hj => by cases hj; exact ⟨hlt.out, hlt.out⟩)).ext e4 (fun j hj => by cases hj; exact ⟨hlt.out, hlt.out⟩)).famV, by omega, o4.famV, by omega, Rd.more r4 (by omega), (E2.out.trans e3).trans e4⟩
set_option maxHeartbeats 400000 in
theorem DrawIntersects_any {a : Option Addr} {n c : Nat} {w : World} (h : Bytes w a n c) :
    Calls Try.prog 26 #[.slice a n c] w (F2R w) := by
  go_enter Try.func26, Try.ntmps26
  go_wp2_with fail
  refine (l6Open_any h).mono ?_; rintro e w1 ⟨rfl, hr1, he1⟩
  go_wp2_with fail
  refine (l91Pair_any hr1 (by omega)).mono ?_; rintro e w2 ⟨a2, n2, c2, f, b2, m2, d2, g, rfl, hf, hn, hg, hm, hr, he⟩
  go_wp2_with fail
  go_ret2
  exact ⟨_, _, _, _, _, _, _, _, rfl, hf, hn, hg, hm, he1.loc he (Nat.le_refl _)⟩
set_option maxHeartbeats 400000 in
theorem DrawIntersectCounterexample_any {a : Option Addr} {n c : Nat} {w : World} (h : Bytes w a n c) :
    Calls Try.prog 8 #[.slice a n c] w (F2R w) := by
  go_enter Try.func8, Try.ntmps8
  go_wp2_with fail
  refine (l6Open_any h).mono ?_; rintro e w1 ⟨rfl, hr1, he1⟩
  go_wp2_with fail
  refine (l91Pair_any hr1 (by omega)).mono ?_; rintro e w2 ⟨a2, n2, c2, f, b2, m2, d2, g, rfl, hf, hn, hg, hm, hr, he⟩
  go_wp2_with fail
  go_ret2
  exact ⟨_, _, _, _, _, _, _, _, rfl, hf, hn, hg, hm, he1.loc he (Nat.le_refl _)⟩
end

section
open Go.Conc Go.RowKit

/-- Goroutine 0 is on its way out, with true. -/
def QEnd (P : Program) (f : FuncId) (u : World) (X' : Nat → Prop) (g' : Goroutine) (w' : World) : Prop :=
  ∃ u' a todo fn, g' = G { (base f).at a todo with mode := .returning } [] ∧ a.defers = [] ∧ P.funcs[f]? = some fn ∧ results fn a.tmps = pure (.bool true) ∧ Wd (fun _ => False) u X' u' w'
/-- What a law's walk shows. -/
def GLaw (P : Program) (f : FuncId) (args : Array Value) (u : World) : Prop := Gw P (fun _ => False) u (QEnd P f u) (fun _ => False) u (G (Frame.enter P f args .normal) [])
theorem GLaw.of {P : Program} {f : FuncId} {args : Array Value} {u : World} {fn : Func} {cd : Code} (h1 : P.funcs[f]? = some fn) (h3 : fn.body = some cd)
    (h : Gw P (fun _ => False) u (QEnd P f u) (fun _ => False) u (G ((base f).at ⟨args ++ Array.replicate (fn.ntmps - args.size) undef, []⟩ [.code cd]) [])) : GLaw P f args u := by
  unfold GLaw
  rw [enter_at args h1 h3]
  exact h
theorem Gw.fin {P : Program} {f : FuncId} {fn : Func} {X : Nat → Prop} {u0 u : World} {a : Act} {todo : List Item} (h1 : P.funcs[f]? = some fn) (hd : a.defers = []) (hv : results fn a.tmps = pure (.bool true)) :
    Gw P (fun _ => False) u0 (QEnd P f u0) X u (G { (base f).at a todo with mode := .returning } []) := .here fun w hw => ⟨u, a, todo, fn, rfl, hd, h1, hv, hw⟩

theorem shX_none : ShX (fun _ => False) = fun _ => False := by
  funext l
  simp [ShX]
theorem law_run {P : Program} {f : FuncId} {args : Array Value} {W : World} (hi : P.inits.idxOf? f = none) (h : GLaw P f args W) :
    ∃ M last o w' t', runNT P (M + 1) (solo (G (Frame.enter P f args .normal) []) W) #[] = (.ended o w', t') ∧ runN P M (solo (G (Frame.enter P f args .normal) []) W) = .next last ∧ step P last = .ended o w' ∧
      Conc.Good P (fun v w' => v = .bool true ∧ Below W.heap.size W (World.re w' W.tape 0)) last o w' t' := by
  have hF : Fr P (fun _ => False) #[G (Frame.enter P f args .normal) []] W #[] (fun _ => 0) := by
    refine ⟨leavers_one _ _, ⟨W.heap.size, Nat.le_refl _, ?_⟩, fun i a ha => by simp [touchAt, Trace.act?] at ha, fun i op x hi => by simp at hi, fun i a ha => by simp [touchAt, Trace.act?] at ha, fun i op hi => by simp at hi⟩
    rw [shX_none]
    exact past_nil.mono (Nat.zero_le _)
  obtain ⟨N, gs', g', w', sl', t', q', X', r1, h0, hF', u', a, todo, fn, rfl, hd, hfn, hv, hw⟩ := h W (.refl ⟨rfl, rfl, rfl, fun _ _ => rfl, fun _ h => h.elim⟩) #[G (Frame.enter P f args .normal) []] none #[] _ rfl hF
  obtain ⟨B, hB, hP⟩ := hF'.past
  have key : ∀ d, Below W.heap.size W (World.re (w'.at d) W.tape 0) := fun d => by
    refine ⟨hw.pz.os.trans hw.gx.os, rfl, hw.pz.out.trans hw.gx.out, ?_, fun k hk => ?_⟩
    · have := hw.gx.size
      have := hw.pz.size
      show W.heap.size ≤ w'.heap.size
      omega
    · show w'.heap[k]? = _
      rw [hw.pz.same k (fun hx => (hw.nx k hx).elim (fun h => h) fun h => by omega)]
      exact hw.gx.block k hk
  have hG : Goes P true AtRel (fun _ _ es => es = #[]) (AtEnd P (ShX X') B fun v w' => v = .bool true ∧ Below W.heap.size W (World.re w' W.tape 0)) 0 (G { (base f).at a todo with mode := .returning } []) w' := by
    rintro w₁ ⟨d, rfl⟩
    refine ⟨rfl, .bool true, #[], ?_, by simp, rfl, key d⟩
    simp [G, stepG, unwind, doReturn, Frame.at, base, hd, hfn, hv, hi, seen, GStep.after, Sem.run, pure, Sem.runT]
  obtain ⟨M, last, o, w2, t2, e1, e2, e3, e4⟩ := beside_ends (P := P) (sl := sl') (D := fun _ _ es => es = #[]) (fun w w' es h e he => by rw [h] at he; simp at he) h0 hF'.lv hP hG
  refine ⟨N + M, last, o, w2, t2, ?_, ?_, e3, e4⟩
  · rw [solo_eq_crowd, Nat.add_assoc, runNT_add, r1]; exact e1
  · rw [solo_eq_crowd, runN_add, ← runNT_fst P _ _ #[], r1]; exact e2

theorem post_re {H : Type} {enc : TypeId × Value → H} {P : Program} {f : Func} {s : ChangeSpec} {apart fresh handsOn : Bool} {W W' : World} {args : Array Value} {v : Value} {T : Nat → Question → Nat} {d : Nat}
    (h : s.post enc P f apart fresh handsOn false W args v (World.re W' T d)) : s.post enc P f apart fresh handsOn false W args v W' := by
  obtain ⟨ds, gs, before, pr, pa, pv, h1, h2, h3, h4, h5, h6⟩ := h
  exact ⟨ds, gs, before, pr, pa, pv, h1, h2.of_heap (by rfl), h3.of_heap (by rfl), h4.of_heap (by rfl), h5, fun h => by cases h⟩
end

section
open Go.Conc Go.RowKit

theorem lcons {l : List Value} {n : Nat} (h : l.length = n + 1) : ∃ a t, l = a :: t ∧ t.length = n := by
  cases l with
  | nil => cases h
  | cons a t => exact ⟨a, t, rfl, by simpa using h⟩
/-- What is behind the first statements. -/
def ct : Nat → Code → Code
  | 0, b => b
  | k + 1, .seq _ b => ct k b
  | _ + 1, c => c
def rowI (g : List (List Int)) (s : List Int) : Bool := g.all fun t => decide (0 < (interL s t).length)
def allI (f g : List (List Int)) : Bool := f.all (rowI g)
theorem rowI_step (g : List (List Int)) (s : List Int) (k : Nat) (h : k < g.length) : rowI (g.take (k + 1)) s = (rowI (g.take k) s && decide (0 < (interL s (g.getD k [])).length)) := by
  unfold rowI; rw [snoc_take g [] k h, List.all_append]; simp
theorem allI_step (f g : List (List Int)) (k : Nat) (h : k < f.length) : allI (f.take (k + 1)) g = (allI (f.take k) g && rowI g (f.getD k [])) := by
  unfold allI; rw [snoc_take f [] k h, List.all_append]; simp
theorem rowI_hits {g : List (List Int)} {s : List Int} (hg : famB g = true) (hs : valid s = true) : rowI g s = hitsQ (masks g) (mask s) := by
  have e : rowI g s = hitsL g s := by unfold rowI hitsL; congr 1; funext x; rw [interL_comm]
  rw [e, hitsL_mask (fam_valid hg) hs]
theorem allI_meet {f g : List (List Int)} (hf : famB f = true) (hg : famB g = true) : allI f g = intL f g := by
  rw [intL_meet, hf, hg, Bool.true_and, Bool.true_and]
  have hv := fam_valid hf
  clear hf
  unfold allI meetQ masks
  induction f with
  | nil => rfl
  | cons s f ih =>
    rw [List.all_cons, List.map_cons, List.all_cons, ih fun x hx => hv x (by simp [hx]), rowI_hits hg (hv s (by simp))]
    rfl
theorem intL_symm (f g : List (List Int)) : intL f g = intL g f := by
  rw [intL_meet, intL_meet]
  cases hf : famB f <;> cases hg : famB g <;> try rfl
  simp only [Bool.true_and]
  rw [Bool.eq_iff_iff]
  unfold meetQ hitsQ
  simp only [List.all_eq_true, decide_eq_true_eq]
  exact ⟨fun h c hc x hx => by rw [Nat.and_comm]; exact h x hx c hc, fun h c hc x hx => by rw [Nat.and_comm]; exact h x hx c hc⟩
theorem nmInt : (Try.f14.name == "runtime.NumGoroutine") = false := by kernel_rfl
theorem eqb_ev (p q : Bool) (w : World) : Sem.events Try.prog (binOp .eql 4 (.bool p) (.bool q)) w #[] = #[] := by
  cases p <;> cases q <;> kernel_rfl
theorem eqb_run {a : Act} {w : World} {o : Oper} {x y : Operand} {p q : Bool} (h : o.op = .binOp .eql 4 x y 4) (hx : a.eval x = .bool p) (hy : a.eval y = .bool q) :
    (execOp a.eval o).run Try.prog w = .ok (.value (.bool (p == q))) w ∧ (execOp a.eval o).events Try.prog w #[] = #[] := by
  constructor <;> unfold execOp <;> simp only [h, hx, hy] <;> simp [go_sem, eqb_ev]
theorem eqt_run {a : Act} {w : World} {o : Oper} {x y : Operand} {p : Bool} (h : o.op = .binOp .eql 4 x y 4) (hx : a.eval x = .bool p) (hy : a.eval y = .bool p) :
    (execOp a.eval o).run Try.prog w = .ok (.value (.bool true)) w ∧ (execOp a.eval o).events Try.prog w #[] = #[] := by
  have := eqb_run (w := w) h hx hy
  simpa using this
end

section
open Go.Conc Go.ConcN

/-- What such a stretch may end with. -/
def SegG (u0 : World) (N Rt : Act → World → Prop) : Exit → Act → World → Prop
  | .normal, a, w => N a w ∧ Gx u0 w
  | .ret, a, w => Rt a w ∧ Gx u0 w
  | _, _, _ => False
theorem Gw.segG {P : Program} {T : Tame} {X0 X : Nat → Prop} {u0 u : World} {Q : (Nat → Prop) → Goroutine → World → Prop} {cs : List Frame} (C : Closed P T) (R : ResOk P T) {f : FuncId} {a : Act} {cd : Code} {K : List Item} (hf : T.M f = true) (hK : Kn T f a.tmps) (hd : a.defers = []) (hi : codeOk P T f cd = true)
    {N Rt : Act → World → Prop} (hN : ∀ a u t d, N a u → N a (World.re u t d)) (hRt : ∀ a u t d, Rt a u → Rt a (World.re u t d)) (h : ∀ t d, Gx u0 (World.re u t d) → cd.wp P (SegG u0 N Rt) a (World.re u t d))
    (hn : ∀ a' u', N a' u' → Gw P X0 u0 Q X u' (G ((base f).at a' K) cs))
    (hr : ∀ a' u' todo, a'.defers = [] → Rt a' u' → Gw P X0 u0 Q X u' (G { (base f).at a' todo with mode := .returning } cs)) : Gw P X0 u0 Q X u (G ((base f).at a (.code cd :: K)) cs) := fun w hwd =>
  Gto.of_alw (S := fun g1 w1 => ∃ u', Wd X0 u0 X u' w1 ∧ ((∃ a', g1 = G ((base f).at a' K) cs ∧ N a' u') ∨ ∃ a' todo, g1 = G { (base f).at a' todo with mode := .returning } cs ∧ a'.defers = [] ∧ Rt a' u'))
    (Alw.seg C R hf hK hd hi hwd.pz (N := fun a' u' => N a' u' ∧ Gx u0 u') (Rt := fun a' u' => Rt a' u' ∧ Gx u0 u') (fun a' u' t d x => ⟨hN _ _ _ _ x.1, x.2.re t d⟩) (fun a' u' t d x => ⟨hRt _ _ _ _ x.1, x.2.re t d⟩)
      (fun t d => wp_mono (h t d (hwd.gx.re t d)) fun e a' w' hq => by
        cases e with
        | normal => exact hq
        | ret => exact hq
        | _ => exact hq.elim)
      (fun a' u' w' hp' ⟨x, y⟩ => .stop fun d => ⟨u', Wd.at ⟨hp', hwd.nx, y⟩ d, .inl ⟨a', rfl, x⟩⟩)
      fun a' u' w' todo hd' hp' ⟨x, y⟩ => .stop fun d => ⟨u', Wd.at ⟨hp', hwd.nx, y⟩ d, .inr ⟨a', todo, rfl, hd', x⟩⟩)
    fun g1 w1 ⟨u', hw1, hc⟩ => by
      rcases hc with ⟨a', rfl, x⟩ | ⟨a', todo, rfl, hd', x⟩
      · exact hn a' u' x w1 hw1
      · exact hr a' u' todo hd' x w1 hw1
/-- The law's start stands: a fact of every state of the walk. -/
theorem Gw.has {P : Program} {X0 X : Nat → Prop} {u0 u : World} {Q : (Nat → Prop) → Goroutine → World → Prop} {g : Goroutine} (h : Gx u0 u → Gw P X0 u0 Q X u g) : Gw P X0 u0 Q X u g := fun w hw => h hw.gx w hw
/-- Changes behind the law's start. -/
theorem Gx.chg {u0 v w : World} (h : Gx u0 v) (hos : w.os = v.os) (hout : w.output = v.output) (hs : v.heap.size ≤ w.heap.size) (hb : ∀ i, i < u0.heap.size → w.heap[i]? = v.heap[i]?) : Gx u0 w :=
  ⟨hos.trans h.os, hout.trans h.out, Nat.le_trans h.size hs, fun i hi => (hb i hi).trans (h.block i hi)⟩
end
end Go.Proofs.Ytnifgfnhcjhodaa
