/- The helpers of the exact laws, on slices of int. Conditions: each lemma's own. -/
import Derived.Test.YtnifgfnhcjhodaaPW
import Derived.Test.YtnifgfnhcjhodaaPM
namespace Go.Proofs.Ytnifgfnhcjhodaa
open Go.RowKit
set_option linter.unusedVariables false

theorem same_len {xs ys : List Int} (h : xs.length ≠ ys.length) : same xs ys = false := by
  unfold same; rw [decide_eq_false_iff_not]; rintro rfl; exact h rfl
theorem same_at {xs ys : List Int} {k : Nat} (h : xs.getD k 0 ≠ ys.getD k 0) : same xs ys = false := by
  unfold same; rw [decide_eq_false_iff_not]; rintro rfl; exact h rfl
theorem take_same {xs ys : List Int} {k : Nat} (h : xs.take k = ys.take k) (hx : k < xs.length) (hy : k < ys.length) (he : xs.getD k 0 = ys.getD k 0) : xs.take (k + 1) = ys.take (k + 1) := by
  rw [take_snoc xs k hx, take_snoc ys k hy, h, he]

set_option maxHeartbeats 1000000 in
theorem eqIntS_any {a : Option Addr} {n c : Nat} {xs : List Int} {b : Option Addr} {m d : Nat} {ys : List Int} {w : World} (hx : Ints w a n xs) (hy : Ints w b m ys) :
    Calls Try.prog 22 #[.slice a n c, .slice b m d] w fun e w' => e = .returned (.bool (same xs ys)) ∧ Dr w w' := by
  have hm := hx.max
  by_cases hnm : n = m
  · subst hnm
    go_enter Try.func22, Try.ntmps22
    go_wp2_with fail
    go_loopw [5] (fun i wr => ∃ k : Nat, k ≤ n ∧ i = .int .i64 k ∧ xs.take k = ys.take k ∧ Dr w wr)
      (fun i _ => n - (intOf i).toNat)
    case atStart => exact ⟨0, by omega, rfl, rfl, Dr.refl _⟩
    case round =>
      obtain ⟨k, hk, rfl, ht, hd⟩ := hrel
      have HT := Lib.hid ht
      clear ht
      replace hx := hx.ext hd.ext
      replace hy := hy.ext hd.ext
      by_cases hlt : k < n
      · have hltI : (k : Int) < (n : Int) := by omega
        have hl : k < xs.length := by rw [hx.len]; exact hlt
        have hl2 : k < ys.length := by rw [hy.len]; exact hlt
        obtain ⟨b1, off, rfl, hc⟩ := hx.cell hlt
        obtain ⟨b2, off2, rfl, hc2⟩ := hy.cell hlt
        obtain ⟨x, hxx⟩ : ∃ x, x = xs.getD k 0 := ⟨_, rfl⟩
        obtain ⟨y, hyy⟩ : ∃ y, y = ys.getD k 0 := ⟨_, rfl⟩
        rw [← hxx] at hc
        rw [← hyy] at hc2
        have HX := Lib.hid hxx
        have HY := Lib.hid hyy
        clear hxx hyy
        by_cases he : x = y
        · subst he
          have hb : (x != x) = false := by simp
          go_wp2_with fail
          go_quiet (fail)
          go_wp2_with fail
          go_roundw
          case rel => exact ⟨k + 1, by omega, by go_num, take_same HT.out hl hl2 (by rw [← HX.out, ← HY.out]), hd.drewN _⟩
          case measure => simp [intOf]; omega
        · have hb : (x != y) = true := by rw [bne_iff_ne]; exact he
          have hno := Lib.hid (same_at (show xs.getD k 0 ≠ ys.getD k 0 from by rw [← HX.out, ← HY.out]; exact he))
          go_wp2_with fail
          go_quiet (fail)
          go_wp2_with fail
          go_ret
          exact ⟨by rw [hno.out]; rfl, hd.drewN _⟩
      · obtain rfl : k = n := by omega
        have hyes := Lib.hid (show same xs ys = true from by
          have := HT.out
          rw [List.take_of_length_le (by rw [hx.len]; omega), List.take_of_length_le (by rw [hy.len]; omega)] at this
          rw [this]; exact same_refl _)
        go_wp2_with fail
        go_ret
        exact ⟨by rw [hyes.out]; rfl, hd⟩
  · have hno := Lib.hid (same_len (show xs.length ≠ ys.length from by rw [hx.len, hy.len]; exact hnm))
    have hb : ((n : Int) != (m : Int)) = true := by rw [bne_iff_ne]; omega
    go_enter Try.func22, Try.ntmps22
    go_wp2_with fail
    go_ret
    exact ⟨by rw [hno.out]; rfl, Dr.refl _⟩
set_option maxHeartbeats 1000000 in
theorem sameInts_any {a : Option Addr} {n c : Nat} {xs : List Int} {b : Option Addr} {m d : Nat} {ys : List Int} {w : World} (hx : Ints w a n xs) (hy : Ints w b m ys) :
    Calls Try.prog 11 #[.slice a n c, .slice b m d] w fun e w' => e = .returned (.bool (same xs ys)) ∧ Dr w w' := by
  have hm := hx.max
  by_cases hnm : n = m
  · subst hnm
    go_enter Try.func11, Try.ntmps11
    go_wp2_with fail
    go_loopw [5] (fun i wr => ∃ k : Nat, k ≤ n ∧ i = .int .i64 k ∧ xs.take k = ys.take k ∧ Dr w wr)
      (fun i _ => n - (intOf i).toNat)
    case atStart => exact ⟨0, by omega, rfl, rfl, Dr.refl _⟩
    case round =>
      obtain ⟨k, hk, rfl, ht, hd⟩ := hrel
      have HT := Lib.hid ht
      clear ht
      replace hx := hx.ext hd.ext
      replace hy := hy.ext hd.ext
      by_cases hlt : k < n
      · have hltI : (k : Int) < (n : Int) := by omega
        have hl : k < xs.length := by rw [hx.len]; exact hlt
        have hl2 : k < ys.length := by rw [hy.len]; exact hlt
        obtain ⟨b1, off, rfl, hc⟩ := hx.cell hlt
        obtain ⟨b2, off2, rfl, hc2⟩ := hy.cell hlt
        obtain ⟨x, hxx⟩ : ∃ x, x = xs.getD k 0 := ⟨_, rfl⟩
        obtain ⟨y, hyy⟩ : ∃ y, y = ys.getD k 0 := ⟨_, rfl⟩
        rw [← hxx] at hc
        rw [← hyy] at hc2
        have HX := Lib.hid hxx
        have HY := Lib.hid hyy
        clear hxx hyy
        by_cases he : x = y
        · subst he
          have hb : (x != x) = false := by simp
          go_wp2_with fail
          go_quiet (fail)
          go_wp2_with fail
          go_roundw
          case rel => exact ⟨k + 1, by omega, by go_num, take_same HT.out hl hl2 (by rw [← HX.out, ← HY.out]), hd.drewN _⟩
          case measure => simp [intOf]; omega
        · have hb : (x != y) = true := by rw [bne_iff_ne]; exact he
          have hno := Lib.hid (same_at (show xs.getD k 0 ≠ ys.getD k 0 from by rw [← HX.out, ← HY.out]; exact he))
          go_wp2_with fail
          go_quiet (fail)
          go_wp2_with fail
          go_ret
          exact ⟨by rw [hno.out]; rfl, hd.drewN _⟩
      · obtain rfl : k = n := by omega
        have hyes := Lib.hid (show same xs ys = true from by
          have := HT.out
          rw [List.take_of_length_le (by rw [hx.len]; omega), List.take_of_length_le (by rw [hy.len]; omega)] at this
          rw [this]; exact same_refl _)
        go_wp2_with fail
        go_ret
        exact ⟨by rw [hyes.out]; rfl, hd⟩
  · have hno := Lib.hid (same_len (show xs.length ≠ ys.length from by rw [hx.len, hy.len]; exact hnm))
    have hb : ((n : Int) != (m : Int)) = true := by rw [bne_iff_ne]; omega
    go_enter Try.func11, Try.ntmps11
    go_wp2_with fail
    go_ret
    exact ⟨by rw [hno.out]; rfl, Dr.refl _⟩

/-- a slice that lay there before the marked one was made -/
theorem Ints.marked {w1 w2 w' : World} {a : Option Addr} {n : Nat} {xs : List Int} {row : Option Nat} (h1 : Ints w1 a n xs) (h2 : Ints w2 a n xs) (hg : w2.grownBy w' row) (hr : ∀ g, row = some g → w1.heap.size ≤ g) : Ints w' a n xs := by
  refine ⟨h2.1, h2.2.1, fun k hk => ?_⟩
  obtain ⟨b, off, rfl, hc⟩ := At.cellSome h2 hk
  obtain ⟨b', off', ha, hc'⟩ := At.cellSome h1 hk
  simp only [Option.some.injEq, Addr.mk.injEq, and_true] at ha
  obtain ⟨rfl, rfl⟩ := ha
  obtain ⟨u, hu, hcu⟩ := hc
  obtain ⟨u', hu', hcu'⟩ := hc'
  have hlt := World.block_lt_of_cell? w1 _ hcu'
  refine ⟨b, off, rfl, ?_⟩
  rw [hu]
  exact hg.cell hcu (fun e => by have := hr b e.symm; simp at hlt; omega)
/-- k, k+1, .. -/
def seqI (k : Int) (n : Nat) : List Int := (List.range n).map (fun i : Nat => k + (i : Int))
theorem seqI_succ (k : Int) (n : Nat) : seqI k (n + 1) = seqI k n ++ [k + (n : Int)] := by unfold seqI; rw [List.range_succ, List.map_append]; rfl
theorem seqI_len (k : Int) (n : Nat) : (seqI k n).length = n := by simp [seqI]
theorem seqI_get (k : Int) (n i : Nat) (h : i < n) : (seqI k n).getD i 0 = k + (i : Int) := by simp [seqI, List.getD, h]
theorem drop_set0 (xs : List Int) (i : Nat) (u : Int) (h : i < xs.length) : (xs.drop i).set 0 u = u :: xs.drop (i + 1) := by
  rw [List.drop_eq_getElem_cons h]; rfl
theorem mark_step (k : Int) (xs : List Int) (i : Nat) (h : i < xs.length) : (seqI k i ++ xs.drop i).set i (k + (i : Int)) = seqI k (i + 1) ++ xs.drop (i + 1) := by
  rw [seqI_succ, List.set_append_right _ _ (by rw [seqI_len]; exact Nat.le_refl _), seqI_len, Nat.sub_self, drop_set0 xs i _ h, List.append_assoc]; rfl

theorem OwnI.form {w : World} {B : Nat} {a : Option Addr} {n c : Nat} {xs : List Int} (h : OwnI w B a n c xs) (hn : 0 < n) : ∃ g, a = some ⟨g, 0, none⟩ ∧ B ≤ g := by
  rcases h.2 with ⟨hv, h0⟩ | ⟨g, cap, cur, hv, hB, _⟩
  · omega
  · injection hv with ha; exact ⟨g, ha, hB⟩
theorem OwnI.set {w : World} {B g n c : Nat} {xs : List Int} (h : OwnI w B (some ⟨g, 0, none⟩) n c xs) (j : Nat) (u : Int) :
    OwnI (w.setCell ⟨g, j, none⟩ (.int .i64 u)) B (some ⟨g, 0, none⟩) n c (xs.set j u) ∧ w.grownBy (w.setCell ⟨g, j, none⟩ (.int .i64 u)) (some g) := by
  have := World.ownsRow.stored (h : w.ownsRow B 3 1 (.slice (some ⟨g, 0, none⟩) n c) n (xs.map (Value.int .i64))) j (.int .i64 u)
  exact ⟨by unfold OwnI Own; rw [List.map_set]; exact this.1, this.2⟩
theorem OwnI.cellAt {w : World} {B g n c : Nat} {xs : List Int} (h : OwnI w B (some ⟨g, 0, none⟩) n c xs) (j : Nat) (hj : j < n) : w.cell? ⟨g, j, none⟩ = some (.int .i64 (xs.getD j 0)) := by
  have hl : j < xs.length := by rw [h.len]; exact hj
  have := World.ownsRow.cellAt (h : w.ownsRow B 3 1 (.slice (some ⟨g, 0, none⟩) n c) n (xs.map (Value.int .i64))) j (by omega)
  rw [this]; simp [List.getD, hl]
theorem OwnI.frozenAt {w : World} {B g n c : Nat} {xs : List Int} (h : OwnI w B (some ⟨g, 0, none⟩) n c xs) (j : Nat) : w.frozen? ⟨g, j, none⟩ = false :=
  World.ownsRow.frozenAt (h : w.ownsRow B 3 1 (.slice (some ⟨g, 0, none⟩) n c) n (xs.map (Value.int .i64))) j

set_option maxHeartbeats 1000000 in
theorem markIntS_any {B : Nat} {a : Option Addr} {n c : Nat} {xs : List Int} {k : Int} {w : World} (h : OwnI w B a n c xs) (hk0 : 0 ≤ k) (hk : k ≤ 1000000000) (hn : n ≤ 1000000000) :
    Calls Try.prog 24 #[.slice a n c, .int .i64 k] w fun e w' => e = .returned (.int .i64 (k + n)) ∧ OwnI w' B a n c (seqI k n) ∧ w.grownBy w' (Value.slice a n c).ownBlock := by
  go_enter Try.func24, Try.ntmps24
  go_wp2_with fail
  go_loopw [1, 5] (fun q i wr => ∃ j : Nat, j ≤ n ∧ i = .int .i64 j ∧ q = .int .i64 (k + (j : Int)) ∧ OwnI wr B a n c (seqI k j ++ xs.drop j) ∧ w.grownBy wr (Value.slice a n c).ownBlock)
    (fun _ i _ => n - (intOf i).toNat)
  case atStart => exact ⟨0, by omega, rfl, by simp, h, World.grownBy.refl _ _⟩
  case round =>
    obtain ⟨j, hj, rfl, rfl, ho, hg⟩ := hrel
    by_cases hlt : j < n
    · have hl : j < xs.length := by rw [h.len]; exact hlt
      obtain ⟨g, rfl, hB⟩ := ho.form (by omega)
      have hc := ho.cellAt j hlt
      have hf := ho.frozenAt j
      have hset := Lib.hid (ho.set j (k + (j : Int)))
      have hst := Lib.hid (mark_step k xs j hl)
      obtain ⟨u, hu⟩ : ∃ u, u = (seqI k j ++ xs.drop j).getD j 0 := ⟨_, rfl⟩
      rw [← hu] at hc
      clear hu
      go_wp2_with fail
      go_roundw
      case rel => exact ⟨j + 1, by omega, by go_num, by go_num, by rw [← hst.out]; exact hset.out.1, World.grownBy.trans hg hset.out.2⟩
      case measure => simp [intOf]; omega
    · obtain rfl : j = n := by omega
      have hd := Lib.hid (show seqI k j ++ xs.drop j = seqI k j from by rw [List.drop_of_length_le (by rw [h.len]; exact Nat.le_refl _), List.append_nil])
      go_wp2_with fail
      go_ret
      exact ⟨rfl, by rw [← hd.out]; exact ho, hg⟩

set_option maxHeartbeats 1000000 in
theorem heldIntS_any {a : Option Addr} {n c : Nat} {k : Int} {w : World} (h : Ints w a n (seqI k n)) (hk0 : 0 ≤ k) (hk : k ≤ 1000000000) (hn : n ≤ 1000000000) :
    Calls Try.prog 25 #[.slice a n c, .int .i64 k] w fun e w' => e = .returned (.int .i64 (k + n)) ∧ w = w' := by
  go_enter Try.func25, Try.ntmps25
  go_wp2_with fail
  go_loop [1, 5] (fun q i => ∃ j : Nat, j ≤ n ∧ i = .int .i64 j ∧ q = .int .i64 (k + (j : Int))) (fun _ i => n - (intOf i).toNat)
  case atStart => exact ⟨0, by omega, rfl, by simp⟩
  case round =>
    obtain ⟨j, hj, rfl, rfl⟩ := hrel
    by_cases hlt : j < n
    · obtain ⟨b, off, rfl, hc⟩ := h.cell hlt
      rw [seqI_get k n j hlt] at hc
      go_wp2_with fail
      go_round
      case rel => exact ⟨j + 1, by omega, by go_num, by go_num⟩
      case measure => simp [intOf]; omega
    · obtain rfl : j = n := by omega
      go_wp2_with fail
      go_ret
      exact ⟨rfl, rfl⟩

theorem wpl_make_int (w : World) {ops : Array Oper} {rest : List Oper} {o : Oper} {a : Act} {Q : Exit → Act → World → Prop}
    (hg : o.guard = none) (l c : Operand) (hop : o.op = Op.makeSlice 26 l c) (n : Nat) (hl : a.eval l = .int .i64 (n : Int)) (hc : a.eval c = .int .i64 (n : Int)) (hn : n ≤ 10000000)
    (hK : ∀ w' xs, OwnI w' w.heap.size (some ⟨w.heap.size, 0, none⟩) n n xs → Ext none w w' → wpList Try.prog ops Q rest (a.put o.dst (.slice (some ⟨w.heap.size, 0, none⟩) n n)) w') :
    wpList Try.prog ops Q (o :: rest) a w := by
  obtain ⟨i0, hi, hz0, hz1, hz2⟩ := info_parts intInfo
  refine wpList_make_full w hg l c 26 hop w.heap.size 3 i0 (.int .i64 0) 1 Try.underlying26 hi hz0 hz1 .i64 .i64 _ _ n hl hc rfl rfl (by rw [hz2]; omega) (by simp only [maxLen]; omega) (Nat.le_refl _) ?_
  intro w' h1 h2
  refine hK w' (List.replicate n 0) ?_ h2
  have e : (madeCells (Value.int .i64 0).cells (n * 1)).toList = (List.replicate n (0 : Int)).map (Value.int .i64) := by
    rw [Nat.mul_one, List.map_replicate]; exact toList_madeCells_one _ _
  rw [e] at h1
  exact h1

set_option maxHeartbeats 1000000 in
theorem toIntS_any {a : Option Addr} {n c : Nat} {xs : List Int} {w : World} (h : Ints w a n xs) (hn : n ≤ 1048576) :
    Calls Try.prog 20 #[.slice a n c] w (RI w none xs) := by
  go_enter Try.func20, Try.ntmps20
  go_wp2_with (at_make; refine wpl_make_int _ rfl _ _ rfl n rfl rfl (by omega) ?_; intro w1 zs hz hx1)
  go_loopw [4] (fun i wr => ∃ j : Nat, j ≤ n ∧ i = .int .i64 j ∧ Ints wr a n xs ∧ OwnI wr w.heap.size (some ⟨w.heap.size, 0, none⟩) n n (xs.take j ++ zs.drop j) ∧ Ext none w wr)
    (fun i _ => n - (intOf i).toNat)
  case atStart => exact ⟨0, by omega, rfl, h.ext hx1, hz, hx1⟩
  case round =>
    obtain ⟨j, hj, rfl, hi, ho, he⟩ := hrel
    by_cases hlt : j < n
    · have hl : j < xs.length := by rw [h.len]; exact hlt
      have hlz : j < zs.length := by rw [hz.len]; exact hlt
      obtain ⟨b, off, rfl, hc⟩ := hi.cell hlt
      have hltb := World.block_lt_of_cell? w _ (h.cellAt hlt)
      obtain ⟨x, hxx⟩ : ∃ x, x = xs.getD j 0 := ⟨_, rfl⟩
      rw [← hxx] at hc
      have hc2 := ho.cellAt j hlt
      have hf := ho.frozenAt j
      have hset := Lib.hid (ho.set j x)
      have hst := Lib.hid (show (xs.take j ++ zs.drop j).set j x = xs.take (j + 1) ++ zs.drop (j + 1) from by
        rw [take_snoc xs j hl, List.set_append_right _ _ (by rw [List.length_take]; omega), List.length_take, Nat.min_eq_left (by omega), Nat.sub_self, drop_set0 zs j _ hlz, ← hxx, List.append_assoc]; rfl)
      obtain ⟨u, hu⟩ : ∃ u, u = (xs.take j ++ zs.drop j).getD j 0 := ⟨_, rfl⟩
      rw [← hu] at hc2
      clear hu hxx
      have hExt := Lib.hid ((Ext.refl none w).grown (World.grownBy.trans (show w.grownBy wr (some w.heap.size) from (Ext.weak he)) hset.out.2) (fun q hq => .inl (by cases hq; exact Nat.le_refl _)))
      go_wp2_with fail
      go_roundw
      case rel => exact ⟨j + 1, by omega, by go_num, h.ext hExt.out, by rw [← hst.out]; exact hset.out.1, hExt.out⟩
      case measure => simp [intOf]; omega
    · obtain rfl : j = n := by omega
      have hd := Lib.hid (show xs.take j ++ zs.drop j = xs from by
        rw [List.take_of_length_le (by rw [h.len]; exact Nat.le_refl _), List.drop_of_length_le (by rw [hz.len]; exact Nat.le_refl _), List.append_nil])
      go_wp2_with fail
      go_ret
      exact ⟨_, _, _, rfl, by rw [← hd.out]; exact ho, he⟩

theorem ints_of {w : World} {a : Option Addr} {n c : Nat} {zs : List Int}
    (h : (a = none ∧ n = 0 ∧ c = 0 ∧ zs = []) ∨ ∃ x : Addr, a = some x ∧ n ≤ c ∧ c ≤ maxLen ∧ zs.length = c ∧ (∀ i, i < zs.length → w.cell? (x.add i) = some (.int .i64 (zs.getD i 0))) ∧ ∀ n ∈ zs, (Lit.int .i64 n).wf = true) :
    Ints w a n (zs.take n) := by
  rcases h with ⟨_, rfl, rfl, rfl⟩ | ⟨x, rfl, hnc, hm, hl, hc, hw⟩
  · exact Ints.nil _ _
  · refine ⟨by rw [List.length_map, List.length_take]; omega, by omega, fun i hi => ?_⟩
    obtain ⟨b, off, sp⟩ := x
    have h0 := hc 0 (by omega)
    have hsp : sp = none := by
      cases sp with
      | none => rfl
      | some s =>
        simp only [Addr.add, if_true, World.cell?] at h0
        split at h0 <;> simp at h0
    subst hsp
    have hi' := hc i (by omega)
    have ha : (⟨b, off, none⟩ : Addr).add i = ⟨b, off + i, none⟩ := by
      unfold Addr.add; split <;> simp_all
    rw [ha] at hi'
    refine ⟨b, off, rfl, ?_⟩
    rw [hi', List.getElem?_map, List.getElem?_take, if_pos hi, List.getD_eq_getElem?_getD, List.getElem?_eq_getElem (by omega)]
    rfl
end Go.Proofs.Ytnifgfnhcjhodaa
