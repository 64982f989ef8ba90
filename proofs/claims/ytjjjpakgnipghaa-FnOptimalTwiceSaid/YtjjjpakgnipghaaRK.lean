/- Configurations: ConfigOptimal of both packages, and the laws' helpers for configurations. Conditions: each lemma's own. -/
import Derived.Test.YtjjjpakgnipghaaRD
import Derived.Test.YtjjjpakgnipghaaA1
namespace Go.Proofs.Ytjjjpakgnipghaa
open Go.RowKit
set_option linter.unusedVariables false

/-- the copy that ConfigOptimal keeps of its argument -/
def optL (f : List (List Int)) : List (List Int) := if okT f then f else []
theorem optL_yes {f : List (List Int)} (h : okT f = true) : optL f = f := by unfold optL; rw [h]; rfl
theorem optL_no {f : List (List Int)} (h : okT f = false) : optL f = [] := by unfold optL; rw [h]; rfl
/-- what ConfigOptimal leaves: two families of its own, the second behind the first -/
def RC (w : World) (f : List (List Int)) (q : Bool) (e : Ending) (w' : World) : Prop :=
  ∃ a n c b m d mid hi, e = .returned (.tuple #[.agg #[.slice a n c, .slice b m d], .bool q]) ∧ OwnG w' w.heap.size mid a n c (transL f) ∧ OwnG w' mid hi b m d (optL f) ∧ w.heap.size ≤ mid ∧ mid ≤ hi ∧ hi ≤ w'.heap.size ∧ Ext none w w'
/-- .. of package spec -/
def RCS (w : World) (f : List (List Int)) (q : Bool) (e : Ending) (w' : World) : Prop :=
  ∃ a n c b m d, e = .returned (.tuple #[.agg #[.slice a n c, .slice b m d], .bool q]) ∧ Fam w' a n (transL f) ∧ Fam w' b m (optL f) ∧ Ext none w w'

theorem alloc_blk (w : World) (vs : Array Value) (ty : TypeId) : (w.alloc (.cells vs ty)).heap[w.heap.size]? = some (.cells vs ty (0, 0)) := by
  unfold World.alloc; simp
/-- two cells are written -/
theorem two_put {w : World} {g : Nat} {x y : Value} {ty : TypeId} (u v : Value) (hb : w.heap[g]? = some (.cells #[x, y] ty (0, 0))) :
    ((w.setCell ⟨g, 0, none⟩ u).setCell ⟨g, 1, none⟩ v).heap[g]? = some (.cells #[u, v] ty (0, 0)) ∧ Chg g (g + 1) w ((w.setCell ⟨g, 0, none⟩ u).setCell ⟨g, 1, none⟩ v) := by
  refine ⟨by simp [World.setCell, Array.getElem?_modify, hb], ?_⟩
  exact Chg.of_grown (r := some g) (((Ext.refl (some g) w).set (.inr rfl) _).set (.inr rfl) _) (fun k hk => by cases hk; omega)
theorem OwnG.chgUp {w w' : World} {lo hi lo' hi' : Nat} {a : Option Addr} {n c : Nat} {f : List (List Int)} (h : OwnG w lo hi a n c f) (hc : Chg lo' hi' w w') (hB : hi ≤ lo') : OwnG w' lo hi a n c f := by
  obtain ⟨vs, h1, h2, h3, h4, h5⟩ := h
  refine ⟨vs, Own.same h1 (fun g hg => ?_), h2, fun k v xs hv hx => (h3 k v xs hv hx).same (fun g hg => ?_), h4, h5⟩
  · exact hc.2.2.2.2 g (World.ownsRow.lt h1 g hg).2 (.inl (Nat.lt_of_lt_of_le (h5 g hg) hB))
  · have hr := h3 k v xs hv hx
    have hlt := (hr.lt g hg).2
    obtain ⟨_, _, _, rfl, _, r⟩ := hr
    exact hc.2.2.2.2 g hlt (.inl (Nat.lt_of_lt_of_le (r g hg).1 hB))
/-- a configuration lies in a block of its own -/
def Two (w : World) (g : Nat) (u v : Value) : Prop := w.heap[g]? = some (.cells #[u, v] 45 (0, 0))
theorem Two.new (w : World) (u v : Value) : Two (w.alloc (.cells #[u, v] 45)) w.heap.size u v := alloc_blk w _ _
theorem Two.ext {w w' : World} {g : Nat} {u v : Value} (h : Two w g u v) (hx : Ext none w w') : Two w' g u v := hx.blk h (by simp)
theorem Two.lt {w : World} {g : Nat} {u v : Value} (h : Two w g u v) : g < w.heap.size := (Array.getElem?_eq_some_iff.1 h).1
theorem Two.chg {w w' : World} {g lo hi : Nat} {u v : Value} (h : Two w g u v) (hc : Chg lo hi w w') (hr : g < lo ∨ hi ≤ g) : Two w' g u v := (hc.2.2.2.2 g h.lt hr).trans h
theorem Two.put {w : World} {g : Nat} {x y : Value} (h : Two w g x y) (u v : Value) :
    Two ((w.setCell ⟨g, 0, none⟩ u).setCell ⟨g, 1, none⟩ v) g u v ∧ Chg g (g + 1) w ((w.setCell ⟨g, 0, none⟩ u).setCell ⟨g, 1, none⟩ v) := two_put u v h
theorem Two.made (w : World) (x y u v : Value) :
    Two (((w.alloc (.cells #[x, y] 45)).setCell ⟨w.heap.size, 0, none⟩ u).setCell ⟨w.heap.size, 1, none⟩ v) w.heap.size u v ∧ Ext none w (((w.alloc (.cells #[x, y] 45)).setCell ⟨w.heap.size, 0, none⟩ u).setCell ⟨w.heap.size, 1, none⟩ v) := by
  have h := (Two.new w x y).put u v
  exact ⟨h.1, h.2.ext ((Ext.refl _ _).alloc _) (Nat.le_refl _)⟩
theorem two_cell {w : World} {g : Nat} {x y : Value} {ty : TypeId} (hb : w.heap[g]? = some (.cells #[x, y] ty (0, 0))) :
    w.cell? ⟨g, 0, none⟩ = some x ∧ w.cell? ⟨g, 1, none⟩ = some y ∧ w.frozen? ⟨g, 0, none⟩ = false ∧ w.frozen? ⟨g, 1, none⟩ = false := by
  refine ⟨?_, ?_, ?_, ?_⟩ <;> simp [World.cell?, World.frozen?, hb]

set_option maxHeartbeats 1000000 in
theorem ConfigOptimal_any {a : Option Addr} {n cp : Nat} {f : List (List Int)} {w : World} {q : Bool} (h : FamV w a n cp f) (hq : okT f = q) :
    Calls Try.prog 33 #[.slice a n cp] w (RC w f q) := by
  have HF := Lib.hid h
  have HQ := Lib.hid hq
  clear h hq
  have hb0 := alloc_blk w #[.slice none 0 0, .slice none 0 0] 45
  have e0 : Ext none w (w.alloc (.cells #[.slice none 0 0, .slice none 0 0] 45)) := (Ext.refl _ _).alloc _
  have hF0 := Lib.hid (HF.out.ext e0)
  obtain ⟨wz, hwz⟩ : ∃ x, x = w.alloc (.cells #[.slice none 0 0, .slice none 0 0] 45) := ⟨_, rfl⟩
  cases q
  · go_enter Try.func33, Try.ntmps33
    go_wp2_with fail
    rw [← hwz] at hb0 e0 hF0 ⊢
    refine (FamilyTransversals_r hF0.out HQ.out).mono ?_; rintro e w1 ⟨a1, n1, c1, rfl, o1, e1⟩
    have hb1 := e1.blk hb0 (by simp)
    obtain ⟨hc0, hc1, hz0, hz1⟩ := two_cell hb1
    have hP := Lib.hid (two_put (.slice none 0 0) (.slice none 0 0) hb1)
    have hno := Lib.hid (transL_no HQ.out)
    have hno2 := Lib.hid (optL_no HQ.out)
    have hsz := Lib.hid (e0.trans e1).size
    go_wp2_with fail
    obtain ⟨W, hW⟩ : ∃ W, W = (w1.setCell ⟨w.heap.size, 0, none⟩ (.slice none 0 0)).setCell ⟨w.heap.size, 1, none⟩ (.slice none 0 0) := ⟨_, rfl⟩
    rw [← hW] at hP ⊢
    obtain ⟨k0, k1, z0, z1⟩ := two_cell hP.out.1
    refine bodyPost_ret (v := .tuple #[.agg #[.slice none 0 0, .slice none 0 0], .bool false]) (by simp [results, Try.results33, go_sem, k0, k1]) rfl ?_
    exact ⟨_, _, _, _, _, _, w.heap.size, w.heap.size, rfl, by rw [hno.out]; exact OwnG.nil _ _ _, by rw [hno2.out]; exact OwnG.nil _ _ _, Nat.le_refl _, Nat.le_refl _, Nat.le_trans hsz.out hP.out.2.2.2.2.1, hP.out.2.ext (e0.trans e1) (Nat.le_refl _)⟩
  · have hv : famB f = true := okT_fam HQ.out
    have hlt64 := Lib.hid (masks_lt hv)
    have hfam := Lib.hid (fam_of hv)
    have hyes := Lib.hid (optL_yes HQ.out)
    have hrd := Lib.hid (show rdF f = masks f by unfold rdF; rw [hv]; rfl)
    have hV := Lib.hid hv
    clear hv
    go_enter Try.func33, Try.ntmps33
    go_wp2_with fail
    rw [← hwz] at hb0 e0 hF0 ⊢
    refine (FamilyTransversals_r hF0.out HQ.out).mono ?_; rintro e w1 ⟨a1, n1, c1, rfl, o1, e1⟩
    have hb1 := e1.blk hb0 (by simp)
    have hF1 := Lib.hid (hF0.out.ext e1)
    go_wp2_with fail
    refine (readFamily_is hF1.out.1 hV.out).mono ?_; rintro e w2 ⟨a2, n2, c2, rfl, o2, e2⟩
    rw [hrd.out] at o2
    have hn2 := Lib.hid (show n2 ≤ 900000 from by rw [← o2.len, masks_len]; have := famB_len hV.out; omega)
    have hb2 := e2.blk hb1 (by simp)
    go_wp2_with fail
    refine (lists_any o2.crs hlt64.out hn2.out).mono ?_; rintro e w3 ⟨a3, n3, c3, rfl, o3, e3⟩
    rw [hfam.out] at o3
    have hb3 := e3.blk hb2 (by simp)
    obtain ⟨hc0, hc1, hz0, hz1⟩ := two_cell hb3
    have hP := Lib.hid (two_put (.slice a1 n1 c1) (.slice a3 n3 c3) hb3)
    have hsz := Lib.hid (show w.heap.size + 1 ≤ wz.heap.size from by rw [hwz, World.size_alloc]; exact Nat.le_refl _)
    have hE := Lib.hid (((e0.trans e1).trans e2).trans e3)
    have G1 := Lib.hid (((o1.ext0 e2).ext0 e3).chg hP.out.2 hsz.out)
    have G3 := Lib.hid (o3.chg hP.out.2 (by have := hsz.out; have := e1.size; have := e2.size; omega))
    have hs1 := Lib.hid e1.size
    have hs2 := Lib.hid e2.size
    have hs3 := Lib.hid e3.size
    clear o1 o2 o3
    go_wp2_with fail
    obtain ⟨W, hW⟩ : ∃ W, W = (w3.setCell ⟨w.heap.size, 0, none⟩ (.slice a1 n1 c1)).setCell ⟨w.heap.size, 1, none⟩ (.slice a3 n3 c3) := ⟨_, rfl⟩
    rw [← hW] at hP G1 G3 ⊢
    obtain ⟨k0, k1, z0, z1⟩ := two_cell hP.out.1
    refine bodyPost_ret (v := .tuple #[.agg #[.slice a1 n1 c1, .slice a3 n3 c3], .bool true]) (by simp [results, Try.results33, go_sem, k0, k1]) rfl ?_
    exact ⟨_, _, _, _, _, _, w2.heap.size, w3.heap.size, rfl, (G1.out.high hs2.out).low (by have := hsz.out; omega), by rw [hyes.out]; exact G3.out, by have := hsz.out; have := hs1.out; have := hs2.out; omega, hs3.out, hP.out.2.2.2.2.1, hP.out.2.ext hE.out (Nat.le_refl _)⟩

set_option maxHeartbeats 1000000 in
theorem l13Copy_any {a : Option Addr} {n cp : Nat} {f : List (List Int)} {w : World} (h : FamV w a n cp f) (hv : famB f = true) :
    Calls Try.prog 78 #[.slice a n cp] w (RF w f) := by
  have hm := h.max
  have hlen := Lib.hid h.len
  have hn64 : n ≤ 64 := by rw [← h.len]; have := famB_len hv; omega
  have H := Lib.hid h
  have hval := Lib.hid (fam_valid hv)
  have hmk := Lib.hid (fvp_all (famB_fvp hv))
  clear h hv
  go_enter Try.func78, Try.ntmps78
  go_wp2_with fail
  go_loopw [3, 4] (fun q i wr => ∃ (k : Nat) (a2 : Option Addr) (n2 c2 : Nat), k ≤ n ∧ i = .int .i64 k ∧ q = .slice a2 n2 c2 ∧ OwnF wr w.heap.size w.heap.size a2 n2 c2 (f.take k) ∧ Ext none w wr)
    (fun _ i _ => n - (intOf i).toNat)
  case atStart => exact ⟨0, _, _, _, by omega, rfl, rfl, OwnF.made w _, (Ext.refl _ _).alloc _⟩
  case round =>
    obtain ⟨k, a2, n2, c2, hk, rfl, rfl, ho, he⟩ := hrel
    by_cases hlt : k < n
    · have hltI : (k : Int) < (n : Int) := by omega
      have hkl : k < f.length := by rw [hlen.out]; exact hlt
      have hst := Lib.hid (snoc_take f [] k hkl)
      have hn2 : n2 ≤ 64 := by rw [← ho.len, List.length_take]; omega
      have hvk := hval.out _ (getD_mem hkl)
      obtain ⟨b0, off0, a0, n0, c0, rfl, hc0, hi0⟩ := (H.out.1.ext he).cell hlt
      have hm0 : 0 < n0 := by
        rcases Nat.eq_zero_or_pos n0 with e | e
        · exfalso
          exact (hmk.out _ (getD_mem (f := f) (k := k) hkl)).2 ((len_mask hi0.len hvk).2 e)
        · exact e
      obtain ⟨b9, off9, rfl, _⟩ := hi0.cell hm0
      have hn06 : n0 ≤ 6 := by rw [← hi0.len]; exact valid_len hvk
      replace hc0 := ((Ext.refl none wr).alloc (.cells #[] 3)).cell hc0
      have hsrc := Lib.hid (hi0.ext ((Ext.refl none wr).alloc (.cells #[] 3)))
      have HO := Lib.hid ho
      have HE := Lib.hid he
      clear hi0 hvk ho he
      go_wp2_with (first
        | (at_builtin; refine wpl_ints rfl _ _ rfl wr.heap.size _ 0 0 [] rfl (OwnI.made wr) _ n0 c0 _ rfl hsrc.out (by omega) (by simp) ?_; intro a5 c5 w5 ho5 hg5; have he5 := Lib.hid (((Ext.refl none wr).alloc (.cells #[] 3)).grown hg5 (fun j hj => .inl (by cases hj; exact Nat.le_refl _))); simp only [Nat.zero_add, List.nil_append] at ho5; have ho2 := HO.out.ext0 he5.out; have hr2 := ho5.row (r := (Value.slice a2 n2 c2).ownBlock) (R := w.heap.size) (fun j hj => HO.out.blockLt j hj) HE.out.size; have hsz2 := (HE.out.trans he5.out).size; clear hg5)
        | (at_builtin; refine app_row _ rfl _ _ rfl w.heap.size w.heap.size a2 n2 c2 _ ho2 a5 n0 c5 _ hr2 rfl rfl (by omega) hsz2 ?_; intro g c' w9 ho9 hg9))
      go_roundw
      case rel => exact ⟨k + 1, _, _, _, by omega, by go_num, rfl, by rw [hst.out]; exact ho9, (HE.out.trans he5.out).grown hg9 (fun q hq => .inl (ho2.block q hq))⟩
      case measure => simp [intOf]; omega
    · obtain rfl : k = n := by omega
      have hfin := Lib.hid (show f.take k = f from List.take_of_length_le (by rw [hlen.out]; exact Nat.le_refl _))
      go_wp2_with fail
      go_ret
      exact ⟨_, _, _, rfl, by rw [← hfin.out]; exact ho, he⟩

set_option maxHeartbeats 1000000 in
theorem sConfigOptimal_any {a : Option Addr} {n cp : Nat} {f : List (List Int)} {w : World} {q : Bool} (h : FamV w a n cp f) (hq : okT f = q) :
    Calls Try.prog 31 #[.slice a n cp] w (RCS w f q) := by
  have HF := Lib.hid h
  have HQ := Lib.hid hq
  clear h hq
  have hb0 := alloc_blk w #[.slice none 0 0, .slice none 0 0] 45
  have e0 : Ext none w (w.alloc (.cells #[.slice none 0 0, .slice none 0 0] 45)) := (Ext.refl _ _).alloc _
  have hF0 := Lib.hid (HF.out.ext e0)
  obtain ⟨wz, hwz⟩ : ∃ x, x = w.alloc (.cells #[.slice none 0 0, .slice none 0 0] 45) := ⟨_, rfl⟩
  cases q
  · go_enter Try.func31, Try.ntmps31
    go_wp2_with fail
    rw [← hwz] at hb0 e0 hF0 ⊢
    refine (sFamilyTransversals_r hF0.out HQ.out).mono ?_; rintro e w1 ⟨a1, n1, c1, rfl, o1, e1⟩
    have hb1 := e1.blk hb0 (by simp)
    obtain ⟨hc0, hc1, hz0, hz1⟩ := two_cell hb1
    have hP := Lib.hid (two_put (.slice none 0 0) (.slice none 0 0) hb1)
    have hno := Lib.hid (transL_no HQ.out)
    have hno2 := Lib.hid (optL_no HQ.out)
    have hsz := Lib.hid (e0.trans e1).size
    go_wp2_with fail
    obtain ⟨W, hW⟩ : ∃ W, W = (w1.setCell ⟨w.heap.size, 0, none⟩ (.slice none 0 0)).setCell ⟨w.heap.size, 1, none⟩ (.slice none 0 0) := ⟨_, rfl⟩
    rw [← hW] at hP ⊢
    obtain ⟨k0, k1, z0, z1⟩ := two_cell hP.out.1
    refine bodyPost_ret (v := .tuple #[.agg #[.slice none 0 0, .slice none 0 0], .bool false]) (by simp [results, Try.results31, go_sem, k0, k1]) rfl ?_
    exact ⟨_, _, _, _, _, _, rfl, by rw [hno.out]; exact (OwnG.nil _ 0 0).fam, by rw [hno2.out]; exact (OwnG.nil _ 0 0).fam, hP.out.2.ext (e0.trans e1) (Nat.le_refl _)⟩
  · have hyes := Lib.hid (optL_yes HQ.out)
    have hV := Lib.hid (okT_fam HQ.out)
    go_enter Try.func31, Try.ntmps31
    go_wp2_with fail
    rw [← hwz] at hb0 e0 hF0 ⊢
    refine (sFamilyTransversals_r hF0.out HQ.out).mono ?_; rintro e w1 ⟨a1, n1, c1, rfl, o1, e1⟩
    have hb1 := e1.blk hb0 (by simp)
    have hF1 := Lib.hid (hF0.out.ext e1)
    go_wp2_with fail
    refine (l13Copy_any hF1.out hV.out).mono ?_; rintro e w3 ⟨a3, n3, c3, rfl, o3, e3⟩
    have hb3 := e3.blk hb1 (by simp)
    obtain ⟨hc0, hc1, hz0, hz1⟩ := two_cell hb3
    have hP := Lib.hid (two_put (.slice a1 n1 c1) (.slice a3 n3 c3) hb3)
    have hsz := Lib.hid (show w.heap.size + 1 ≤ wz.heap.size from by rw [hwz, World.size_alloc]; exact Nat.le_refl _)
    have hsz1 := Lib.hid e1.size
    have hE := Lib.hid ((e0.trans e1).trans e3)
    have hXg := Lib.hid (((Ext.refl (some w.heap.size) w3).set (.inr rfl) (.slice a1 n1 c1) : Ext (some w.heap.size) w3 (w3.setCell ⟨w.heap.size, 0, none⟩ (.slice a1 n1 c1))).set (p := ⟨w.heap.size, 1, none⟩) (.inr rfl) (.slice a3 n3 c3))
    have G1 := Lib.hid (((o1.ext0 e3).ext hXg.out (fun k hk => by cases hk; have := hsz.out; omega)).fam)
    have G3 := Lib.hid ((o3.ext hXg.out (fun k hk => by cases hk; have := hsz.out; have := hsz1.out; omega)).fam)
    clear o1 o3
    go_wp2_with fail
    obtain ⟨W, hW⟩ : ∃ W, W = (w3.setCell ⟨w.heap.size, 0, none⟩ (.slice a1 n1 c1)).setCell ⟨w.heap.size, 1, none⟩ (.slice a3 n3 c3) := ⟨_, rfl⟩
    rw [← hW] at hP G1 G3 ⊢
    obtain ⟨k0, k1, z0, z1⟩ := two_cell hP.out.1
    refine bodyPost_ret (v := .tuple #[.agg #[.slice a1 n1 c1, .slice a3 n3 c3], .bool true]) (by simp [results, Try.results31, go_sem, k0, k1]) rfl ?_
    exact ⟨_, _, _, _, _, _, rfl, G1.out, by rw [hyes.out]; exact G3.out, hP.out.2.ext hE.out (Nat.le_refl _)⟩

/-! the laws' helpers -/
set_option maxHeartbeats 1000000 in
theorem eqConfig_is {a : Option Addr} {n c : Nat} {f : List (List Int)} {b : Option Addr} {m d : Nat} {g : List (List Int)} {a' : Option Addr} {n' c' : Nat} {b' : Option Addr} {m' d' : Nat} {w : World} (h1 : Fam w a n f) (h2 : Fam w b m g) (h1' : Fam w a' n' f) (h2' : Fam w b' m' g) :
    Calls Try.prog 34 #[.agg #[.slice a n c, .slice b m d], .agg #[.slice a' n' c', .slice b' m' d']] w fun e w' => e = .returned (.bool true) ∧ Ext none w w' := by
  have hE := Lib.hid (((Ext.refl none w).alloc (.cells #[.slice a n c, .slice b m d] 45)).alloc (.cells #[.slice a' n' c', .slice b' m' d'] 45))
  have hA := Lib.hid ((Two.new w (.slice a n c) (.slice b m d)).ext ((Ext.refl _ _).alloc (.cells #[.slice a' n' c', .slice b' m' d'] 45)))
  have hB := Lib.hid (Two.new (w.alloc (.cells #[.slice a n c, .slice b m d] 45)) (.slice a' n' c') (.slice b' m' d'))
  have hsf := Lib.hid (sameF_refl f)
  have hsg := Lib.hid (sameF_refl g)
  obtain ⟨wz, hwz⟩ : ∃ x, x = (w.alloc (.cells #[.slice a n c, .slice b m d] 45)).alloc (.cells #[.slice a' n' c', .slice b' m' d'] 45) := ⟨_, rfl⟩
  have F1 := Lib.hid h1
  have F2 := Lib.hid h2
  have F1' := Lib.hid h1'
  have F2' := Lib.hid h2'
  clear h1 h2 h1' h2'
  go_enter Try.func34, Try.ntmps34
  go_wp2_with fail
  rw [← hwz] at hA hB hE ⊢
  clear hwz
  refine (eqIntSS_is (F1.out.ext hE.out) (F1'.out.ext hE.out) hsf.out).mono ?_; rintro e w1 ⟨rfl, d1⟩
  have hE1 := Lib.hid (hE.out.trans (d1.ext (r := none)))
  obtain ⟨hc0, hc1, _, _⟩ := two_cell (hA.out.ext (d1.ext (r := none)))
  obtain ⟨hc2, hc3, _, _⟩ := two_cell (hB.out.ext (d1.ext (r := none)))
  rw [World.size_alloc] at hc2 hc3
  clear d1
  go_wp2_with fail
  refine (eqIntSS_is (F2.out.ext hE1.out) (F2'.out.ext hE1.out) hsg.out).mono ?_; rintro e w2 ⟨rfl, d2⟩
  go_wp2_with fail
  go_ret
  exact ⟨rfl, hE1.out.trans (d2.ext (r := none))⟩
set_option maxHeartbeats 1000000 in
theorem sameConfig_is {a : Option Addr} {n c : Nat} {f : List (List Int)} {b : Option Addr} {m d : Nat} {g : List (List Int)} {a' : Option Addr} {n' c' : Nat} {b' : Option Addr} {m' d' : Nat} {w : World} (h1 : Fam w a n f) (h2 : Fam w b m g) (h1' : Fam w a' n' f) (h2' : Fam w b' m' g) :
    Calls Try.prog 38 #[.agg #[.slice a n c, .slice b m d], .agg #[.slice a' n' c', .slice b' m' d']] w fun e w' => e = .returned (.bool true) ∧ Ext none w w' := by
  have hE := Lib.hid (((Ext.refl none w).alloc (.cells #[.slice a n c, .slice b m d] 45)).alloc (.cells #[.slice a' n' c', .slice b' m' d'] 45))
  have hA := Lib.hid ((Two.new w (.slice a n c) (.slice b m d)).ext ((Ext.refl _ _).alloc (.cells #[.slice a' n' c', .slice b' m' d'] 45)))
  have hB := Lib.hid (Two.new (w.alloc (.cells #[.slice a n c, .slice b m d] 45)) (.slice a' n' c') (.slice b' m' d'))
  have hsf := Lib.hid (sameF_refl f)
  have hsg := Lib.hid (sameF_refl g)
  obtain ⟨wz, hwz⟩ : ∃ x, x = (w.alloc (.cells #[.slice a n c, .slice b m d] 45)).alloc (.cells #[.slice a' n' c', .slice b' m' d'] 45) := ⟨_, rfl⟩
  have F1 := Lib.hid h1
  have F2 := Lib.hid h2
  have F1' := Lib.hid h1'
  have F2' := Lib.hid h2'
  clear h1 h2 h1' h2'
  go_enter Try.func38, Try.ntmps38
  go_wp2_with fail
  rw [← hwz] at hA hB hE ⊢
  clear hwz
  refine (sameSets_is (F1.out.ext hE.out) (F1'.out.ext hE.out) hsf.out).mono ?_; rintro e w1 ⟨rfl, d1⟩
  have hE1 := Lib.hid (hE.out.trans (d1.ext (r := none)))
  obtain ⟨hc0, hc1, _, _⟩ := two_cell (hA.out.ext (d1.ext (r := none)))
  obtain ⟨hc2, hc3, _, _⟩ := two_cell (hB.out.ext (d1.ext (r := none)))
  rw [World.size_alloc] at hc2 hc3
  clear d1
  go_wp2_with fail
  refine (sameSets_is (F2.out.ext hE1.out) (F2'.out.ext hE1.out) hsg.out).mono ?_; rintro e w2 ⟨rfl, d2⟩
  go_wp2_with fail
  go_ret
  exact ⟨rfl, hE1.out.trans (d2.ext (r := none))⟩
set_option maxHeartbeats 1000000 in
theorem markConfig_any {lo mid hi : Nat} {a : Option Addr} {n c : Nat} {f : List (List Int)} {b : Option Addr} {m d : Nat} {g : List (List Int)} {k : Int} {w : World} (h1 : OwnG w lo mid a n c f) (h2 : OwnG w mid hi b m d g) (hlm : lo ≤ mid) (hmh : mid ≤ hi) (hhw : hi ≤ w.heap.size) (hk0 : 0 ≤ k) (hk : k ≤ 1000) (hs1 : small f) (hs2 : small g) :
    Calls Try.prog 35 #[.agg #[.slice a n c, .slice b m d], .int .i64 k] w fun e w' => e = .returned (.int .i64 (k + (sumLen f : Int) + (sumLen g : Int))) ∧ Fam w' a n (markF k f) ∧ Fam w' b m (markF (k + (sumLen f : Int)) g) ∧ Chg lo hi w w' := by
  have hn1 : n ≤ 64 := by rw [← h1.len]; exact hs1.1
  have hm1 : m ≤ 64 := by rw [← h2.len]; exact hs2.1
  have e0 : Ext none w (w.alloc (.cells #[.slice a n c, .slice b m d] 45)) := (Ext.refl _ _).alloc _
  have G1 := Lib.hid (h1.ext0 e0)
  have G2 := Lib.hid (h2.ext0 e0)
  have hT := Lib.hid (Two.new w (.slice a n c) (.slice b m d))
  have hC0 := Lib.hid (Chg.of_grown (lo := lo) (hi := hi) e0 (fun _ h => by cases h))
  have hq1 := hs1.2
  have hq2 := hs2.2
  obtain ⟨s1, hS1⟩ : ∃ s1, s1 = sumLen f := ⟨_, rfl⟩
  obtain ⟨s2, hS2⟩ : ∃ s2, s2 = sumLen g := ⟨_, rfl⟩
  rw [← hS1] at hq1 ⊢
  rw [← hS2] at hq2 ⊢
  have HS1 := Lib.hid hS1
  have HS2 := Lib.hid hS2
  clear h1 h2 hS1 hS2
  obtain ⟨wz, hwz⟩ : ∃ x, x = w.alloc (.cells #[.slice a n c, .slice b m d] 45) := ⟨_, rfl⟩
  go_enter Try.func35, Try.ntmps35
  go_wp2_with fail
  rw [← hwz] at G1 G2 hT hC0 ⊢
  clear hwz
  refine (markIntSS_any G1.out hk0 (by omega) (by rw [← HS1.out]; omega) (by omega)).mono ?_; rintro e w1 ⟨rfl, om, gm⟩
  rw [← HS1.out]
  have G2 := Lib.hid (G2.out.chg gm (Nat.le_refl _))
  obtain ⟨hc0, hc1, _, _⟩ := two_cell (hT.out.chg gm (.inr (Nat.le_trans hmh hhw)))
  have hC1 := Lib.hid (hC0.out.trans (⟨gm.1, gm.2.1, gm.2.2.1, gm.2.2.2.1, fun i hi1 hi2 => gm.2.2.2.2 i hi1 (hi2.imp id (fun h => Nat.le_trans hmh h))⟩ : Chg lo hi _ _))
  have O1 := Lib.hid om
  clear om gm
  go_wp2_with fail
  refine (markIntSS_any G2.out (by omega) (by omega) (by rw [← HS2.out]; omega) (by omega)).mono ?_; rintro e w2 ⟨rfl, om2, gm2⟩
  rw [← HS2.out]
  have hC2 := Lib.hid (hC1.out.trans (⟨gm2.1, gm2.2.1, gm2.2.2.1, gm2.2.2.2.1, fun i hi1 hi2 => gm2.2.2.2.2 i hi1 (hi2.imp (fun h => Nat.lt_of_lt_of_le h hlm) id)⟩ : Chg lo hi _ _))
  have O2 := Lib.hid (O1.out.chgUp gm2 (Nat.le_refl _)).fam
  have O3 := Lib.hid om2.fam
  clear om2 gm2
  go_wp2_with fail
  go_ret
  exact ⟨rfl, O2.out, O3.out, hC2.out⟩
set_option maxHeartbeats 1000000 in
theorem heldConfig_any {a : Option Addr} {n c : Nat} {f : List (List Int)} {b : Option Addr} {m d : Nat} {g : List (List Int)} {k : Int} {w : World} (h1 : Fam w a n (markF k f)) (h2 : Fam w b m (markF (k + (sumLen f : Int)) g)) (hk0 : 0 ≤ k) (hk : k ≤ 1000) (hs1 : small f) (hs2 : small g) :
    Calls Try.prog 36 #[.agg #[.slice a n c, .slice b m d], .int .i64 k] w fun e w' => e = .returned (.int .i64 (k + (sumLen f : Int) + (sumLen g : Int))) ∧ Ext none w w' := by
  have hn1 : n ≤ 64 := by rw [← h1.len, markF_len]; exact hs1.1
  have hm1 : m ≤ 64 := by rw [← h2.len, markF_len]; exact hs2.1
  have e0 : Ext none w (w.alloc (.cells #[.slice a n c, .slice b m d] 45)) := (Ext.refl _ _).alloc _
  have G1 := Lib.hid (h1.ext e0)
  have G2 := Lib.hid (h2.ext e0)
  have E0 := Lib.hid e0
  have hT := Lib.hid (Two.new w (.slice a n c) (.slice b m d))
  have hq1 := hs1.2
  have hq2 := hs2.2
  obtain ⟨s1, hS1⟩ : ∃ s1, s1 = sumLen f := ⟨_, rfl⟩
  obtain ⟨s2, hS2⟩ : ∃ s2, s2 = sumLen g := ⟨_, rfl⟩
  rw [← hS1] at hq1 G2 ⊢
  rw [← hS2] at hq2 ⊢
  have HS1 := Lib.hid hS1
  have HS2 := Lib.hid hS2
  clear h1 h2 hS1 hS2 e0
  have hp1 : ¬ (k + (s1 : Int) < 0) := by omega
  have hp2 : ¬ (k + (s1 : Int) + (s2 : Int) < 0) := by omega
  obtain ⟨wz, hwz⟩ : ∃ x, x = w.alloc (.cells #[.slice a n c, .slice b m d] 45) := ⟨_, rfl⟩
  go_enter Try.func36, Try.ntmps36
  go_wp2_with fail
  rw [← hwz] at G1 G2 hT E0 ⊢
  clear hwz
  refine (heldIntSS_any G1.out hk0 (by omega) (by rw [← HS1.out]; omega) (by omega)).mono ?_; rintro e w1 ⟨rfl, rfl⟩
  rw [← HS1.out]
  obtain ⟨hc0, hc1, _, _⟩ := two_cell hT.out
  go_wp2_with fail
  refine (heldIntSS_any G2.out (by omega) (by omega) (by rw [← HS2.out]; omega) (by omega)).mono ?_; rintro e w2 ⟨rfl, rfl⟩
  rw [← HS2.out]
  go_wp2_with fail
  go_ret
  exact ⟨rfl, E0.out⟩
end Go.Proofs.Ytjjjpakgnipghaa
