/- The walk of laws.FnFamilyValid: it returns true. Condition: the arguments are slices of bytes. -/
import Derived.Test.YtfccceogmhjljaaD8
import Derived.Test.YtfccceogmhjljaaCC
import Derived.Test.YtfccceogmhjljaaPW
import Derived.Test.YtfccceogmhjljaaCG
import Derived.Deep.RegionHeld3
namespace Go.Proofs.Ytfccceogmhjljaa
open Go.RowKit
set_option linter.unusedVariables false

theorem rem_nat (a b : Nat) : Int.tmod (a : Int) (b : Int) = ((a % b : Nat) : Int) := by
  rfl
/-- the part of a family below k, and the part behind k, as slices of it -/
theorem Fam.split {w : World} {b off n : Nat} {f : List (List Int)} (h : Fam w (some ⟨b, off, none⟩) n f) (k : Nat) (hk : k < n) :
    (∃ us, At w (some ⟨b, off, none⟩) k us ∧ Rows w none 0 us (f.take k)) ∧
    (∀ A, (A = (⟨b, off + (k + 1), none⟩ : Addr) ∨ n - (k + 1) = 0) → ∃ us, At w (some A) (n - (k + 1)) us ∧ Rows w none 0 us (f.drop (k + 1))) := by
  have hl := h.len
  obtain ⟨us, h1, h2⟩ := h
  refine ⟨⟨us.take k, ?_, ?_⟩, fun A hA => ⟨us.drop (k + 1), ?_, ?_⟩⟩
  · have := h1.part (i := 0) (m := k) (a := some ⟨b, off, none⟩) (by omega) (.inl rfl)
    simpa using this
  · have := h2.cut 0 k
    simpa using this
  · have := h1.part (i := k + 1) (m := n - (k + 1)) (a := some A) (by omega) (by rcases hA with e | e; exact .inl (by rw [e]); exact .inr e)
    rwa [List.take_of_length_le (by rw [List.length_drop, h1.len]; exact Nat.le_refl _)] at this
  · have := h2.cut (k + 1) n
    rwa [List.take_of_length_le (by rw [h1.len]; exact Nat.le_refl _), List.take_of_length_le (by rw [hl]; exact Nat.le_refl _)] at this
/-- rows of an old world beside a block that came later -/
theorem rows_new {w W : World} {r : Option Nat} {us : List Value} {f : List (List Int)} (h : Rows w none 0 us f) (hr : ∀ g, r = some g → w.heap.size ≤ g) (hx : Ext none w W) : Rows W r 0 us f := rows_ext (rows_sep h hr) hx
theorem wanted_off (o : Oper) (ys : Nat → Option Bool) : Region.wanted { o with guard := none } ys = true := by simp [Region.wanted]
/-- the appends again, behind a guard that lets them run -/
theorem step_famG {ops : Array Oper} {o : Oper} {a : Act} {w : World} {K : Act → World → Prop} {Q : Exit → Act → World → Prop} {E : Prop}
    (hw : Region.wanted o (yielded ops a.tmps) = true) (s x : Operand) (ho : o.op = Op.call { callee := Callee.builtin Builtin.append, args := #[s, x], argTypes := #[23, 23] })
    (B R : Nat) (ad : Option Addr) (n c : Nat) (f : List (List Int)) (hs : a.eval s = .slice ad n c) (hown : OwnF w B R ad n c f)
    (sa : Addr) (m cs : Nat) (us : List Value) (g : List (List Int)) (hx : a.eval x = .slice (some sa) m cs) (hsrc : At w (some sa) m us) (hrow : Rows w (Value.slice ad n c).ownBlock R us g) (hlen : n + m ≤ 1000000) (hB : B ≤ w.heap.size)
    (hK : ∀ a' c' w', OwnF w' B R a' (n + m) c' (f ++ g) → w.grownBy w' (Value.slice ad n c).ownBlock → K (a.put o.dst (.slice a' (n + m) c')) w') :
    if Region.wanted o (yielded ops a.tmps) = true then Oper.wp Try.prog o a w K Q else E := by
  have h := step_fam (ops := ops) (o := { o with guard := none }) (a := a) (w := w) (K := K) (Q := Q) (E := E) rfl s x ho B R ad n c f hs hown sa m cs us g hx hsrc hrow hlen hB hK
  rw [if_pos (wanted_off o _)] at h
  rw [if_pos hw]; exact h
theorem row_new {w W : World} {r : Option Nat} {a : Option Addr} {n c : Nat} {xs : List Int} (h : Ints w a n xs) (hr : ∀ g, r = some g → w.heap.size ≤ g) (hx : Ext none w W) : Rows W r 0 [.slice a n c] [xs] :=
  ((Rows.nil _ _ _).snoc ((show RowI w r 0 (.slice a n c) xs from ⟨a, n, c, rfl, h, fun p hp hn => ⟨fun e => by have := h.block_lt hp hn; have := hr _ e; omega, Nat.zero_le _⟩⟩).ext hx) : Rows _ _ 0 ([] ++ [.slice a n c]) ([] ++ [xs]))
theorem At.keep {w w' : World} {b n : Nat} {vs : List Value} {r : Option Nat} (h : At w (some ⟨b, 0, none⟩) n vs) (hx : w.grownBy w' r) (hr : r ≠ some b) : At w' (some ⟨b, 0, none⟩) n vs := by
  refine ⟨h.1, h.2.1, fun k hk => ?_⟩
  obtain ⟨b2, off, e, hc⟩ := h.2.2 k hk
  simp only [Option.some.injEq, Addr.mk.injEq, and_true] at e
  obtain ⟨rfl, rfl⟩ := e
  obtain ⟨u, hu⟩ : ∃ u, vs[k]? = some u := ⟨_, List.getElem?_eq_getElem (by rw [h.1]; exact hk)⟩
  rw [hu] at hc ⊢
  exact ⟨b, 0, rfl, hx.cell hc (fun e => hr e.symm)⟩
theorem one_row {W0 W : World} {v : Value} {T : TypeId} (hx : Ext none (W0.alloc (.cells #[v] T)) W) : At W (some ⟨W0.heap.size, 0, none⟩) 1 [v] := by
  refine At.ext (w := W0.alloc (.cells #[v] T)) ⟨rfl, by simp [maxLen], fun k hk => ⟨_, _, rfl, ?_⟩⟩ hx
  obtain rfl : k = 0 := by omega
  exact cell_one_new W0 v _ 0 v rfl
set_option maxRecDepth 20000 in
set_option maxHeartbeats 8000000 in
theorem FnFamilyValid_walk {a : Option Addr} {n c : Nat} {a' : Option Addr} {n' c' : Nat} {w : World} (h : Bytes w a n c) (h' : Bytes w a' n' c') :
    Calls Try.prog 3 #[.slice a n c, .slice a' n' c'] w fun e w' => e = .returned (.bool true) ∧ Ext none w w' := by
  clear h'
  rcases Nat.lt_or_ge 1048576 n with hl | hl
  · have hlI : (1048576 : Int) < (n : Int) := by omega
    go_enter Try.func3, Try.ntmps3
    go_wp2_with fail
    go_ret
    exact ⟨rfl, Ext.refl _ _⟩
  have hlI : ¬ (1048576 : Int) < (n : Int) := by omega
  rcases Nat.lt_or_ge 1048576 n' with hl' | hl'
  · have hlI' : (1048576 : Int) < (n' : Int) := by omega
    go_enter Try.func3, Try.ntmps3
    go_wp2_with fail
    go_ret
    exact ⟨rfl, Ext.refl _ _⟩
  have hlI' : ¬ (1048576 : Int) < (n' : Int) := by omega
  go_enter Try.func3, Try.ntmps3
  go_wp2_with fail
  refine (DrawFamilyValid_any h).mono ?_; rintro e w_ ⟨a1, n1, c1, f, rfl, hf, hn, he⟩
  clear h
  cases hv : famB f
  · skip
    go_wp2_with fail
    refine (FamilyValid_is hf.1 hv).mono ?_; rintro e w_ ⟨rfl, e1⟩
    replace hf := hf.ext e1
    replace he := he.trans e1
    clear e1
    go_wp2_with fail
    refine (sFamilyValid_is hf.1 hv).mono ?_; rintro e w_ ⟨rfl, d_⟩
    replace hf := hf.ext d_.ext
    replace he := he.trans d_.ext
    clear d_
    go_wp2_with fail
    refine (sFamilyValid_is hf.1 hv).mono ?_; rintro e w_ ⟨rfl, d_⟩
    replace he := he.trans d_.ext
    clear d_
    go_wp2_with fail
    go_ret
    exact ⟨rfl, he⟩
  · by_cases h0 : n1 = 0
    · subst h0
      go_wp2_with fail
      refine (FamilyValid_is hf.1 hv).mono ?_; rintro e w_ ⟨rfl, e1⟩
      replace hf := hf.ext e1
      replace he := he.trans e1
      clear e1
      go_wp2_with fail
      refine (sFamilyValid_is hf.1 hv).mono ?_; rintro e w_ ⟨rfl, d_⟩
      replace hf := hf.ext d_.ext
      replace he := he.trans d_.ext
      clear d_
      go_wp2_with fail
      refine (sFamilyValid_is hf.1 hv).mono ?_; rintro e w_ ⟨rfl, d_⟩
      replace he := he.trans d_.ext
      clear d_
      go_wp2_with fail
      go_ret
      exact ⟨rfl, he⟩
    · have hne : ((n1 : Int) == 0) = false := by rw [beq_eq_false_iff_ne]; omega
      have hne2 : ¬ (n1 : Int) = 0 := by omega
      obtain ⟨k, hk⟩ : ∃ k, k = n' % n1 := ⟨_, rfl⟩
      have hkn : k < n1 := by rw [hk]; exact Nat.mod_lt _ (by omega)
      have hrem : Int.tmod (n' : Int) (n1 : Int) = (k : Int) := by rw [hk]; exact rem_nat n' n1
      clear hk h0
      go_wp2_with fail
      refine (FamilyValid_is hf.1 hv).mono ?_; rintro e w_ ⟨rfl, e1⟩
      replace hf := hf.ext e1
      replace he := he.trans e1
      clear e1
      go_wp2_with fail
      refine (sFamilyValid_is hf.1 hv).mono ?_; rintro e w_ ⟨rfl, d_⟩
      replace hf := hf.ext d_.ext
      replace he := he.trans d_.ext
      clear d_
      go_wp2_with fail
      obtain ⟨wr, hwr⟩ : ∃ x, x = w_ := ⟨_, rfl⟩
      rw [← hwr] at hf he ⊢
      clear hwr
      have hlen := Lib.hid hf.1.len
      have hnc := hf.2.2.1
      have hcm := hf.2.2.2
      have hcut := Lib.hid (show famB (f.take k ++ f.drop (k + 1)) = true from fam_less hv k)
      obtain ⟨b, off, a2, n2, c2, rfl, hcell, hrow⟩ := hf.1.cell hkn
      obtain ⟨⟨us1, at1, rw1⟩, hdrop⟩ := hf.1.split k hkn
      have hkc : k ≤ c1 := by omega
      have hk1 : k + 1 ≤ n1 := hkn
      have hk1I : (k : Int) + 1 ≤ (n1 : Int) := by omega
      have hk0I : (0 : Int) ≤ (k : Int) + 1 := by omega
      have hkT : ((k : Int) + 1).toNat = k + 1 := by omega
      have hw := show IntKind.i64.wrap ((k : Int) + 1) = ((k + 1 : Nat) : Int) from by rw [IntWalk.i64_in _ (by omega)]; omega
      obtain ⟨A, hA, hA2⟩ : ∃ A, (if c1 = k + 1 then some (⟨b, off, none⟩ : Addr) else some ⟨b, off + (k + 1), none⟩) = some A ∧ (A = (⟨b, off + (k + 1), none⟩ : Addr) ∨ n1 - (k + 1) = 0) := by
        by_cases e : c1 = k + 1
        · exact ⟨_, if_pos e, .inr (by omega)⟩
        · exact ⟨_, if_neg e, .inl rfl⟩
      obtain ⟨us2, at2, rw2⟩ := hdrop A hA2
      have AT1 := Lib.hid at1
      have RW1 := Lib.hid rw1
      have AT2 := Lib.hid at2
      have RW2 := Lib.hid rw2
      clear at1 rw1 at2 rw2 hA2 hdrop
      have x1 := Lib.hid (show Ext none wr (wr.alloc (.cells #[] 26)).drew from ((Ext.refl none wr).alloc _).drew)
      go_region_law (first
        | (refine step_fam rfl (.tmp 43) (.tmp 46) rfl wr.heap.size 0 (some ⟨wr.heap.size, 0, none⟩) 0 0 [] rfl ((OwnF.made wr 0).ext0 ((Ext.refl none _).drew)) ⟨b, off, none⟩ k c1 us1 (f.take k) rfl (At.ext AT1.out x1.out) (rows_new RW1.out (fun g hg => by cases hg; exact Nat.le_refl _) x1.out) (by omega) (by simp) ?_; intro a5 c5 w5 ho5 hg5; have he5 := x1.out.grown hg5 (fun j hj => .inl (by cases hj; exact Nat.le_refl _)); simp only [Nat.zero_add, List.nil_append] at ho5; have HE5 := Lib.hid he5; clear hg5 he5)
        | (refine step_fam rfl (.tmp 47) (.tmp 51) rfl wr.heap.size 0 a5 k c5 _ rfl ho5 A (n1 - (k + 1)) _ us2 (f.drop (k + 1)) rfl (At.ext AT2.out HE5.out) (rows_new RW2.out (fun g hg => ho5.block g hg) HE5.out) (by omega) HE5.out.size ?_; intro a6 c6 w6 ho6 hg6))
      have x6 := Lib.hid (HE5.out.grown hg6 (fun q hq => .inl (ho5.block q hq)))
      have L6 := Lib.hid ho6.fam
      have HF := Lib.hid (hf.ext x6.out)
      have hcell := x6.out.cell hcell
      have HROW := Lib.hid (hrow.ext x6.out)
      have htw := Lib.hid (show famB (f ++ [f.getD k []]) = false from fam_twice (by rw [hlen.out]; exact hkn))
      have hfu := Lib.hid (show famB (f ++ [mem 63]) = false from fam_full hv (by rw [hlen.out]; omega))
      have hle20 := famB_len hv
      rw [hlen.out] at hle20
      have hle20I : (n1 : Int) ≤ 20 := by omega
      clear ho5 ho6 hg6 hf hrow x1 AT1 AT2 RW1 RW2 HE5 hcut
      have hcut := Lib.hid (show famB (f.take k ++ f.drop (k + 1)) = true from fam_less hv k)
      obtain ⟨usF, atF, rwF⟩ := fam_some HF.out.1
      have ATF := Lib.hid atF
      have RWF := Lib.hid rwF
      clear atF rwF
      have hd6 := Lib.hid (show Ext none w6 w6.drew from (Ext.refl _ _).drew)
      have L7 := Lib.hid (L6.out.ext hd6.out)
      go_wp2_with fail
      go_region_held3 (fun w' => w'.cell? ⟨b, off + k, none⟩ = some (.slice a2 n2 c2))
        (first | assumption | exact E14.cell hcell | exact E13.cell hcell | exact (E12.alloc _).cell hcell | exact E12.cell hcell | exact E11.cell hcell | exact (E10.alloc _).cell hcell | exact E10.cell hcell | exact E9.cell hcell | exact (E8.alloc _).cell hcell | exact E8.cell hcell | exact ((E7.alloc _).alloc _).cell hcell | exact (E7.alloc _).cell hcell | exact E7.cell hcell | go_keep)
        ((first
        | (refine step_famG (by kernel_rfl) (.tmp 71) (.tmp 73) rfl w10.heap.size 0 a11 n1 c11 f rfl (ho12.ext0 ((Ext.refl none w12).alloc _)) ⟨w12.heap.size, 0, none⟩ 1 1 _ [mem 63] rfl (one_row (Ext.refl none _)) (((Rows.nil _ _ _).snoc (hr12.ext ((Ext.refl none w12).alloc _)) : Rows _ _ 0 ([] ++ [_]) ([] ++ [_]))) (by omega) (Nat.le_trans (x11.trans e12).size (by simp)) ?_; intro a13 c13 w13 ho13 hg13; have E13 := (E12.alloc (.cells #[.slice a12 n12 c12] 26)).grown hg13 (fun j hj => .inl (Nat.le_trans E10.size (ho12.block j hj))); clear hg13)
        | (refine step_famG (by kernel_rfl) (.tmp 69) (.tmp 70) rfl w10.heap.size 0 (some ⟨w10.heap.size, 0, none⟩) 0 0 [] rfl (OwnF.made w10 0) ⟨b, off, none⟩ n1 c1 usF f rfl (At.ext ATF.out (E10.alloc _)) (rows_new RWF.out (fun g hg => by cases hg; exact E10.size) (E10.alloc _)) (by omega) (by simp) ?_; intro a11 c11 w11 ho11 hg11; have x11 := ((Ext.refl none w10).alloc (.cells #[] 26)).grown hg11 (fun j hj => .inl (by cases hj; exact Nat.le_refl _)); simp only [Nat.zero_add, List.nil_append] at ho11; rw [Nat.zero_add]; have E11 := E10.trans x11; clear hg11)
        | (refine step_famG (by kernel_rfl) (.tmp 58) (.tmp 63) rfl w7.heap.size 0 a8 n1 c8 f rfl ho8 ⟨w7.heap.size, 0, none⟩ 1 1 _ _ rfl hat63b (row_new HROW.out (fun g hg => Nat.le_trans E7.size (ho8.block g hg)) E8) (by omega) x8.size ?_; intro a9 c9 w9 ho9 hg9; have E9 := E8.grown hg9 (fun j hj => .inl (Nat.le_trans E7.size (ho8.block j hj))); clear hg9)
        | (refine step_famG (by kernel_rfl) (.tmp 58) (.tmp 63) rfl w7.heap.size 0 a8 n1 c8 f rfl ho8 ⟨(w7.alloc (.cells #[] 26)).heap.size, 0, none⟩ 1 1 _ _ rfl hat63r (row_new HROW.out (fun g hg => Nat.le_trans E7.size (ho8.block g hg)) E8) (by omega) x8.size ?_; intro a9 c9 w9 ho9 hg9; have E9 := E8.grown hg9 (fun j hj => .inl (Nat.le_trans E7.size (ho8.block j hj))); clear hg9)
        | (refine step_famG (by kernel_rfl) (.tmp 58) (.tmp 63) rfl w7.heap.size 0 a8 n1 c8 f rfl ho8 ⟨w7.heap.size + 1, 0, none⟩ 1 1 _ _ rfl hat63 (row_new HROW.out (fun g hg => Nat.le_trans E7.size (ho8.block g hg)) E8) (by omega) x8.size ?_; intro a9 c9 w9 ho9 hg9; have E9 := E8.grown hg9 (fun j hj => .inl (Nat.le_trans E7.size (ho8.block j hj))); clear hg9)
        | (refine step_famG (by kernel_rfl) (.tmp 58) (.tmp 63) rfl w7.heap.size 0 a8 n1 c8 f rfl (ho8.ext0 ((Ext.refl none w8).alloc _)) ⟨w8.heap.size, 0, none⟩ 1 1 _ _ rfl (one_row (Ext.refl none _)) (row_new HROW.out (fun g hg => Nat.le_trans E7.size (ho8.block g hg)) (E8.alloc _)) (by omega) (Nat.le_trans x8.size (by simp)) ?_; intro a9 c9 w9 ho9 hg9; have E9 := (E8.alloc (.cells #[.slice a2 n2 c2] 26)).grown hg9 (fun j hj => .inl (Nat.le_trans E7.size (ho8.block j hj))); clear hg9)
        | (refine step_famG (by kernel_rfl) (.tmp 56) (.tmp 57) rfl w7.heap.size 0 (some ⟨(w7.alloc (.cells #[.slice a2 n2 c2] 26)).heap.size, 0, none⟩) 0 0 [] rfl (OwnF.mono (OwnF.made (w7.alloc (.cells #[.slice a2 n2 c2] 26)) 0) (by rw [World.size_alloc]; exact Nat.le_succ _) (Nat.le_refl _)) ⟨b, off, none⟩ n1 c1 usF f rfl (At.ext ATF.out ((E7.alloc _).alloc _)) (rows_new RWF.out (fun g hg => by cases hg; rw [World.size_alloc]; exact Nat.le_succ_of_le E7.size) ((E7.alloc _).alloc _)) (by omega) (((Ext.refl none w7).alloc _).alloc _).size ?_; intro a8 c8 w8 ho8 hg8; have x8 := (((Ext.refl none w7).alloc (.cells #[.slice a2 n2 c2] 26)).alloc (.cells #[] 26)).grown hg8 (fun j hj => .inl (by cases hj; rw [World.size_alloc]; exact Nat.le_succ _)); have hat63b : At w8 (some ⟨w7.heap.size, 0, none⟩) 1 [.slice a2 n2 c2] := one_row (W0 := w7) (v := .slice a2 n2 c2) (T := 26) (((Ext.refl none (w7.alloc (.cells #[.slice a2 n2 c2] 26))).alloc (.cells #[] 26)).grown hg8 (fun j hj => .inl (by cases hj; exact Nat.le_refl _))); simp only [Nat.zero_add, List.nil_append] at ho8; rw [Nat.zero_add]; have E8 := E7.trans x8; have hcell8 := E8.cell hcell; clear hg8)
        | (refine step_famG (by kernel_rfl) (.tmp 56) (.tmp 57) rfl w7.heap.size 0 (some ⟨w7.heap.size + 1, 0, none⟩) 0 0 [] rfl (OwnF.mono (by have h := OwnF.made (w7.alloc (.cells #[.slice a2 n2 c2] 26)) 0; rw [World.size_alloc] at h; exact h) (Nat.le_succ _) (Nat.le_refl _)) ⟨b, off, none⟩ n1 c1 usF f rfl (At.ext ATF.out ((E7.alloc _).alloc _)) (rows_new RWF.out (fun g hg => by cases hg; exact Nat.le_succ_of_le E7.size) ((E7.alloc _).alloc _)) (by omega) (((Ext.refl none w7).alloc _).alloc _).size ?_; intro a8 c8 w8 ho8 hg8; have x8 := (((Ext.refl none w7).alloc (.cells #[.slice a2 n2 c2] 26)).alloc (.cells #[] 26)).grown hg8 (fun j hj => .inl (by cases hj; exact Nat.le_succ _)); have hat63b : At w8 (some ⟨w7.heap.size, 0, none⟩) 1 [.slice a2 n2 c2] := one_row (W0 := w7) (v := .slice a2 n2 c2) (T := 26) (((Ext.refl none (w7.alloc (.cells #[.slice a2 n2 c2] 26))).alloc (.cells #[] 26)).grown hg8 (fun j hj => .inl (by cases hj; rw [World.size_alloc]; exact Nat.le_refl _))); simp only [Nat.zero_add, List.nil_append] at ho8; rw [Nat.zero_add]; have E8 := E7.trans x8; have hcell8 := E8.cell hcell; clear hg8)
        | (refine step_famG (by kernel_rfl) (.tmp 56) (.tmp 57) rfl w7.heap.size 0 (some ⟨w7.heap.size, 0, none⟩) 0 0 [] rfl ((OwnF.made w7 0).ext0 ((Ext.refl none _).alloc (.cells #[.slice a2 n2 c2] 26))) ⟨b, off, none⟩ n1 c1 usF f rfl (At.ext ATF.out ((E7.alloc _).alloc _)) (rows_new RWF.out (fun g hg => by cases hg; exact E7.size) ((E7.alloc _).alloc _)) (by omega) (((Ext.refl none w7).alloc _).alloc _).size ?_; intro a8 c8 w8 ho8 hg8; have x8 := (((Ext.refl none w7).alloc (.cells #[] 26)).alloc (.cells #[.slice a2 n2 c2] 26)).grown hg8 (fun j hj => .inl (by cases hj; exact Nat.le_refl _)); have hat63 : At w8 (some ⟨w7.heap.size + 1, 0, none⟩) 1 [.slice a2 n2 c2] := (by have h63 := one_row (W0 := w7.alloc (.cells #[] 26)) (v := .slice a2 n2 c2) (T := 26) (Ext.refl none _); rw [World.size_alloc] at h63; exact h63.keep hg8 (fun e => by simp [Value.ownBlock] at e)); have hat63r : At w8 (some ⟨(w7.alloc (.cells #[] 26)).heap.size, 0, none⟩) 1 [.slice a2 n2 c2] := (by rw [World.size_alloc]; exact hat63); simp only [Nat.zero_add, List.nil_append] at ho8; rw [Nat.zero_add]; have E8 := E7.trans x8; have hcell8 := E8.cell hcell; clear hg8)
        | (refine step_famG (by kernel_rfl) (.tmp 56) (.tmp 57) rfl w7.heap.size 0 (some ⟨w7.heap.size, 0, none⟩) 0 0 [] rfl (OwnF.made w7 0) ⟨b, off, none⟩ n1 c1 usF f rfl (At.ext ATF.out (E7.alloc _)) (rows_new RWF.out (fun g hg => by cases hg; exact E7.size) (E7.alloc _)) (by omega) (by simp) ?_; intro a8 c8 w8 ho8 hg8; have x8 := ((Ext.refl none w7).alloc (.cells #[] 26)).grown hg8 (fun j hj => .inl (by cases hj; exact Nat.le_refl _)); simp only [Nat.zero_add, List.nil_append] at ho8; rw [Nat.zero_add]; have E8 := E7.trans x8; have hcell8 := E8.cell hcell; clear hg8)
        | (go_simp; go_at_call 16; refine (FamilyValid_is ho13.fam hfu.out).mono ?_; rintro e w14 ⟨rfl, e14⟩; have E14 := E13.trans e14; clear e14)
        | (go_simp; go_at_call 18; refine allMembers_any.mono ?_; rintro e w12 ⟨a12, n12, c12, rfl, o12, e12⟩; have E12 := E11.trans e12; have ho12 := ho11.ext0 e12; have hr12 := o12.row (r := (Value.slice a11 n1 c11).ownBlock) (R := 0) (fun j hj => ho11.blockLt j hj) (Nat.zero_le _))
        | (go_simp; go_at_call 16; refine (FamilyValid_is ho9.fam htw.out).mono ?_; rintro e w10 ⟨rfl, e10⟩; have E10 := E9.trans e10; clear e10)
        | (go_simp; go_at_call 16; refine (FamilyValid_is L7.out hcut.out).mono ?_; rintro e w7 ⟨rfl, e7⟩; have E7 := hd6.out.trans e7; have hcell7 := E7.cell hcell; have hcell7a := (E7.alloc (.cells #[] 26)).cell hcell;  clear L7 e7)))
      all_goals
        go_wp2_with fail
        go_ret
        exact ⟨rfl, he.trans (x6.out.trans E14)⟩
end Go.Proofs.Ytfccceogmhjljaa
