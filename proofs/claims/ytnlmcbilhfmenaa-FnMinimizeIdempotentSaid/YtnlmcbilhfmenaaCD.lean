/- The quorum systems of package impl: lists, readFamilies, FamilyMinimize, FamilyEither, FamilyBoth. Conditions: each lemma's own. -/
import Derived.Test.YtnlmcbilhfmenaaH5
import Derived.Test.YtnlmcbilhfmenaaCB
import Derived.Test.YtnlmcbilhfmenaaF4
namespace Go.Proofs.Ytnlmcbilhfmenaa
open Go.RowKit
set_option linter.unusedVariables false

set_option maxHeartbeats 1000000 in
theorem lists_any {a : Option Addr} {n cp : Nat} {q : List Nat} {w : World} (h : Crs w a n q) (hq : ∀ x ∈ q, x < 64) (hn : n ≤ 900000) :
    Calls Try.prog 81 #[.slice a n cp] w (RG w (famL q)) := by
  have H := Lib.hid h
  have HQ := Lib.hid hq
  have hlq := Lib.hid h.len
  clear h hq
  go_enter Try.func81, Try.ntmps81
  go_wp2_with fail
  go_loopw [3, 8] (fun v i wr => ∃ (k : Nat) (a2 : Option Addr) (n2 c2 : Nat), k ≤ n ∧ n2 = k ∧ i = .int .i64 (k : Nat) ∧ v = .slice a2 n2 c2 ∧ OwnG wr w.heap.size wr.heap.size a2 n2 c2 (famL (q.take k)) ∧ Ext none w wr)
    (fun _ i _ => n - (intOf i).toNat)
  case atStart => exact ⟨0, none, 0, 0, by omega, rfl, rfl, rfl, OwnG.nil _ _ _, Ext.refl _ _⟩
  case round =>
    obtain ⟨k, a2, n2, c2, hk, hn2, rfl, rfl, hG, hE⟩ := hrel
    subst hn2
    have HG := Lib.hid hG
    have HE := Lib.hid hE
    by_cases hlt : n2 < n
    · have hltI : (n2 : Int) < (n : Int) := by omega
      have hkl : n2 < q.length := by rw [hlq.out]; exact hlt
      obtain ⟨b, off, rfl, hc⟩ := (H.out.ext hE).cell hlt
      have hx64 := getD_lt HQ.out hkl
      obtain ⟨x, hx⟩ : ∃ x, x = q.getD n2 0 := ⟨_, rfl⟩
      rw [← hx] at hc hx64
      have hst := Lib.hid (show famL (q.take (n2 + 1)) = famL (q.take n2) ++ [mem x] from by rw [snoc_take q 0 n2 hkl, ← hx, famL_snoc])
      clear hG hE hx
      go_wp2_with fail
      refine (members_any hx64).mono ?_; rintro e w2 ⟨a3, n3, c3, rfl, o3, e3⟩
      have hG2 := HG.out.ext0 e3
      have HE2 := Lib.hid (HE.out.trans e3)
      have hsz := e3.size
      have hlo := HE.out.size
      clear e3
      go_wp2_with (at_builtin; refine app_rowG _ rfl _ _ rfl w.heap.size wr.heap.size a2 n2 c2 _ hG2 a3 n3 c3 _ o3 hlo rfl rfl (by omega) hsz ?_; intro g c' w5 ho5 hg5)
      go_roundw
      case rel => exact ⟨n2 + 1, _, _, _, by omega, rfl, by go_num, rfl, by rw [hst.out]; exact ho5, HE2.out.grown hg5 (fun j hj => .inl (hG2.ownF.block j hj))⟩
      case measure => simp [intOf]; omega
    · obtain rfl : n2 = n := by omega
      have hall := Lib.hid (show q.take n2 = q from List.take_of_length_le (by rw [hlq.out]; exact Nat.le_refl _))
      clear hG hE
      go_wp2_with fail
      go_ret
      exact ⟨a2, n2, c2, rfl, by rw [← hall.out]; exact HG.out, HE.out⟩

/-- What readFamilies leaves. -/
def RQ2 (w : World) (f g : List (List Int)) (e : Ending) (w' : World) : Prop :=
  ∃ a n c b m d, e = .returned (.tuple #[.slice a n c, .slice b m d, .bool (ok2 f g)]) ∧ OwnC w' w.heap.size a n c (rdF f) ∧ OwnC w' w.heap.size b m d (rdF g) ∧ (∀ k, (Value.slice a n c).ownBlock = some k → (Value.slice b m d).ownBlock ≠ some k) ∧ Ext none w w'
theorem retT {a b : Value} {x y : Bool} (h : x = y) : Ending.returned (.tuple #[a, b, .bool y]) = .returned (.tuple #[a, b, .bool x]) := by rw [h]
set_option maxHeartbeats 1000000 in
theorem readFamilies_any {a : Option Addr} {n cp : Nat} {f : List (List Int)} {b : Option Addr} {m cq : Nat} {g : List (List Int)} {w : World} (h : Fam w a n f) (h' : Fam w b m g) :
    Calls Try.prog 82 #[.slice a n cp, .slice b m cq] w (RQ2 w f g) := by
  cases hf : famB f
  · have hok := Lib.hid (show ok2 f g = false from by unfold ok2; rw [hf]; rfl)
    go_enter Try.func82, Try.ntmps82
    go_wp2_with fail
    refine (readFamily_is h hf).mono ?_; rintro e w1 ⟨a1, n1, c1, rfl, o1, e1⟩
    have hlt := Lib.hid (fun k hk => (World.ownsRow.lt o1 k hk).2)
    go_wp2_with fail
    refine (readFamily_any (h'.ext e1)).mono ?_; rintro e w2 ⟨a2, n2, c2, rfl, o2, e2⟩
    have hge := Lib.hid (fun k hk => (World.ownsRow.lt o2 k hk).1)
    go_wp2_with fail
    go_ret3
    exact ⟨_, _, _, _, _, _, retT hok.out, o1.ext0 e2, o2.mono e1.size, fun k hk hk' => by have := hlt.out k hk; have := hge.out k hk'; omega, e1.trans e2⟩
  · have hok := Lib.hid (show ok2 f g = famB g from by unfold ok2; rw [hf]; rfl)
    go_enter Try.func82, Try.ntmps82
    go_wp2_with fail
    refine (readFamily_is h hf).mono ?_; rintro e w1 ⟨a1, n1, c1, rfl, o1, e1⟩
    have hlt := Lib.hid (fun k hk => (World.ownsRow.lt o1 k hk).2)
    go_wp2_with fail
    refine (readFamily_any (h'.ext e1)).mono ?_; rintro e w2 ⟨a2, n2, c2, rfl, o2, e2⟩
    have hge := Lib.hid (fun k hk => (World.ownsRow.lt o2 k hk).1)
    go_wp2_with fail
    go_ret3
    exact ⟨_, _, _, _, _, _, retT hok.out, o1.ext0 e2, o2.mono e1.size, fun k hk hk' => by have := hlt.out k hk; have := hge.out k hk'; omega, e1.trans e2⟩
end Go.Proofs.Ytnlmcbilhfmenaa
