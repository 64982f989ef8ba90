/- The quorum systems of package impl: reading them. Conditions: each lemma's own. -/
import Derived.Test.YtnlmcbilhfmenaaC2
import Derived.Test.YtnlmcbilhfmenaaF2
import Derived.Test.YtnlmcbilhfmenaaW2
namespace Go.Proofs.Ytnlmcbilhfmenaa
open Go.RowKit
set_option linter.unusedVariables false

/-- a slice of masks -/
def Crs (w : World) (a : Option Addr) (n : Nat) (q : List Nat) : Prop := At w a n (q.map (fun c => Value.int .u64 (c : Nat)))
theorem Crs.len {w : World} {a : Option Addr} {n : Nat} {q : List Nat} (h : Crs w a n q) : q.length = n := by simpa using h.1
theorem Crs.max {w : World} {a : Option Addr} {n : Nat} {q : List Nat} (h : Crs w a n q) : n ≤ 9223372036854775807 := At.max h
theorem Crs.ext {w w' : World} {a : Option Addr} {n : Nat} {q : List Nat} (h : Crs w a n q) (hx : Ext none w w') : Crs w' a n q := At.ext h hx
theorem Crs.cell {w : World} {a : Option Addr} {n : Nat} {q : List Nat} (h : Crs w a n q) {k : Nat} (hk : k < n) :
    ∃ b off, a = some ⟨b, off, none⟩ ∧ w.cell? ⟨b, off + k, none⟩ = some (.int .u64 (q.getD k 0 : Nat)) := by
  obtain ⟨b, off, ha, hc⟩ := h.2.2 k hk
  have hl : k < q.length := by rw [h.len]; exact hk
  exact ⟨b, off, ha, by rw [hc]; simp [List.getD, hl]⟩
theorem Crs.cellAt {w : World} {b off n : Nat} {q : List Nat} (h : Crs w (some ⟨b, off, none⟩) n q) {k : Nat} (hk : k < n) :
    w.cell? ⟨b, off + k, none⟩ = some (.int .u64 (q.getD k 0 : Nat)) := by
  obtain ⟨b', off', ha, hc⟩ := h.cell hk
  simp only [Option.some.injEq, Addr.mk.injEq, and_true] at ha
  obtain ⟨rfl, rfl⟩ := ha
  exact hc
theorem Crs.nil (w : World) (a : Option Addr) : Crs w a 0 [] := At.nil w a
def OwnC (w : World) (B : Nat) (a : Option Addr) (n c : Nat) (q : List Nat) : Prop := Own w B 54 a n c (q.map (fun c => Value.int .u64 (c : Nat)))
theorem OwnC.crs {w : World} {B : Nat} {a : Option Addr} {n c : Nat} {q : List Nat} (h : OwnC w B a n c q) : Crs w a n q := Own.at_ h
theorem OwnC.len {w : World} {B : Nat} {a : Option Addr} {n c : Nat} {q : List Nat} (h : OwnC w B a n c q) : q.length = n := h.crs.len
theorem OwnC.mono {w : World} {B B' : Nat} {a : Option Addr} {n c : Nat} {q : List Nat} (h : OwnC w B a n c q) (hB : B' ≤ B) : OwnC w B' a n c q := Own.mono h hB
theorem OwnC.ext0 {w w' : World} {B : Nat} {a : Option Addr} {n c : Nat} {q : List Nat} (h : OwnC w B a n c q) (hx : Ext none w w') : OwnC w' B a n c q := Own.ext0 h hx
theorem OwnC.nil (w : World) (B : Nat) : OwnC w B none 0 0 [] := Own.nil w B _
theorem crewInfo : (Try.prog.info? 54).map (fun i => (i.zero, i.size, i.bytes)) = some (some (.int .u64 0), 1, 8) := by kernel_rfl
/-- 'q = append(q, c)'. -/
theorem app_crew (t : TypeId) (ht : Try.prog.underlying t = some (.slice 54)) (w : World) {ops : Array Oper} {rest : List Oper} {o : Oper} {a : Act} {Q : Exit → Act → World → Prop} (hgd : o.guard = none) (s x : Operand)
    (ho : o.op = .call { callee := .builtin .append, args := #[s, x], argTypes := #[t, t] })
    (B : Nat) (ad : Option Addr) (n c : Nat) (q : List Nat) (hown : OwnC w B ad n c q) (y : Nat) (hs : a.eval s = .slice ad n c)
    (hx : a.eval x = .slice (some ⟨w.heap.size, 0, none⟩) 1 1) (hlen : n + 1 ≤ 1000000) (hB : B ≤ w.heap.size)
    (h : ∀ g c' w', OwnC w' B (some ⟨g, 0, none⟩) (n + 1) c' (q ++ [y]) → w.grownBy w' (Value.slice ad n c).ownBlock → wpList Try.prog ops Q rest (a.put o.dst (.slice (some ⟨g, 0, none⟩) (n + 1) c')) w') :
    wpList Try.prog ops Q (o :: rest) a (w.alloc (.cells #[.int .u64 (y : Nat)] 54)) := by
  obtain ⟨i0, hi, hz0, hz1, hz2⟩ := info_parts crewInfo
  refine append1 w hgd s x t ho B 54 i0 (.int .u64 0) 8 ht hi hz0 hz1 hz2 rfl ad n c _ hs hown (.int .u64 (y : Nat)) hx rfl hlen (by decide) hB ?_
  intro g c' w' h1 h2
  exact h g c' w' (by simpa [OwnC, List.map_append] using h1) h2

theorem up_snoc (q : List Nat) (x c : Nat) : up (q ++ [x]) c = (up q c || sub x c) := by simp [up]
theorem up_take {q : List Nat} {c k : Nat} (h : up (q.take k) c = true) : up q c = true := by
  unfold up at *
  rw [List.any_eq_true] at *
  obtain ⟨x, hx, hs⟩ := h
  exact ⟨x, List.mem_of_mem_take hx, hs⟩
theorem getD_lt {q : List Nat} (hq : ∀ x ∈ q, x < 64) {k : Nat} (hk : k < q.length) : q.getD k 0 < 64 := by
  simp only [List.getD, List.getElem?_eq_getElem hk, Option.getD_some]; exact hq _ (List.getElem_mem hk)

set_option maxHeartbeats 1000000 in
theorem reached_is {a : Option Addr} {n cp : Nat} {q : List Nat} {c : Nat} {b : Bool} {w : World} (h : Crs w a n q) (hq : ∀ x ∈ q, x < 64) (hc64 : c < 64) (hb : up q c = b) :
    Calls Try.prog 67 #[.slice a n cp, .int .u64 c] w fun e w' => e = .returned (.bool b) ∧ w = w' := by
  have hm := h.max
  have HQ := Lib.hid hq
  have HB := Lib.hid hb
  clear hq hb
  go_enter Try.func67, Try.ntmps67
  go_wp2_with fail
  go_loop [9] (fun i => ∃ k : Nat, k ≤ n ∧ i = .int .i64 k ∧ up (q.take k) c = false)
    (fun i => n - (intOf i).toNat)
  case atStart => exact ⟨0, by omega, rfl, rfl⟩
  case round =>
    obtain ⟨k, hk, rfl, hv⟩ := hrel
    have hV := Lib.hid hv
    clear hv
    by_cases hlt : k < n
    · have hl : k < q.length := by rw [h.len]; exact hlt
      obtain ⟨b1, off, rfl, hc⟩ := h.cell hlt
      have hx64 := getD_lt HQ.out hl
      have hst := Lib.hid (show up (q.take (k + 1)) c = sub (q.getD k 0) c from by rw [snoc_take q 0 k hl, up_snoc, hV.out]; rfl)
      obtain ⟨x, hxx⟩ : ∃ x, x = q.getD k 0 := ⟨_, rfl⟩
      rw [← hxx] at hc hx64
      have HX := Lib.hid hxx
      clear hxx
      go_wp2_with fail
      refine (within_any hx64 hc64).mono ?_; rintro e w_ ⟨rfl, rfl⟩
      cases ht : sub x c
      · go_wp2_with fail
        go_round
        case rel => exact ⟨k + 1, by omega, by go_num, by rw [hst.out, ← HX.out]; exact ht⟩
        case measure => simp [intOf]; omega
      · have hin := Lib.hid (show b = true from by rw [← HB.out]; exact up_take (k := k + 1) (by rw [hst.out, ← HX.out]; exact ht))
        go_wp2_with fail
        go_ret
        exact ⟨by rw [hin.out]; rfl, rfl⟩
    · obtain rfl : k = n := by omega
      have hfin := Lib.hid (show b = false from by rw [← HB.out, ← hV.out, List.take_of_length_le (by rw [h.len]; omega)])
      go_wp2_with fail
      go_ret
      exact ⟨by rw [hfin.out]; rfl, rfl⟩
end Go.Proofs.Ytnlmcbilhfmenaa
