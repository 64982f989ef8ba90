/- Plain mathematics of quorum expressions, fourth part: the threshold of a set. No program text. -/
import Derived.Test.YtjjjpakgnipghaaDoorE3
import Derived.Test.YtjjjpakgnipghaaDoorPQ
import Derived.Test.YtjjjpakgnipghaaDoorF8
import Derived.Test.YtjjjpakgnipghaaDoorPO
namespace Go.Proofs.YtjjjpakgnipghaaDoor

/-- members as a forest -/
def leaves : List Int → Fo
  | [] => .nil
  | m :: r => .leaf m.toNat (leaves r)
def thrF (k : Nat) (xs : List Int) : Fo := .gate k (leaves xs) .nil
def okTh (k : Int) (xs : List Int) : Bool := valid xs && (decide (1 ≤ k) && decide (k ≤ (xs.length : Int)))
/-- the text of a threshold; empty, if it is none -/
def thrL (k : Int) (xs : List Int) : List UInt8 := if okTh k xs then (thrF k.toNat xs).str else []
theorem leaves_len (xs : List Int) : (leaves xs).len = xs.length := by
  induction xs with | nil => rfl | cons x r ih => simp [leaves, Fo.len, ih]
theorem leaves_app (xs ys : List Int) : leaves (xs ++ ys) = (leaves xs).app (leaves ys) := by
  induction xs with | nil => rfl | cons x r ih => simp [leaves, Fo.app, ih]
theorem leaves_mem {d : Nat} (hd : d < 64) : (leaves (mem d)).wf = true ∧ (leaves (mem d)).occ = d ∧ (leaves (mem d)).dep = 0 ∧ (leaves (mem d)).str.length ≤ 11 := by
  have key : ∀ d < 64, (leaves (mem d)).wf = true ∧ (leaves (mem d)).occ = d ∧ (leaves (mem d)).dep = 0 ∧ (leaves (mem d)).str.length ≤ 11 := by decide +kernel
  exact key d hd
theorem leaves_cnt {c d : Nat} (hc : c < 64) (hd : d < 64) : (leaves (mem d)).cnt c = (mem (d &&& c)).length := by
  have key : ∀ c < 64, ∀ d < 64, (leaves (mem d)).cnt c = (mem (d &&& c)).length := by decide +kernel
  exact key c hc d hd
theorem okTh_parts {k : Int} {xs : List Int} (h : okTh k xs = true) : valid xs = true ∧ 1 ≤ k ∧ k ≤ (xs.length : Int) := by
  unfold okTh at h
  rw [Bool.and_eq_true, Bool.and_eq_true, decide_eq_true_eq, decide_eq_true_eq] at h
  exact ⟨h.1, h.2.1, h.2.2⟩
theorem thr_no {k : Int} {xs : List Int} (h : okTh k xs = false) : thrL k xs = [] := by unfold thrL; rw [h]; rfl
theorem thr_yes {k : Int} {xs : List Int} (h : okTh k xs = true) : thrL k xs = (thrF k.toNat xs).str := by unfold thrL; rw [h]; rfl
theorem thrF_wf {k : Int} {xs : List Int} (h : okTh k xs = true) : (thrF k.toNat xs).wf = true := by
  obtain ⟨hv, h1, h2⟩ := okTh_parts h
  obtain ⟨d, hd, rfl⟩ := valid_mem hv
  have h6 : (mem d).length ≤ 6 := mem_len
  unfold thrF
  simp only [Fo.wf, Bool.and_eq_true, decide_eq_true_eq, leaves_len]
  exact ⟨⟨⟨⟨by omega, by omega⟩, h6⟩, (leaves_mem hd).1⟩, trivial⟩
theorem thr_len {k : Int} {xs : List Int} (h : okTh k xs = true) : (thrF k.toNat xs).str.length ≤ 14 := by
  obtain ⟨hv, h1, h2⟩ := okTh_parts h
  obtain ⟨d, hd, rfl⟩ := valid_mem hv
  unfold thrF
  rw [str_gate]
  have := (leaves_mem hd).2.2.2
  simp only [List.length_cons, List.length_append, List.length_nil]
  omega
theorem thr_ex {k : Int} {xs : List Int} (h : okTh k xs = true) : ex (thrL k xs) = some (thrF k.toNat xs) := by
  rw [thr_yes h]
  exact ex_str (thrF_wf h) rfl (by have := thr_len h; omega)
theorem thr_ok {k : Int} {xs : List Int} (h : okTh k xs = true) : okE (thrL k xs) = true := by unfold okE; rw [thr_ex h]; rfl
theorem thr_mem {k : Int} {xs : List Int} (h : okTh k xs = true) : membersE (thrL k xs) = xs := by
  obtain ⟨hv, h1, h2⟩ := okTh_parts h
  unfold membersE occE
  rw [thr_ok h, thr_ex h]
  obtain ⟨d, hd, rfl⟩ := valid_mem hv
  show mem (Fo.gate k.toNat (leaves (mem d)) .nil).occ = mem d
  rw [occ_gate, (leaves_mem hd).2.1]
theorem thr_dep {k : Int} {xs : List Int} (h : okTh k xs = true) : depL (thrL k xs) = 1 := by
  obtain ⟨hv, h1, h2⟩ := okTh_parts h
  unfold depL
  rw [thr_ex h]
  obtain ⟨d, hd, rfl⟩ := valid_mem hv
  show ((Fo.gate k.toNat (leaves (mem d)) .nil).dep : Int) = 1
  simp [Fo.dep, (leaves_mem hd).2.2.1]
/-- the law of a threshold -/
theorem thr_sat {k : Int} {xs ts : List Int} (h : okTh k xs = true) (ht : valid ts = true) : satisfiedE (thrL k xs) ts = decide (k ≤ ((interL xs ts).length : Int)) := by
  obtain ⟨hv, h1, h2⟩ := okTh_parts h
  have ho := thr_ok h
  have he := thr_ex h
  obtain ⟨d, hd, rfl⟩ := valid_mem hv
  obtain ⟨c, hc, rfl⟩ := valid_mem ht
  unfold satisfiedE satE
  rw [ho, ht, he, mask_mem hc, interL_yes hv ht, mask_mem hd, mask_mem hc]
  show (true && (true && sat c (Fo.gate k.toNat (leaves (mem d)) .nil))) = _
  rw [sat_gate, leaves_cnt hc hd, Bool.true_and, Bool.true_and]
  exact decide_eq_decide.2 (by omega)
theorem thr_mono {k j : Int} {xs ts : List Int} (h : okTh k xs = true) (h1 : 1 ≤ j) (hj : j ≤ k) (ht : valid ts = true) (hs : satisfiedE (thrL k xs) ts = true) : satisfiedE (thrL j xs) ts = true := by
  obtain ⟨hv, _, h2⟩ := okTh_parts h
  have hj2 : okTh j xs = true := by
    unfold okTh; rw [hv, decide_eq_true h1, decide_eq_true (show j ≤ (xs.length : Int) by omega)]; rfl
  rw [thr_sat h ht, decide_eq_true_eq] at hs
  rw [thr_sat hj2 ht, decide_eq_true_eq]; omega
theorem okTh_low {k j : Int} {xs : List Int} (h : okTh k xs = true) (h1 : 1 ≤ j) (hj : j ≤ k) : okTh j xs = true := by
  obtain ⟨hv, _, h2⟩ := okTh_parts h
  unfold okTh; rw [hv, decide_eq_true h1, decide_eq_true (show j ≤ (xs.length : Int) by omega)]; rfl
/-- equal votes are a threshold -/
def equB (n k : Nat) : Bool := okW (List.replicate n (1 : Int)) (k : Int) && (okTh (k : Int) ((mem 63).take n) && decide (wFamL (List.replicate n (1 : Int)) (k : Int) = ofExprL (thrL (k : Int) ((mem 63).take n))))
theorem uni_fam {n k : Nat} (hn : 1 ≤ n) (hn6 : n ≤ 6) (hk : 1 ≤ k) (hkn : k ≤ n) :
    okW (List.replicate n (1 : Int)) (k : Int) = true ∧ okTh (k : Int) ((mem 63).take n) = true ∧ wFamL (List.replicate n (1 : Int)) (k : Int) = ofExprL (thrL (k : Int) ((mem 63).take n)) := by
  have key : ∀ n < 7, ∀ k < 7, 1 ≤ n → 1 ≤ k → k ≤ n → equB n k = true := by decide +kernel
  have h := key n (by omega) k (by omega) hn hk hkn
  unfold equB at h
  rw [Bool.and_eq_true, Bool.and_eq_true, decide_eq_true_eq] at h
  exact ⟨h.1, h.2.1, h.2.2⟩
theorem thr_take (xs : List Int) (k : Nat) (h : k < xs.length) : leaves (xs.take (k + 1)) = (leaves (xs.take k)).app (.leaf (xs.getD k 0).toNat .nil) := by
  have e : xs.take (k + 1) = xs.take k ++ [xs.getD k 0] := by
    rw [List.take_add_one, List.getElem?_eq_getElem h]; simp [List.getD, h]
  rw [e, leaves_app]; rfl
end Go.Proofs.YtjjjpakgnipghaaDoor
