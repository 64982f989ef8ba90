/- The expressions of package impl: trees in memory, the parser. Conditions: each lemma's own. -/
import Derived.Test.YtjjjpakgnipghaaDoorC5
namespace Go.Proofs.YtjjjpakgnipghaaDoor
open Go.RowKit
set_option linter.unusedVariables false

/-- The values vs are the trees of a forest; every block that they use is 'ok'. -/
def ForA (w : World) (ok : Nat → Prop) : Fo → List Value → Prop
  | .nil, vs => vs = []
  | .leaf m r, vs => ∃ (b : Nat) (ty : TypeId) (us : List Value), vs = .iface 55 (.pointer (some ⟨b, 0, none⟩)) :: us ∧ ok b ∧
      w.heap[b]? = some (.cells #[.int .i64 (m : Nat)] ty (0, 0)) ∧ ForA w ok r us
  | .gate k ops r, vs => ∃ (b : Nat) (ty : TypeId) (us : List Value) (a : Option Addr) (n c : Nat) (xs : List Value), vs = .iface 51 (.pointer (some ⟨b, 0, none⟩)) :: us ∧ ok b ∧
      w.heap[b]? = some (.cells #[.int .i64 (k : Nat), .slice a n c] ty (0, 0)) ∧ Own w 0 67 a n c xs ∧ (∀ g, (Value.slice a n c).ownBlock = some g → ok g) ∧ ForA w ok ops xs ∧ ForA w ok r us

theorem Own.extN {w w' : World} {B e : Nat} {a : Option Addr} {n c : Nat} {vs : List Value} {r : Option Nat} (h : Own w B e a n c vs) (hx : w.grownBy w' r) (hr : (Value.slice a n c).ownBlock ≠ r ∨ (Value.slice a n c).ownBlock = none) : Own w' B e a n c vs := by
  rcases hr with hr | hr
  · cases h0 : (Value.slice a n c).ownBlock with
    | none => exact World.ownsRow.kept h hx (.inl h0)
    | some k => exact World.ownsRow.kept h hx (.inr hr)
  · exact World.ownsRow.kept h hx (.inl hr)

theorem ForA.grown {w w' : World} {ok : Nat → Prop} {row : Option Nat} (hx : w.grownBy w' row) (hr : ∀ k, row = some k → ¬ ok k) (F : Fo) : ∀ vs, ForA w ok F vs → ForA w' ok F vs := by
  have hblk : ∀ b o, ok b → w.heap[b]? = some o → w'.heap[b]? = some o := fun b o hb h =>
    (hx.block b (Array.getElem?_eq_some_iff.1 h).1 (fun e => hr b e.symm hb)).trans h
  induction F with
  | nil => exact fun vs h => h
  | leaf m r ih =>
    rintro vs ⟨b, ty, us, h1, h2, h3, h4⟩
    exact ⟨b, ty, us, h1, h2, hblk b _ h2 h3, ih _ h4⟩
  | gate k ops r ih1 ih2 =>
    rintro vs ⟨b, ty, us, a, n, c, xs, h1, h2, h3, h4, h5, h6, h7⟩
    refine ⟨b, ty, us, a, n, c, xs, h1, h2, hblk b _ h2 h3, h4.extN hx ?_, h5, ih1 _ h6, ih2 _ h7⟩
    cases h0 : (Value.slice a n c).ownBlock with
    | none => exact .inr rfl
    | some g => exact .inl (fun e => hr g e.symm (h5 g h0))
theorem ForA.ext {w w' : World} {ok : Nat → Prop} {F : Fo} {vs : List Value} (h : ForA w ok F vs) (hx : Ext none w w') : ForA w' ok F vs := ForA.grown hx (by simp) F vs h
theorem ForA.weak {w : World} {ok ok' : Nat → Prop} (h : ∀ b, ok b → b < w.heap.size → ok' b) (F : Fo) : ∀ vs, ForA w ok F vs → ForA w ok' F vs := by
  induction F with
  | nil => exact fun vs h => h
  | leaf m r ih =>
    rintro vs ⟨b, ty, us, h1, h2, h3, h4⟩
    exact ⟨b, ty, us, h1, h b h2 (Array.getElem?_eq_some_iff.1 h3).1, h3, ih _ h4⟩
  | gate k ops r ih1 ih2 =>
    rintro vs ⟨b, ty, us, a, n, c, xs, h1, h2, h3, h4, h5, h6, h7⟩
    exact ⟨b, ty, us, a, n, c, xs, h1, h b h2 (Array.getElem?_eq_some_iff.1 h3).1, h3, h4, fun g hg => h g (h5 g hg) (World.ownsRow.lt h4 g hg).2, ih1 _ h6, ih2 _ h7⟩
theorem ForA.app {w : World} {ok : Nat → Prop} {G : Fo} {us : List Value} (hG : ForA w ok G us) (F : Fo) : ∀ vs, ForA w ok F vs → ForA w ok (F.app G) (vs ++ us) := by
  induction F with
  | nil => rintro vs rfl; exact hG
  | leaf m r ih =>
    rintro vs ⟨b, ty, xs, rfl, h2, h3, h4⟩
    exact ⟨b, ty, _, rfl, h2, h3, ih _ h4⟩
  | gate k ops r ih1 ih2 =>
    rintro vs ⟨b, ty, ys, a, n, c, xs, rfl, h2, h3, h4, h5, h6, h7⟩
    exact ⟨b, ty, _, a, n, c, xs, rfl, h2, h3, h4, h5, h6, ih2 _ h7⟩
theorem ForA.len {w : World} {ok : Nat → Prop} {F : Fo} : ∀ {vs}, ForA w ok F vs → vs.length = F.len := by
  induction F with
  | nil => rintro vs rfl; rfl
  | leaf m r ih => rintro vs ⟨b, ty, xs, rfl, h2, h3, h4⟩; simp [Fo.len, ih h4]
  | gate k ops r ih1 ih2 => rintro vs ⟨b, ty, ys, a, n, c, xs, rfl, h2, h3, h4, h5, h6, h7⟩; simp [Fo.len, ih2 h7]
/-- one of the trees -/
theorem ForA.at_ {w : World} {ok : Nat → Prop} {F t : Fo} {i : Nat} : ∀ {vs}, ForA w ok F vs → (trees F)[i]? = some t → ∃ v, vs[i]? = some v ∧ ForA w ok t [v] := by
  induction F generalizing i with
  | nil => intro vs _ h; simp [trees] at h
  | leaf m r ih =>
    rintro vs ⟨b, ty, xs, rfl, h2, h3, h4⟩ h
    cases i with
    | zero => simp [trees] at h; subst h; exact ⟨_, rfl, b, ty, [], rfl, h2, h3, rfl⟩
    | succ i => simp only [trees, List.getElem?_cons_succ] at h; rw [List.getElem?_cons_succ]; exact ih h4 h
  | gate k ops r ih1 ih2 =>
    rintro vs ⟨b, ty, ys, a, n, c, xs, rfl, h2, h3, h4, h5, h6, h7⟩ h
    cases i with
    | zero => simp [trees] at h; subst h; exact ⟨_, rfl, b, ty, [], a, n, c, xs, rfl, h2, h3, h4, h5, h6, rfl⟩
    | succ i => simp only [trees, List.getElem?_cons_succ] at h; rw [List.getElem?_cons_succ]; exact ih2 h7 h
/-- a single tree is no nil -/
theorem ForA.shape {w : World} {ok : Nat → Prop} {t : Fo} {v : Value} (h : ForA w ok t [v]) (hl : t.len = 1) : ∃ T b, v = .iface T (.pointer (some ⟨b, 0, none⟩)) := by
  cases t with
  | nil => simp [Fo.len] at hl
  | leaf m r => obtain ⟨b, ty, xs, h1, _⟩ := h; injection h1 with h1; exact ⟨_, b, h1⟩
  | gate k ops r => obtain ⟨b, ty, ys, a, n, c, xs, h1, _⟩ := h; injection h1 with h1; exact ⟨_, b, h1⟩

/-- how much the parser has still to read -/
def restLen (w : World) (pb : Nat) : Nat := match w.cell? ⟨pb, 0, none⟩ with | some (.string s) => s.size | _ => 0
theorem Pr.rest {w : World} {pb : Nat} {L : List UInt8} (h : Pr w pb L) : restLen w pb = L.length := by
  obtain ⟨s, ty, hp, hs, hz⟩ := h
  have hc : w.cell? ⟨pb, 0, none⟩ = some (.string s) := by simp [World.cell?, hp]
  unfold restLen; rw [hc, ← hs, byt_len]

/-- A gate that is being filled. -/
def GateI (w0 : World) (pb gb k : Nat) (wr : World) (F : Fo) (L : List UInt8) : Prop :=
  ∃ (a : Option Addr) (n c : Nat) (vs : List Value) (ty : TypeId), wr.heap[gb]? = some (.cells #[.int .i64 (k : Nat), .slice a n c] ty (0, 0)) ∧ Own wr w0.heap.size 67 a n c vs ∧
    (Value.slice a n c).ownBlock ≠ some gb ∧ ForA wr (fun b => w0.heap.size ≤ b ∧ b ≠ gb ∧ (Value.slice a n c).ownBlock ≠ some b) F vs ∧ n + L.length ≤ 900000 ∧ Pr wr pb L ∧ Ext (some pb) w0 wr ∧ w0.heap.size ≤ gb ∧ pb < w0.heap.size
theorem treeInfo : (Tryd.prog.info? 67).map (fun i => (i.zero, i.size, i.bytes)) = some (some .nilIface, 1, 16) := by kernel_rfl
theorem app_tree (w : World) {ops : Array Oper} {rest : List Oper} {o : Oper} {a : Act} {Q : Exit → Act → World → Prop} (hgd : o.guard = none) (s x : Operand)
    (ho : o.op = .call { callee := .builtin .append, args := #[s, x], argTypes := #[52, 52] })
    (B : Nat) (ad : Option Addr) (n c : Nat) (vs : List Value) (hown : Own w B 67 ad n c vs) (u : Value) (hu : u.oneCell' = true) (hs : a.eval s = .slice ad n c)
    (hx : a.eval x = .slice (some ⟨w.heap.size, 0, none⟩) 1 1) (hlen : n + 1 ≤ 1000000) (hB : B ≤ w.heap.size)
    (h : ∀ g c' w', Own w' B 67 (some ⟨g, 0, none⟩) (n + 1) c' (vs ++ [u]) → w.grownBy w' (Value.slice ad n c).ownBlock → (some g = (Value.slice ad n c).ownBlock ∨ g = w.heap.size + 1) → wpList Tryd.prog ops Q rest (a.put o.dst (.slice (some ⟨g, 0, none⟩) (n + 1) c')) w') :
    wpList Tryd.prog ops Q (o :: rest) a (w.alloc (.cells #[u] 67)) := by
  obtain ⟨i0, hi, hz0, hz1, hz2⟩ := info_parts treeInfo
  exact append1_at w hgd s x 52 ho B 67 i0 .nilIface 16 Tryd.underlying52 hi hz0 hz1 hz2 rfl ad n c _ hs hown u hx hu hlen (by decide) hB h
end Go.Proofs.YtjjjpakgnipghaaDoor
