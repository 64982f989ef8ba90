/- XPA: several texts in one. Conditions: each lemma's own. -/
import Derived.Test.YtnifgfnhcjhodaaS2
import Derived.Test.YtnifgfnhcjhodaaPO



namespace Go.Proofs.Ytnifgfnhcjhodaa
open Go.RowKit
set_option linter.unusedVariables false

/-- the bytes of a string -/
def byt (s : ByteArray) : List UInt8 := s.data.toList
theorem byt_len (s : ByteArray) : (byt s).length = s.size := Array.length_toList
theorem byt_at {s : ByteArray} {k : Nat} (h : k < s.size) : (byt s)[k]? = some (s[k]'h) := by
  unfold byt
  rw [List.getElem?_eq_getElem (by have := byt_len s; unfold byt at this; omega)]
  rfl
theorem byt_out {s : ByteArray} {k : Nat} (h : s.size ≤ k) : (byt s)[k]? = none := by
  rw [List.getElem?_eq_none (by rw [byt_len]; exact h)]
theorem dgv_sub {b : UInt8} (h : isDg b = true) : (b.toNat : Int) - 48 = ((dgv b : Nat) : Int) := by
  simp only [isDg, Bool.and_eq_true, decide_eq_true_eq] at h
  unfold dgv; omega


set_option maxHeartbeats 2000000 in
theorem l2End_ind (s : ByteArray) (hs : s.size ≤ 1000000) (m : Nat) : ∀ (j : Nat) (w : World), s.size + 1 ≤ j + m → j ≤ 1000001 →
    Calls Try.prog 101 #[.string s, .int .i64 j] w fun e w' => e = .returned (.int .i64 (endL (byt s) j)) ∧ w = w' := by
  induction m with
  | zero =>
    intro j w hm hj
    have hge : s.size ≤ j := by omega
    have hE := Lib.hid (endL_out (L := byt s) (j := j) (by rw [byt_len]; exact hge))
    go_enter Try.func101, Try.ntmps101
    go_wp2_with fail
    go_ret
    exact ⟨by rw [hE.out]; rfl, rfl⟩
  | succ m ih =>
    intro j w hm hj
    have IH := Lib.hid ih
    clear ih
    by_cases hlt : j < s.size
    · have hat := byt_at hlt
      have HA := Lib.hid hat
      clear hat
      cases hd : isDg (s[j]'hlt)
      · have hE := Lib.hid (endL_bad HA.out hd)
        have h2 : ((s[j]'hlt).toNat : Int) < 49 ∨ 54 < ((s[j]'hlt).toNat : Int) := by
          simp only [isDg, Bool.and_eq_false_iff, decide_eq_false_iff_not] at hd; omega
        clear hd
        rcases h2 with h2 | h2
        all_goals
          go_enter Try.func101, Try.ntmps101
          go_wp2_with fail
          go_ret
          exact ⟨by rw [hE.out]; rfl, rfl⟩
      · have hdd := hd
        simp only [isDg, Bool.and_eq_true, decide_eq_true_eq] at hdd
        have h49 : (49 : Int) ≤ ((s[j]'hlt).toNat : Int) := by omega
        have h54 : ((s[j]'hlt).toNat : Int) ≤ 54 := by omega
        clear hdd
        have HD := Lib.hid hd
        clear hd
        by_cases hlt2 : j + 1 < s.size
        · have HA2 := Lib.hid (byt_at hlt2)
          by_cases h40 : s[j + 1]'hlt2 = 40
          · have hb40 : (((s[j + 1]'hlt2).toNat : Int) != 40) = false := by rw [h40]; rfl
            have HG := Lib.hid (endL_gate HA.out HD.out (by rw [HA2.out, h40]))
            have H40 := Lib.hid h40
            clear h40
            have HK := Lib.hid (dgv_sub HD.out)
            have hk1 := (dg_dgv HD.out).2
            obtain ⟨k, hk⟩ : ∃ k, k = dgv (s[j]'hlt) := ⟨_, rfl⟩
            rw [← hk] at HG HK hk1
            clear hk
            have hsub : ((s[j]'hlt).toNat : Int) - 48 = (k : Int) := HK.out
            obtain ⟨hk1, hk6⟩ := hk1
            go_enter Try.func101, Try.ntmps101
            go_wp2_with fail
            go_loop [1, 6] (fun a p => ∃ (i q : Nat) (F : Fo), a = .int .i64 i ∧ p = .int .i64 q ∧ j + 1 ≤ i ∧ i ≤ s.size ∧ q ≤ 6 ∧ (q = 0 → i = j + 1) ∧ Hid (F.len = q ∧ endL (byt s) j = fin k (byt s).length (contP ((byt s).drop i) F)))
              (fun a _ => s.size - (intOf a).toNat)
            case atStart => exact ⟨j + 1, 0, .nil, by go_num, rfl, by omega, by omega, by omega, fun _ => rfl, rfl, by rw [contP_start]; exact HG.out⟩
            case round =>
              obtain ⟨i, q, F, rfl, rfl, hi1, hi2, hq6, hq0, HF⟩ := hrel
              by_cases hi : i < s.size
              · have HB := Lib.hid (byt_at hi)
                by_cases hz : q = 0
                · obtain rfl := hq0 hz
                  subst hz
                  have hb41 : (((s[j + 1]'hi).toNat : Int) != 41) = true := by rw [H40.out]; rfl
                  go_wp2_with fail
                  rw [show (j : Int) + 1 + 1 = ((j + 1 + 1 : Nat) : Int) from by omega]
                  refine (IH.out (j + 1 + 1) _ (by omega) (by omega)).mono ?_; rintro e w' ⟨rfl, rfl⟩
                  cases hp : px ((byt s).drop (j + 1 + 1)) with
                  | none =>
                    rw [endL_neg hp]
                    have hfin := Lib.hid (HF.out.2.trans (fin_stop (.inl HF.out.1) hp))
                    clear hp
                    go_wp2_with fail
                    go_ret
                    exact ⟨by rw [hfin.out]; rfl, rfl⟩
                  | some x =>
                    obtain ⟨t, r⟩ := x
                    obtain ⟨hr0, hr1, hr2, _, hr3⟩ := px_rest hp
                    have hst := contP_step (L := byt s) (j := j + 1) (F := F) (.inl HF.out.1) hp
                    rw [hr3]
                    obtain ⟨i', hi'⟩ : ∃ i', i' = (byt s).length - r.length := ⟨_, rfl⟩
                    rw [← hi'] at hst hr1 ⊢
                    rw [byt_len] at hi'
                    have hle : i' ≤ s.size := by omega
                    have HS := Lib.hid hst
                    clear hp hr0 hr2 hr3 hst hi'
                    go_wp2_with fail
                    go_round
                    case rel => exact ⟨i', 0 + 1, F.app t, rfl, by go_num, by omega, by omega, by omega, fun h => by omega, by rw [HS.out.2, HF.out.1], by rw [HF.out.2, HS.out.1]⟩
                    case measure => simp [intOf]; omega
                · have hqp : 0 < q := by omega
                  by_cases h41 : s[i]'hi = 41
                  · have hb41 : (((s[i]'hi).toNat : Int) != 41) = false := by rw [h41]; rfl
                    have hfin := Lib.hid (HF.out.2.trans (fin_close (by rw [HB.out, h41]) (by rw [HF.out.1]; exact hqp) (by rw [HF.out.1]; exact hq6)))
                    clear h41
                    by_cases hkq : k ≤ q
                    · have hkI : ¬ (q : Int) < (k : Int) := by omega
                      go_wp2_with fail
                      go_ret
                      exact ⟨by rw [hfin.out, HF.out.1, if_pos hkq]; rfl, rfl⟩
                    · have hkI : (q : Int) < (k : Int) := by omega
                      go_wp2_with fail
                      go_ret
                      exact ⟨by rw [hfin.out, HF.out.1, if_neg hkq]; rfl, rfl⟩
                  · have hb41 : (((s[i]'hi).toNat : Int) != 41) = true := by
                      rw [bne_iff_ne]; intro h; exact h41 (UInt8.toNat_inj.1 (by simpa using (by omega : (s[i]'hi).toNat = 41)))
                    by_cases h44 : s[i]'hi = 44
                    · have hb44 : (((s[i]'hi).toNat : Int) != 44) = false := by rw [h44]; rfl
                      by_cases h6 : q = 6
                      · subst h6
                        have hfin := Lib.hid (HF.out.2.trans (fin_many (by rw [HB.out]) h41 (by rw [HF.out.1]; omega)))
                        clear h41 h44
                        go_wp2_with fail
                        go_ret
                        exact ⟨by rw [hfin.out]; rfl, rfl⟩
                      · have hq5 : q < 6 := by omega
                        have H44 := Lib.hid (show (byt s)[i]? = some 44 from by rw [HB.out, h44])
                        clear h41 h44
                        go_wp2_with fail
                        rw [show (i : Int) + 1 = ((i + 1 : Nat) : Int) from by simp]
                        refine (IH.out (i + 1) _ (by omega) (by omega)).mono ?_; rintro e w' ⟨rfl, rfl⟩
                        cases hp : px ((byt s).drop (i + 1)) with
                        | none =>
                          rw [endL_neg hp]
                          have hfin := Lib.hid (HF.out.2.trans (fin_stop (.inr H44.out) hp))
                          clear hp
                          go_wp2_with fail
                          go_ret
                          exact ⟨by rw [hfin.out]; rfl, rfl⟩
                        | some x =>
                          obtain ⟨t, r⟩ := x
                          obtain ⟨hr0, hr1, hr2, _, hr3⟩ := px_rest hp
                          have hst := contP_step (L := byt s) (j := i) (F := F) (.inr H44.out) hp
                          rw [hr3]
                          obtain ⟨i', hi'⟩ : ∃ i', i' = (byt s).length - r.length := ⟨_, rfl⟩
                          rw [← hi'] at hst hr1 ⊢
                          rw [byt_len] at hi'
                          have hle : i' ≤ s.size := by omega
                          have HS := Lib.hid hst
                          clear hp hr0 hr2 hr3 hst hi'
                          go_wp2_with fail
                          go_round
                          case rel => exact ⟨i', q + 1, F.app t, rfl, by go_num, by omega, by omega, by omega, fun h => by omega, by rw [HS.out.2, HF.out.1], by rw [HF.out.2, HS.out.1]⟩
                          case measure => simp [intOf]; omega
                    · have hb44 : (((s[i]'hi).toNat : Int) != 44) = true := by
                        rw [bne_iff_ne]; intro h; exact h44 (UInt8.toNat_inj.1 (by simpa using (by omega : (s[i]'hi).toNat = 44)))
                      have hfin := Lib.hid (HF.out.2.trans (fin_bad (by rw [HB.out]) h41 h44 (by rw [HF.out.1]; exact hqp)))
                      clear h41 h44
                      go_wp2_with fail
                      go_ret
                      exact ⟨by rw [hfin.out]; rfl, rfl⟩
              · obtain rfl : i = s.size := by omega
                have hqp : 0 < q := by
                  rcases Nat.eq_zero_or_pos q with h0 | h0
                  · have := hq0 h0; omega
                  · exact h0
                have hfin := Lib.hid (HF.out.2.trans (fin_end (by rw [byt_len]; exact Nat.le_refl _) (by rw [HF.out.1]; exact hqp)))
                go_wp2_with fail
                go_ret
                exact ⟨by rw [hfin.out]; rfl, rfl⟩
          · have hb40 : (((s[j + 1]'hlt2).toNat : Int) != 40) = true := by
              rw [bne_iff_ne]; intro h; exact h40 (UInt8.toNat_inj.1 (by simpa using (by omega : (s[j + 1]'hlt2).toNat = 40)))
            have hE := Lib.hid (endL_leaf HA.out HD.out (by rw [HA2.out]; intro h; exact h40 (by simpa using h)))
            clear h40
            go_enter Try.func101, Try.ntmps101
            go_wp2_with fail
            go_ret
            exact ⟨by rw [hE.out]; rfl, rfl⟩
        · have hE := Lib.hid (endL_leaf HA.out HD.out (by rw [byt_out (by omega)]; simp))
          go_enter Try.func101, Try.ntmps101
          go_wp2_with fail
          go_ret
          exact ⟨by rw [hE.out]; rfl, rfl⟩
    · have hge : s.size ≤ j := by omega
      have hE := Lib.hid (endL_out (L := byt s) (j := j) (by rw [byt_len]; exact hge))
      go_enter Try.func101, Try.ntmps101
      go_wp2_with fail
      go_ret
      exact ⟨by rw [hE.out]; rfl, rfl⟩


theorem l2End_any {s : ByteArray} {j : Nat} {w : World} (hs : s.size ≤ 1000000) (hj : j ≤ 1000001) :
    Calls Try.prog 101 #[.string s, .int .i64 j] w fun e w' => e = .returned (.int .i64 (endL (byt s) j)) ∧ w = w' :=
  l2End_ind s hs (s.size + 1) j w (by omega) hj


set_option maxHeartbeats 400000 in
theorem sExprValid_any {s : ByteArray} {w : World} (hs : s.size ≤ 9223372036854775807) :
    Calls Try.prog 87 #[.string s] w fun e w' => e = .returned (.bool (okE (byt s))) ∧ w = w' := by
  by_cases h40 : s.size ≤ 40
  · have e := Lib.hid (okE_end (byt s) (by rw [byt_len]; exact h40))
    rw [byt_len] at e
    go_enter Try.func87, Try.ntmps87
    go_wp2_with fail
    rw [show (0 : Int) = ((0 : Nat) : Int) from rfl]
    refine (l2End_any (by omega) (by omega)).mono ?_; rintro e w' ⟨rfl, rfl⟩
    obtain ⟨q, hq⟩ : ∃ q, q = endL (byt s) 0 := ⟨_, rfl⟩
    rw [← hq] at e ⊢
    clear hq
    by_cases hqs : q = (s.size : Int)
    · have hb : (q == (s.size : Int)) = true := by rw [beq_iff_eq]; exact hqs
      by_cases h0 : 0 < s.size
      · have hfin := Lib.hid (show okE (byt s) = true from by rw [e.out, decide_eq_true hqs, decide_eq_true h0]; rfl)
        clear hqs
        go_wp2_with fail
        go_ret
        exact ⟨by rw [hfin.out]; rfl, rfl⟩
      · have hfin := Lib.hid (show okE (byt s) = false from by rw [e.out, decide_eq_false h0, Bool.and_false])
        clear hqs
        go_wp2_with fail
        go_ret
        exact ⟨by rw [hfin.out]; rfl, rfl⟩
    · have hb : (q == (s.size : Int)) = false := by rw [beq_eq_false_iff_ne]; exact hqs
      have hfin := Lib.hid (show okE (byt s) = false from by rw [e.out, decide_eq_false hqs]; rfl)
      clear hqs
      go_wp2_with fail
      go_ret
      exact ⟨by rw [hfin.out]; rfl, rfl⟩
  · have e := Lib.hid (okE_long (byt s) (by rw [byt_len]; exact h40))
    go_enter Try.func87, Try.ntmps87
    go_wp2_with fail
    go_ret
    exact ⟨by rw [e.out]; rfl, rfl⟩



theorem byt_extract (s : ByteArray) (a b : Nat) : byt (s.extract a b) = ((byt s).drop a).take (b - a) := by
  unfold byt
  rw [ByteArray.data_extract, Array.toList_extract, List.extract_eq_take_drop]

/-- A slice of strings of the call's own. -/
def OwnS (w : World) (B : Nat) (a : Option Addr) (n c : Nat) (ps : List ByteArray) : Prop := Own w B 9 a n c (ps.map Value.string)
theorem OwnS.len {w : World} {B : Nat} {a : Option Addr} {n c : Nat} {ps : List ByteArray} (h : OwnS w B a n c ps) : ps.length = n := by simpa using Own.len h
theorem OwnS.cell {w : World} {B : Nat} {a : Option Addr} {n c : Nat} {ps : List ByteArray} (h : OwnS w B a n c ps) {k : Nat} (hk : k < n) :
    ∃ b off p, a = some ⟨b, off, none⟩ ∧ ps[k]? = some p ∧ w.cell? ⟨b, off + k, none⟩ = some (.string p) := by
  obtain ⟨b, off, ha, hc⟩ := (Own.at_ h).2.2 k hk
  have hl : k < ps.length := by rw [h.len]; exact hk
  exact ⟨b, off, ps[k], ha, List.getElem?_eq_getElem hl, by rw [hc]; simp [hl]⟩
theorem OwnS.ext0 {w w' : World} {B : Nat} {a : Option Addr} {n c : Nat} {ps : List ByteArray} (h : OwnS w B a n c ps) (hx : Ext none w w') : OwnS w' B a n c ps := Own.ext0 h hx
theorem OwnS.mono {w : World} {B B' : Nat} {a : Option Addr} {n c : Nat} {ps : List ByteArray} (h : OwnS w B a n c ps) (hB : B' ≤ B) : OwnS w B' a n c ps := Own.mono h hB
theorem OwnS.made (w : World) : OwnS (w.alloc (.cells #[] 9)) w.heap.size (some ⟨w.heap.size, 0, none⟩) 0 0 [] := World.ownsRow_made w #[] 0 (Nat.le_refl _) (by simp [maxLen]) rfl
theorem strInfo : (Try.prog.info? 9).map (fun i => (i.zero, i.size, i.bytes)) = some (some (.string ⟨#[]⟩), 1, 16) := by kernel_rfl
theorem app_str (w : World) {ops : Array Oper} {rest : List Oper} {o : Oper} {a : Act} {Q : Exit → Act → World → Prop} (hgd : o.guard = none) (s x : Operand)
    (ho : o.op = .call { callee := .builtin .append, args := #[s, x], argTypes := #[115, 115] })
    (B : Nat) (ad : Option Addr) (n c : Nat) (ps : List ByteArray) (hown : OwnS w B ad n c ps) (y : ByteArray) (hs : a.eval s = .slice ad n c)
    (hx : a.eval x = .slice (some ⟨w.heap.size, 0, none⟩) 1 1) (hlen : n + 1 ≤ 1000000) (hB : B ≤ w.heap.size)
    (h : ∀ g c' w', OwnS w' B (some ⟨g, 0, none⟩) (n + 1) c' (ps ++ [y]) → w.grownBy w' (Value.slice ad n c).ownBlock → wpList Try.prog ops Q rest (a.put o.dst (.slice (some ⟨g, 0, none⟩) (n + 1) c')) w') :
    wpList Try.prog ops Q (o :: rest) a (w.alloc (.cells #[.string y] 9)) := by
  obtain ⟨i0, hi, hz0, hz1, hz2⟩ := info_parts strInfo
  refine append1 w hgd s x 115 ho B 9 i0 (.string ⟨#[]⟩) 16 Try.underlying115 hi hz0 hz1 hz2 rfl ad n c _ hs hown (.string y) hx rfl hlen (by decide) hB ?_
  intro g c' w' h1 h2
  exact h g c' w' (by simpa [OwnS, List.map_append] using h1) h2

/-- What l2Parts leaves: the texts of the operands. -/
def PartsR (w : World) (F : Fo) (e : Ending) (w' : World) : Prop :=
  ∃ a n c ps, e = .returned (.slice a n c) ∧ OwnS w' w.heap.size a n c ps ∧ ps.map byt = (trees F).map Fo.str ∧ Ext none w w'
theorem parts_at {ps : List ByteArray} {F : Fo} {k : Nat} {p : ByteArray} (h : ps.map byt = (trees F).map Fo.str) (hp : ps[k]? = some p) : ∃ t, (trees F)[k]? = some t ∧ byt p = t.str := by
  have h1 : (ps.map byt)[k]? = some (byt p) := by rw [List.getElem?_map, hp]; rfl
  rw [h, List.getElem?_map] at h1
  cases ht : (trees F)[k]? with
  | none => rw [ht] at h1; simp at h1
  | some t => rw [ht] at h1; simp at h1; exact ⟨t, rfl, h1.symm⟩
theorem parts_len {ps : List ByteArray} {F : Fo} (h : ps.map byt = (trees F).map Fo.str) : ps.length = F.len := by
  have := congrArg List.length h
  simpa [trees_len] using this


set_option maxHeartbeats 2000000 in
theorem l2Parts_any {s : ByteArray} {k : Nat} {F : Fo} {w : World} (hs : s.size ≤ 1000000) (hb : byt s = (Fo.gate k F .nil).str) (hw : F.wf = true) (hF : F ≠ .nil) (hF6 : F.len ≤ 6) :
    Calls Try.prog 104 #[.string s] w (PartsR w F) := by
  have hsz : 2 < s.size := by
    rw [← byt_len, hb, str_gate]; simp
  have h1 : (byt s)[1]? = some 40 := by rw [hb, str_gate]; rfl
  have hne : ((s.size : Int) == 1) = false := by rw [beq_eq_false_iff_ne]; omega
  have HB := Lib.hid hb
  have HW := Lib.hid hw
  have HF := Lib.hid hF
  have H1 := Lib.hid h1
  clear hb hw hF h1
  go_enter Try.func104, Try.ntmps104
  go_wp2_with fail
  go_loopw [3, 4] (fun v i wr => ∃ (j n c : Nat) (a : Option Addr) (ps : List ByteArray) (R : Fo), i = .int .i64 j ∧ v = .slice a n c ∧ j < s.size ∧ OwnS wr w.heap.size a n c ps ∧ n ≤ 6 ∧
      Hid (n + R.len ≤ 6 ∧ R.wf = true ∧ ps.map byt ++ (trees R).map Fo.str = (trees F).map Fo.str ∧ (R = .nil → (byt s)[j]? = some 41) ∧ (R ≠ .nil → (byt s)[j]? ≠ some 41 ∧ (byt s).drop (j + 1) = R.str ++ [41])) ∧ Ext none w wr)
    (fun _ i _ => s.size - (intOf i).toNat)
  case atStart =>
    exact ⟨1, 0, 0, _, [], F, rfl, rfl, by omega, OwnS.made w, by omega, ⟨by omega, HW.out, rfl, fun h => absurd h HF.out, fun _ => ⟨by rw [H1.out]; decide, by rw [HB.out, str_gate]; rfl⟩⟩, (Ext.refl _ _).alloc _⟩
  case round =>
    obtain ⟨j, n, c, a, ps, R, rfl, rfl, hj, ho, hn6, HR, he⟩ := hrel
    have hat := Lib.hid (byt_at hj)
    by_cases hR : R = .nil
    · have h41 : s[j]'hj = 41 := by
        have := HR.out.2.2.2.1 hR
        rw [hat.out] at this; simpa using this
      have hb41 : (((s[j]'hj).toNat : Int) != 41) = false := by rw [h41]; rfl
      clear h41
      have hfin := Lib.hid (show ps.map byt = (trees F).map Fo.str from by have := HR.out.2.2.1; rw [hR] at this; simpa [trees] using this)
      clear hR
      go_wp2_with fail
      go_ret
      exact ⟨_, _, _, ps, rfl, ho, hfin.out, he⟩
    · have hRR := HR.out.2.2.2.2 hR
      have h41 : s[j]'hj ≠ 41 := by
        intro h; exact hRR.1 (by rw [hat.out, h])
      have hb41 : (((s[j]'hj).toNat : Int) != 41) = true := by
        rw [bne_iff_ne]; intro h; exact h41 (UInt8.toNat_inj.1 (by simpa using (by omega : (s[j]'hj).toNat = 41)))
      obtain ⟨i, hi1, hi2, hi3, hi4, hi5⟩ := end_hd hR HR.out.2.1 hRR.2
      rw [byt_len] at hi3
      have hp := Lib.hid (show byt (s.extract (j + 1) i) = (hdF R).str from by rw [byt_extract]; exact hi5)
      have hlen := Lib.hid (tl_len hR)
      have hn5 : n ≤ 5 := by have := HR.out.1; have := hlen.out; omega
      have hnew := Lib.hid (show (n + 1) + (tlF R).len ≤ 6 ∧ (tlF R).wf = true ∧ (ps ++ [s.extract (j + 1) i]).map byt ++ (trees (tlF R)).map Fo.str = (trees F).map Fo.str ∧ (tlF R = .nil → (byt s)[i]? = some 41) ∧ (tlF R ≠ .nil → (byt s)[i]? ≠ some 41 ∧ (byt s).drop (i + 1) = (tlF R).str ++ [41]) from by
        refine ⟨by have := HR.out.1; have := hlen.out; omega, (hd_wf HR.out.2.1).2, ?_, ?_, ?_⟩
        · rw [← HR.out.2.2.1, trees_cons hR, List.map_append, List.map_cons, List.map_cons, List.map_nil, hp.out, List.append_assoc]; rfl
        · intro h0
          rw [h0] at hi4
          have : (byt s)[i]? = ((byt s).drop i).head? := by rw [List.head?_drop]
          rw [this, hi4]; rfl
        · intro h0
          rw [Fo.sep_str h0] at hi4
          have : (byt s)[i]? = ((byt s).drop i).head? := by rw [List.head?_drop]
          refine ⟨by rw [this, hi4]; simp, ?_⟩
          rw [show i + 1 = i + 1 from rfl, ← List.tail_drop, hi4]; rfl)
      have HE := Lib.hid hi1
      clear hi1 hi4 hi5 hRR h41 hR
      go_wp2_with fail
      rw [show (j : Int) + 1 = ((j + 1 : Nat) : Int) from by simp]
      refine (l2End_any hs (by omega)).mono ?_; rintro e w' ⟨rfl, rfl⟩
      rw [HE.out]
      have hs2 := he.size
      go_wp2_with (at_builtin; refine app_str _ rfl _ _ rfl w.heap.size a n c ps ho (s.extract (j + 1) i) rfl rfl (by omega) hs2 ?_; intro g c' w1 ho1 hg1)
      go_roundw
      case rel => exact ⟨i, n + 1, c', _, _, tlF R, rfl, rfl, hi3, ho1, by omega, hnew.out, he.grown hg1 (fun q hq => .inl (Own.block ho q hq))⟩
      case measure => simp [intOf]; omega




theorem size_str {s : ByteArray} {t : Fo} (h : byt s = t.str) : s.size = t.str.length := by rw [← byt_len, h]
theorem leaf_byte {s : ByteArray} {m : Nat} (h : byt s = (Fo.leaf m .nil).str) (h1 : 1 ≤ m) (h2 : m ≤ 6) : ∃ h0 : 0 < s.size, ((s[0]'h0).toNat : Int) = (m : Int) + 48 ∧ s.size = 1 := by
  have hs := size_str h
  rw [str_leaf] at h hs
  have h0 : 0 < s.size := by rw [hs]; simp
  refine ⟨h0, ?_, hs⟩
  have := byt_at h0
  rw [h] at this
  have hb : s[0]'h0 = Fo.dg m := by simpa using this.symm
  rw [hb]
  have hm : m = 1 ∨ m = 2 ∨ m = 3 ∨ m = 4 ∨ m = 5 ∨ m = 6 := by omega
  rcases hm with rfl | rfl | rfl | rfl | rfl | rfl <;> rfl
theorem gate_byte {s : ByteArray} {m : Nat} {F : Fo} (h : byt s = (Fo.gate m F .nil).str) (h1 : 1 ≤ m) (h2 : m ≤ 6) : ∃ h0 : 0 < s.size, ((s[0]'h0).toNat : Int) = (m : Int) + 48 ∧ 1 < s.size ∧ F.str.length < s.size := by
  have hs := size_str h
  rw [str_gate] at h hs
  have h0 : 0 < s.size := by rw [hs]; simp
  refine ⟨h0, ?_, by rw [hs]; simp, by rw [hs]; simp; omega⟩
  have := byt_at h0
  rw [h] at this
  have hb : s[0]'h0 = Fo.dg m := by simpa using this.symm
  rw [hb]
  have hm : m = 1 ∨ m = 2 ∨ m = 3 ∨ m = 4 ∨ m = 5 ∨ m = 6 := by omega
  rcases hm with rfl | rfl | rfl | rfl | rfl | rfl <;> rfl
theorem OwnI.lit1 (w : World) (x : Int) : OwnI (w.alloc (.cells #[.int .i64 x] 3)) w.heap.size (some ⟨w.heap.size, 0, none⟩) 1 1 [x] :=
  World.ownsRow_lit w #[.int .i64 x] 1 (Nat.le_refl _) (by simp [maxLen]) rfl


set_option maxHeartbeats 2000000 in
theorem l2Satisfied_ind (z : Nat) : ∀ (s : ByteArray) (t : Fo) (a : Option Addr) (n cp : Nat) (xs : List Int) (w : World), s.size ≤ z → z ≤ 1000000 → byt s = t.str → t.wf = true → t.len = 1 → Ints w a n xs → valid xs = true →
    Calls Try.prog 102 #[.string s, .slice a n cp] w fun e w' => e = .returned (.bool (sat (mask xs) t)) ∧ Ext none w w' := by
  induction z with
  | zero =>
    intro s t a n cp xs w hz _ hb _ hl
    have h0 : t ≠ .nil := Fo.ne_nil (by omega)
    have := str_pos h0
    rw [← size_str hb] at this
    omega
  | succ z ih =>
    intro s t a n cp xs w hz hz2 hb hw hl hx hv
    have IH := Lib.hid ih
    have HV := Lib.hid hv
    clear ih hv
    rcases one_tree hw hl with ⟨m, rfl, h1, h6⟩ | ⟨k, F, rfl, h1, hk, h6, hwF⟩
    · obtain ⟨h0, hbyte, hsz⟩ := leaf_byte hb h1 h6
      have hfin := Lib.hid (show cont xs (m : Int) = sat (mask xs) (Fo.leaf m .nil) from by rw [cont_valid _ HV.out, sat_leaf])
      have HB := Lib.hid hbyte
      have hsub : ((s[0]'h0).toNat : Int) - 48 = (m : Int) := by rw [hbyte]; omega
      have hszb : ((s.size : Int) == 1) = true := by rw [hsz]; rfl
      have hlo : (49 : Int) ≤ ((s[0]'h0).toNat : Int) := by omega
      have hhi : ((s[0]'h0).toNat : Int) ≤ 54 := by omega
      clear hbyte hsz hb
      go_enter Try.func102, Try.ntmps102
      go_wp2_with fail
      refine (l1Contains_any hx).mono ?_; rintro e w_ ⟨rfl, rfl⟩
      go_wp2_with fail
      go_ret
      exact ⟨by rw [← hfin.out]; rfl, Ext.refl _ _⟩
    · obtain ⟨h0, hbyte, hsz, hFs⟩ := gate_byte hb h1 (by omega)
      have HBY := Lib.hid hbyte
      have hsub : ((s[0]'h0).toNat : Int) - 48 = (k : Int) := by rw [hbyte]; omega
      have hlo : (49 : Int) ≤ ((s[0]'h0).toNat : Int) := by omega
      have hhi : ((s[0]'h0).toNat : Int) ≤ 54 := by omega
      clear hbyte
      have hszb : ((s.size : Int) == 1) = false := by rw [beq_eq_false_iff_ne]; omega
      have hF := Lib.hid (show F ≠ .nil from Fo.ne_nil (by omega))
      have HFW := Lib.hid hwF
      have HB := Lib.hid hb
      have hsg := Lib.hid (sat_gate (mask xs) k F)
      clear hb hw hl hwF
      go_enter Try.func102, Try.ntmps102
      go_wp2_with fail
      refine (l2Parts_any (by omega) HB.out HFW.out hF.out h6).mono ?_; rintro e w1 ⟨a1, n1, c1, ps, rfl, hop, hps, he1⟩
      have hn1 := Lib.hid ((parts_len hps).symm.trans hop.len)
      have hn6 : n1 ≤ 6 := by have := hn1.out; omega
      have HPS := Lib.hid hps
      clear hps
      replace hx := hx.ext he1
      go_wp2_with fail
      go_loopw [7, 8] (fun v i wr => ∃ (q g : Nat), q ≤ n1 ∧ i = .int .i64 q ∧ v = .int .i64 g ∧ g ≤ q ∧ Hid ((takeF q F).cnt (mask xs) = g) ∧ Ext none w wr ∧ OwnS wr w.heap.size a1 n1 c1 ps ∧ Ints wr a n xs)
        (fun _ i _ => n1 - (intOf i).toNat)
      case atStart => exact ⟨0, 0, by omega, rfl, rfl, by omega, takeF_cnt0 _ _, he1, hop, hx⟩
      case round =>
        obtain ⟨q, g, hq, rfl, rfl, hgq, hg, he, hop', hx'⟩ := hrel
        by_cases hlt : q < n1
        · obtain ⟨b, off, p, rfl, hp, hc⟩ := hop'.cell hlt
          obtain ⟨u, hu, hpu⟩ := parts_at HPS.out hp
          have hum := List.mem_of_getElem? hu
          have huw := trees_wf HFW.out u hum
          have hple : p.size ≤ z := by
            have := str_le F u hum
            rw [size_str hpu]; omega
          have hst := Lib.hid (cnt_step (mask xs) q F u hu)
          have h1 := Lib.hid (cnt_one (mask xs) u huw.2)
          have HU := Lib.hid huw
          have HP := Lib.hid hpu
          clear hu hum huw hpu hp
          go_wp2_with fail
          refine (IH.out p u _ _ _ xs _ hple (by omega) HP.out HU.out.1 HU.out.2 hx' HV.out).mono ?_; rintro e w3 ⟨rfl, he3⟩
          have hop3 := hop'.ext0 he3
          have hx3 := hx'.ext he3
          have heT := he.trans he3
          cases hsat : sat (mask xs) u
          · go_wp2_with fail
            go_roundw
            case rel => exact ⟨q + 1, g, by omega, by go_num, rfl, by omega, by unfold Hid; rw [hst.out, hg.out, h1.out, hsat]; rfl, heT, hop3, hx3⟩
            case measure => simp [intOf]; omega
          · go_wp2_with fail
            go_roundw
            case rel => exact ⟨q + 1, g + 1, by omega, by go_num, by go_num, by omega, by unfold Hid; rw [hst.out, hg.out, h1.out, hsat]; rfl, heT, hop3, hx3⟩
            case measure => simp [intOf]; omega
        · obtain rfl : q = n1 := by omega
          have hfin := Lib.hid (show sat (mask xs) (Fo.gate k F .nil) = decide (k ≤ g) from by rw [hsg.out, ← hg.out, ← hn1.out, takeF_all])
          by_cases hkg : k ≤ g
          · have hkI : (k : Int) ≤ (g : Int) := by omega
            go_wp2_with fail
            go_ret
            exact ⟨by rw [hfin.out, decide_eq_true hkg]; rfl, he⟩
          · have hkI : ¬ (k : Int) ≤ (g : Int) := by omega
            go_wp2_with fail
            go_ret
            exact ⟨by rw [hfin.out, decide_eq_false hkg]; rfl, he⟩



end Go.Proofs.Ytnifgfnhcjhodaa
