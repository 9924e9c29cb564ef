/- The laws RangesParses and RangesTexts, stepped through. -/
import Derived.Test.YtochmoadmdmcbaaGreatDoorAmZ8
import Derived.Test.YtochmoadmdmcbaaGreatDoorAmZ9
namespace Go.Am.SZ
open Go Go.RowKit Go.Am.Q
set_option maxRecDepth 100000
set_option linter.unusedVariables false
set_option linter.unusedSimpArgs false
variable {fs : Nat → Option D} {ro : Nat} {h : Hp}

theorem aftG {h h2 : Hp} {x V0 : V} {l : List Rg} (hgr : ground V0 = true → x = .nsl) (hw : ∀ b x, h.get b = some x → b < h.nx) (hs : SlG h2 x l) (hf : Fr h h2) :
    SlG (if ground V0 = true then h else h2) x l ∧ Fr h (if ground V0 = true then h else h2) := by
  by_cases hg : ground V0 = true
  · have hx := hgr hg
    subst hx
    have hl := List.eq_nil_of_length_eq_zero hs.1
    rw [hl, if_pos hg]
    exact ⟨⟨rfl, rfl⟩, Fr.refl hw⟩
  · rw [if_neg hg]
    exact ⟨hs, hf⟩
theorem own_gr1 {x : V} {lo : Nat} {k : IntKind} {n m : Int} (ho : Own lo x) : ground (.tup [.agg [x], .int k n, .int k m]) = true → x = .nsl := by
  rcases ho with rfl | ⟨b, o, j, rfl, _⟩
  · exact fun _ => rfl
  · intro h; cases h
theorem own_gr2 {x : V} {lo : Nat} {k : IntKind} {n m : Int} (ho : Own lo x) : ground (.tup [x, .int k n, .int k m]) = true → x = .nsl := by
  rcases ho with rfl | ⟨b, o, j, rfl, _⟩
  · exact fun _ => rfl
  · intro h; cases h

theorem chain_ok : ∀ {l : List Rg} {a : Int}, Chain a l → ∀ p ∈ l, RgOk p
  | [], _, _, _, hp => by cases hp
  | r :: l, a, h, p, hp => by
    obtain ⟨h1, h2, h3, h4, h5⟩ := h
    rcases List.mem_cons.1 hp with rfl | hp
    · exact ⟨h2, h3, h4⟩
    · exact chain_ok h5 p hp
theorem fine_ok {l : List Rg} (h : ∀ p ∈ l, RgOk p) : Fine l := fun p hp => ⟨(h p hp).1, Int.le_of_lt (h p hp).2.1, (h p hp).2.2⟩
theorem chain_len : ∀ {l : List Rg} {a : Int}, Chain a l → 2 * l.length ≤ (text l).length + 1
  | [], _, _ => by simp
  | [r], _, _ => by
    unfold text itemT
    simp [joinS]
    have := List.length_pos_iff.2 (digs_ne r.1.toNat)
    omega
  | r :: y :: l, a, h => by
    have ih := chain_len h.2.2.2.2
    have := List.length_pos_iff.2 (itemT_ne r)
    unfold text at *
    simp only [List.map_cons, joinS, List.length_append, List.length_cons] at *
    omega

theorem parseW_err : ∀ (ws : List Bs) (k : Nat) (a : Int) (at_ p e : Nat), parseW ws k a at_ = .error (p, e) → e ≠ 0
  | [], _, _, _, _, _, h => by simp [parseW] at h
  | w :: r, k, a, at_, p, e, h => by
    simp only [parseW] at h
    split at h
    · simp only [Except.error.injEq, Prod.mk.injEq] at h
      omega
    · split at h
      · rename_i er hit
        simp only [Except.error.injEq, Prod.mk.injEq] at h
        have := item_err hit
        omega
      · split at h
        · rename_i e' he
          simp only [Except.error.injEq] at h
          subst h
          exact parseW_err r _ _ _ _ _ he
        · cases h
def ParseR (t : Bs) (l : List Rg) (p e : Nat) : Prop := (parse t = .ok l ∧ p = 0 ∧ e = 0) ∨ (parse t = .error (p, e) ∧ l = [] ∧ e ≠ 0)
theorem ParseR.uniq {t : Bs} {l l' : List Rg} {p e p' e' : Nat} (h : ParseR t l p e) (h' : ParseR t l' p' e') : l = l' ∧ p = p' ∧ e = e' := by
  rcases h with ⟨h1, rfl, rfl⟩ | ⟨h1, rfl, h2⟩ <;> rcases h' with ⟨h3, rfl, rfl⟩ | ⟨h3, rfl, h4⟩
  · rw [h1] at h3; cases h3; exact ⟨rfl, rfl, rfl⟩
  · rw [h1] at h3; cases h3
  · rw [h1] at h3; cases h3
  · rw [h1] at h3; cases h3; exact ⟨rfl, rfl, rfl⟩
theorem ParseR.ok {t : Bs} {l : List Rg} {p e : Nat} (h : ParseR t l p e) : (∀ q ∈ l, RgOk q) ∧ l.length ≤ t.length + 1 ∧ (e = 0 → parse t = .ok l ∧ text l = t) := by
  rcases h with ⟨h1, rfl, rfl⟩ | ⟨h1, rfl, h2⟩
  · obtain ⟨h3, h4⟩ := text_parse h1
    have := chain_len h4
    rw [h3] at this
    exact ⟨chain_ok h4, by omega, fun _ => ⟨h1, h3⟩⟩
  · exact ⟨fun q hq => (by cases hq), by simp, fun h => absurd h h2⟩
theorem parse_err {t : Bs} {p e : Nat} (h : parse t = .error (p, e)) : e ≠ 0 := by
  unfold parse at h
  split at h
  · cases h
  · exact parseW_err _ _ _ _ _ _ h

theorem z6' {t : Bs} (hf : fs 6 = some (.code F6)) (hf19 : fs 19 = some (.orc orcSplit)) (hf20 : fs 20 = some (.code F20)) (hf44 : fs 44 = some (.code F44)) (hf43 : fs 43 = some (.orc (orcPure gCut))) (hf61 : fs 61 = some (.orc (orcPure gTrim))) (hf62 : fs 62 = some (.orc (orcPure gAtoi)))
    (ht : t.length ≤ 1000000) (hro : ro ≤ h.nx) (hw : ∀ b x, h.get b = some x → b < h.nx) {Q : V → Hp → Prop}
    (hq : ∀ l v (p e : Nat) h', ParseR t l p e → SlG h' v l → Own h.nx v → Fr h h' → Q (.tup [.agg [v], .int .i64 (p : Int), .int .i64 (e : Int)]) h') : Ev fs ro 6 [.str t] h Q :=
  z6 hf hf19 hf20 hf44 hf43 hf61 hf62 ht hro hw (fun l v h' h1 h2 h3 h4 => hq l v 0 0 h' (.inl ⟨h1, rfl, rfl⟩) h2 h3 h4)
    (fun p e h' h1 h2 => hq [] .nsl p e h' (.inr ⟨h1, rfl, parse_err h1⟩) ⟨rfl, rfl⟩ (.inl rfl) h2)
theorem z7' {t : Bs} (hf : fs 7 = some (.code F7)) (hf21 : fs 21 = some (.code F21)) (hf45 : fs 45 = some (.code F45))
    (ht : t.length ≤ 1000000) (hro : ro ≤ h.nx) (hw : ∀ b x, h.get b = some x → b < h.nx) {Q : V → Hp → Prop}
    (hq : ∀ l v (p e : Nat) h', ParseR t l p e → SlG h' v l → Own h.nx v → Fr h h' → Q (.tup [v, .int .i64 (p : Int), .int .i64 (e : Int)]) h') : Ev fs ro 7 [.str t] h Q :=
  z7 hf hf21 hf45 ht hro hw (fun l v h' h1 h2 h3 h4 => hq l v 0 0 h' (.inl ⟨h1, rfl, rfl⟩) h2 h3 h4)
    (fun p e h' h1 h2 => hq [] .nsl p e h' (.inr ⟨h1, rfl, parse_err h1⟩) ⟨rfl, rfl⟩ (.inl rfl) h2)

set_option maxHeartbeats 4000000 in
theorem z3 {t : Bs} (hf3 : fs 3 = some (.code F3)) (hf8 : fs 8 = some (.orc orcKnown)) (hf9 : fs 9 = some (.code F9)) (hf24 : fs 24 = some (.code F24)) (hf34 : fs 34 = some (.code F34)) (hf17 : fs 17 = some (.code F17)) (hf18 : fs 18 = some (.code F18)) (hf25 : fs 25 = some (.code F25))
    (hf6 : fs 6 = some (.code F6)) (hf19 : fs 19 = some (.orc orcSplit)) (hf20 : fs 20 = some (.code F20)) (hf44 : fs 44 = some (.code F44)) (hf43 : fs 43 = some (.orc (orcPure gCut))) (hf61 : fs 61 = some (.orc (orcPure gTrim))) (hf62 : fs 62 = some (.orc (orcPure gAtoi)))
    (hf7 : fs 7 = some (.code F7)) (hf21 : fs 21 = some (.code F21)) (hf45 : fs 45 = some (.code F45)) (hf10 : fs 10 = some (.code F10)) (hf26 : fs 26 = some (.orc (orcPure gItoa))) (hf27 : fs 27 = some (.orc orcJoin))
    (hw : ∀ b x, h.get b = some x → b < h.nx) (hro : ro ≤ h.nx) {Q : V → Hp → Prop} (hq : ∀ h', Q (.bool true) h') : Ev fs ro 3 [.str t] h Q := by
  refine Ev_fn hf3 rfl rfl rfl rfl ?_
  refine WP_seq ?_
  refine WP_reg ?_
  repeat (first | (refine WPO_pl rfl ?_; simp) | (refine WPO_gpl rfl ?_; simp) | (refine WPO_gcall ?_; simp) | (refine WPO_nil ?_; simp))
  obtain ⟨tt, htt⟩ : ∃ tt, tt = t.take 300 := ⟨_, rfl⟩
  have hlt : tt.length ≤ 300 := by rw [htt, List.length_take]; omega
  obtain ⟨M, hM⟩ : ∃ M : Env → Hp → Prop, M = fun e' h' => h = h' ∧ e' = [(0, .str tt)] := ⟨_, rfl⟩
  refine WP_mid M ?_ ?_
  · refine WP_reg ?_
    by_cases c1 : 300 < t.length
    · have e1 : (300 : Int) < (t.length : Int) := by omega
      have e2 : (300 : Int) ≤ (t.length : Int) := by omega
      have e3 : 300 ≤ t.length := by omega
      repeat (first | (refine WPO_pl rfl ?_; simp [mins, fold2, min2, e1, e2, e3]) | (refine WPO_gpl rfl ?_; simp [mins, fold2, min2, e1, e2, e3]) | (refine WPO_gcall ?_; simp [mins, fold2, min2, e1, e2, e3]) | (refine WPO_nil ?_; simp [mins, fold2, min2, e1, e2, e3]))
      rw [hM, htt]
      exact ⟨rfl, rfl⟩
    · by_cases c2 : t.length = 300
      · have e1 : (t.length : Int) = 300 := by omega
        repeat (first | (refine WPO_pl rfl ?_; simp [mins, fold2, min2, e1, c2]) | (refine WPO_gpl rfl ?_; simp [mins, fold2, min2, e1, c2]) | (refine WPO_gcall ?_; simp [mins, fold2, min2, e1, c2]) | (refine WPO_nil ?_; simp [mins, fold2, min2, e1, c2]))
        rw [hM, htt]
        exact ⟨rfl, rfl⟩
      · have e1 : ¬ (300 : Int) < (t.length : Int) := by omega
        have e2 : ((300 : Int) < (t.length : Int)) = False := by simp; omega
        have e4 : t.take 300 = t := List.take_of_length_le (by omega)
        have e5 : (300 : Int) < (t.length : Int) ↔ False := by simp; omega
        repeat (first | (refine WPO_pl rfl ?_; simp [mins, fold2, min2, e1, e2]) | (refine WPO_gpl rfl ?_; simp [mins, fold2, min2, e1, e2]) | (refine WPO_gcall ?_; simp [mins, fold2, min2, e1, e2]) | (refine WPO_nil ?_; simp [mins, fold2, min2, e1, e2]))
        rw [hM, htt, e4]
        exact ⟨rfl, rfl⟩
  intro e' h' hh
  rw [hM] at hh
  obtain ⟨rfl, rfl⟩ := hh
  clear hM M
  refine WP_seq ?_
  refine WP_reg ?_
  repeat (first | (refine WPO_pl rfl ?_; simp) | (refine WPO_gpl rfl ?_; simp) | (refine WPO_gcall ?_; simp) | (refine WPO_nil ?_; simp))
  refine WPO_call (g := 6) (a := []) (b := []) (args := [.str tt]) rfl rfl ?_
  simp
  have hfh := Fr.refl hw
  refine z6' hf6 hf19 hf20 hf44 hf43 hf61 hf62 (by omega) (Nat.le_refl _) hw fun l x p e h1 hpr hsx hox hfx => ?_
  obtain ⟨hsR, hfR⟩ := aftG (own_gr1 (k := .i64) (n := (p : Int)) (m := (e : Int)) hox) hw hsx hfx
  have hgr : ((0 : Nat) = 0) := rfl
  generalize (if ground (V.tup [V.agg [x], V.int .i64 (p : Int), V.int .i64 (e : Int)]) = true then h else h1) = hR at *
  have hg2a : (hR.new (.cells 0 [.nsl])).get hR.nx = some (.cells 0 [.nsl]) := Hp.get_new_same
  repeat (first | (refine WPO_pl rfl ?_; simp) | (refine WPO_gpl rfl ?_; simp) | (refine WPO_gcall ?_; simp) | (refine WPO_nil ?_; simp))
  obtain ⟨xc1, xc2⟩ := hox.cells
  refine WPO_op rfl ?_
  refine OB_store (b := hR.nx) (o := 0) (v := .agg [x]) (l' := [x]) rfl (by simp) (by have := hfR.nx; omega) rfl (by simp [xc2]) hg2a rfl ?_
  have hf2s : Fr hR ((hR.new (.cells 0 [.nsl])).set hR.nx (.cells 0 [x])) := ((Fr.refl hfR.wf).new _).set hfR.wf (Nat.le_refl _) hg2a _
  have hg2 : ((hR.new (.cells 0 [.nsl])).set hR.nx (.cells 0 [x])).get hR.nx = some (.cells 0 [x]) := Hp.get_set_same hg2a
  generalize ((hR.new (.cells 0 [.nsl])).set hR.nx (.cells 0 [x])) = h2 at *
  simp
  repeat (first | (refine WPO_pl rfl ?_; simp) | (refine WPO_gpl rfl ?_; simp) | (refine WPO_gcall ?_; simp) | (refine WPO_nil ?_; simp))
  refine WP_seq ?_
  refine WP_reg ?_
  repeat (first | (refine WPO_pl rfl ?_; simp) | (refine WPO_gpl rfl ?_; simp) | (refine WPO_gcall ?_; simp) | (refine WPO_nil ?_; simp))
  refine WPO_call (g := 7) (a := []) (b := []) (args := [.str tt]) rfl rfl ?_
  simp
  have hs2 : SlG h2 x l := Sl.fr hf2s hsR
  have hfh2 := hfR.trans hf2s
  refine z7' hf7 hf21 hf45 (by omega) (Nat.le_refl _) hf2s.wf fun l' y p' e' h3 hpr' hsy hoy hfy => ?_
  obtain ⟨rfl, rfl, rfl⟩ := hpr.uniq hpr'
  obtain ⟨hsT, hfT⟩ := aftG (own_gr2 (k := .i64) (n := (p : Int)) (m := (e : Int)) hoy) hf2s.wf hsy hfy
  generalize (if ground (V.tup [y, V.int .i64 (p : Int), V.int .i64 (e : Int)]) = true then h2 else h3) = hT at *
  have hg4 := hfT.sub _ _ hg2
  have hsx4 : SlG hT x l := Sl.fr hfT hs2
  obtain ⟨q1, q2, q3⟩ := hpr.ok
  repeat (first | (refine WPO_pl rfl ?_; simp) | (refine WPO_gpl rfl ?_; simp) | (refine WPO_gcall ?_; simp) | (refine WPO_nil ?_; simp))
  refine WP_seq ?_
  refine WP_reg ?_
  refine WPO_call (g := 8) (a := []) (b := []) (args := []) rfl rfl ?_
  refine Ev_orc hf8 (r := .bool true) (h' := hT) rfl ?_
  simp
  have hll : ([x] : List V).length = 1 := rfl
  repeat (first | (refine WPO_pl rfl ?_; simp [loadV_ptr hg4, loadN_all hll]) | (refine WPO_gpl rfl ?_; simp [loadV_ptr hg4, loadN_all hll]) | (refine WPO_gcall ?_; simp [loadV_ptr hg4, loadN_all hll]) | (refine WPO_nil ?_; simp [loadV_ptr hg4, loadN_all hll]))
  refine WPO_call (g := 9) (a := []) (b := []) (args := [.agg [x], y]) rfl rfl ?_
  simp
  refine ev12 hf9 hf24 hf34 hf17 hf18 hf25 hsx4 xc1 hsT hfT.wf (by omega) (fine_ok q1) fun h5 => ?_
  simp
  by_cases he : e = 0
  · subst he
    obtain ⟨q4, q5⟩ := q3 rfl
    repeat (first | (refine WPO_pl rfl ?_; simp [loadV_ptr hg4, loadN_all hll]) | (refine WPO_gpl rfl ?_; simp [loadV_ptr hg4, loadN_all hll]) | (refine WPO_gcall ?_; simp [loadV_ptr hg4, loadN_all hll]) | (refine WPO_nil ?_; simp [loadV_ptr hg4, loadN_all hll]))
    refine WPO_call (g := 10) (a := []) (b := []) (args := [.agg [x]]) rfl rfl ?_
    simp
    refine z10 hf10 hf26 hf27 hsx4 xc1 (by omega) q1 hfT.wf (Nat.le_refl _) fun h6 => ?_
    rw [q5]
    simp
    repeat (first | (refine WPO_pl rfl ?_; simp) | (refine WPO_gpl rfl ?_; simp) | (refine WPO_gcall ?_; simp) | (refine WPO_nil ?_; simp))
    simp [WP_ret, F3]
    exact hq _
  · have e1 : ((e : Int) == 0) = false := beq_eq_false_iff_ne.2 (by omega)
    have e2 : ¬ (e : Int) = 0 := by omega
    repeat (first | (refine WPO_pl rfl ?_; simp [e1, e2, he]) | (refine WPO_gpl rfl ?_; simp [e1, e2, he]) | (refine WPO_gcall ?_; simp [e1, e2, he]) | (refine WPO_nil ?_; simp [e1, e2, he]))
    simp [WP_ret, F3]
    exact hq _
theorem norm_chain : ∀ {l : List Rg} {a : Int}, Norm l → Fine l → (∀ p ∈ l, a < p.1) → Chain a l
  | [], _, _, _, _ => trivial
  | r :: l, a, hn, hf, ha => by
    obtain ⟨h1, h2⟩ := hn
    rw [List.pairwise_cons] at h2
    have hr := hf r List.mem_cons_self
    exact ⟨ha r List.mem_cons_self, hr.1, h1 r List.mem_cons_self, hr.2.2,
      norm_chain ⟨fun p hp => h1 p (List.mem_cons_of_mem _ hp), h2.2⟩ (fun p hp => hf p (List.mem_cons_of_mem _ hp)) fun p hp => h2.1 p hp⟩

set_option maxHeartbeats 4000000 in
theorem z4 {v : V} {l : List Rg} (hf4 : fs 4 = some (.code F4)) (hf11 : fs 11 = some (.code F11)) (hf28 : fs 28 = some (.code F28)) (hf15 : fs 15 = some (.code F15)) (hf31 : fs 31 = some (.code F31)) (hf51 : fs 51 = some (.code F51)) (hf32 : fs 32 = some (.code F32)) (hf33 : fs 33 = some (.code F33)) (hf34 : fs 34 = some (.code F34)) (hf35 : fs 35 = some (.orc (orcSort 36))) (hf39 : fs 39 = some (.code F39))
    (hf29 : fs 29 = some (.code F29)) (hf50 : fs 50 = some (.code F50)) (hf9 : fs 9 = some (.code F9)) (hf24 : fs 24 = some (.code F24)) (hf17 : fs 17 = some (.code F17)) (hf18 : fs 18 = some (.code F18)) (hf25 : fs 25 = some (.code F25))
    (hf8 : fs 8 = some (.orc orcKnown)) (hf12 : fs 12 = some (.code F12)) (hf14 : fs 14 = some (.code F14)) (hf13 : fs 13 = some (.code F13)) (hf30 : fs 30 = some (.code F30))
    (hf6 : fs 6 = some (.code F6)) (hf19 : fs 19 = some (.orc orcSplit)) (hf20 : fs 20 = some (.code F20)) (hf44 : fs 44 = some (.code F44)) (hf43 : fs 43 = some (.orc (orcPure gCut))) (hf61 : fs 61 = some (.orc (orcPure gTrim))) (hf62 : fs 62 = some (.orc (orcPure gAtoi)))
    (hf10 : fs 10 = some (.code F10)) (hf26 : fs 26 = some (.orc (orcPure gItoa))) (hf27 : fs 27 = some (.orc orcJoin))
    (hv : SlG h v l) (hsh : Shape v) (hw : ∀ b x, h.get b = some x → b < h.nx) (hro : ro ≤ h.nx) {Q : V → Hp → Prop} (hq : ∀ h', Q (.bool true) h') : Ev fs ro 4 [v] h Q := by
  refine Ev_fn hf4 rfl rfl rfl rfl ?_
  refine WP_seq ?_
  refine WP_reg ?_
  repeat (first | (refine WPO_pl rfl ?_; simp) | (refine WPO_gpl rfl ?_; simp) | (refine WPO_gcall ?_; simp) | (refine WPO_nil ?_; simp))
  refine WP_seq ?_
  refine WP_reg ?_
  repeat (first | (refine WPO_pl rfl ?_; simp) | (refine WPO_gpl rfl ?_; simp) | (refine WPO_gcall ?_; simp) | (refine WPO_nil ?_; simp))
  refine WPO_call (g := 11) (a := []) (b := []) (args := [v]) rfl rfl ?_
  simp
  refine ev13 hf11 hf28 hf15 hf31 hf51 hf32 hf33 hf34 hf35 hf39 hf29 hf50 hf9 hf24 hf17 hf18 hf25 hv hsh hw (Nat.le_refl _) fun x y h1 hsx hsy hox hoy hfx => ?_
  obtain ⟨hsX, hsY, hfR⟩ := aft3 (b := true) hw hsx hsy hox hoy hfx
  generalize (if ground (V.tup [V.agg [x], y, V.bool true]) = true then h else h1) = hR at *
  have hno := refL_norm (l.take 60)
  have hfi := refL_fine (l.take 60)
  have hle : (refL (l.take 60)).length ≤ 60 := by
    have := refL_len (l.take 60)
    rw [List.length_take] at this
    omega
  generalize refL (l.take 60) = s at *
  have hok : ∀ p ∈ s, RgOk p := fun p hp => ⟨(hfi p hp).1, hno.1 p hp, (hfi p hp).2.2⟩
  have hch : Chain (-1) s := norm_chain hno hfi fun p hp => by have := (hfi p hp).1; omega
  have hpt : parse (text s) = .ok s := parse_text hch (by omega)
  have htl : (text s).length ≤ 28 * s.length := by
    have := text_take_len hok s.length (Nat.le_refl _)
    rwa [List.take_length] at this
  have hg2a : (hR.new (.cells 0 [.nsl])).get hR.nx = some (.cells 0 [.nsl]) := Hp.get_new_same
  repeat (first | (refine WPO_pl rfl ?_; simp) | (refine WPO_gpl rfl ?_; simp) | (refine WPO_gcall ?_; simp) | (refine WPO_nil ?_; simp))
  obtain ⟨xc1, xc2⟩ := hox.cells
  refine WPO_op rfl ?_
  refine OB_store (b := hR.nx) (o := 0) (v := .agg [x]) (l' := [x]) rfl (by simp) (by have := hfR.nx; omega) rfl (by simp [xc2]) hg2a rfl ?_
  have hf2s : Fr hR ((hR.new (.cells 0 [.nsl])).set hR.nx (.cells 0 [x])) := ((Fr.refl hfR.wf).new _).set hfR.wf (Nat.le_refl _) hg2a _
  have hg2 : ((hR.new (.cells 0 [.nsl])).set hR.nx (.cells 0 [x])).get hR.nx = some (.cells 0 [x]) := Hp.get_set_same hg2a
  generalize ((hR.new (.cells 0 [.nsl])).set hR.nx (.cells 0 [x])) = h2 at *
  simp
  repeat (first | (refine WPO_pl rfl ?_; simp) | (refine WPO_gpl rfl ?_; simp) | (refine WPO_gcall ?_; simp) | (refine WPO_nil ?_; simp))
  have hs2 : SlG h2 x s := Sl.fr hf2s hsX
  have hy2 : SlG h2 y s := Sl.fr hf2s hsY
  have hll : ([x] : List V).length = 1 := rfl
  refine WP_seq ?_
  refine WP_reg ?_
  repeat (first | (refine WPO_pl rfl ?_; simp [loadV_ptr hg2, loadN_all hll]) | (refine WPO_gpl rfl ?_; simp [loadV_ptr hg2, loadN_all hll]) | (refine WPO_gcall ?_; simp [loadV_ptr hg2, loadN_all hll]) | (refine WPO_nil ?_; simp [loadV_ptr hg2, loadN_all hll]))
  refine WPO_call (g := 10) (a := []) (b := []) (args := [.agg [x]]) rfl rfl ?_
  simp
  refine z10 hf10 hf26 hf27 hs2 xc1 (by omega) hok hf2s.wf (Nat.le_refl _) fun h6 => ?_
  simp
  repeat (first | (refine WPO_pl rfl ?_; simp) | (refine WPO_gpl rfl ?_; simp) | (refine WPO_gcall ?_; simp) | (refine WPO_nil ?_; simp))
  refine WP_seq ?_
  refine WP_reg ?_
  repeat (first | (refine WPO_pl rfl ?_; simp) | (refine WPO_gpl rfl ?_; simp) | (refine WPO_gcall ?_; simp) | (refine WPO_nil ?_; simp))
  refine WPO_call (g := 6) (a := []) (b := []) (args := [.str (text s)]) rfl rfl ?_
  simp
  refine z6' hf6 hf19 hf20 hf44 hf43 hf61 hf62 (by omega) (Nat.le_refl _) hf2s.wf fun l2 z p e h3 hpr hsz hoz hfz => ?_
  obtain ⟨rfl, rfl, rfl⟩ := hpr.uniq (.inl ⟨hpt, rfl, rfl⟩)
  obtain ⟨hsT, hfT⟩ := aftG (own_gr1 (k := .i64) (n := ((0 : Nat) : Int)) (m := ((0 : Nat) : Int)) hoz) hf2s.wf hsz hfz
  generalize (if ground (V.tup [V.agg [z], V.int .i64 ((0 : Nat) : Int), V.int .i64 ((0 : Nat) : Int)]) = true then h2 else h3) = hT at *
  have hg5a : (hT.new (.cells 0 [.nsl])).get hT.nx = some (.cells 0 [.nsl]) := Hp.get_new_same
  repeat (first | (refine WPO_pl rfl ?_; simp) | (refine WPO_gpl rfl ?_; simp) | (refine WPO_gcall ?_; simp) | (refine WPO_nil ?_; simp))
  obtain ⟨zc1, zc2⟩ := hoz.cells
  refine WPO_op rfl ?_
  refine OB_store (b := hT.nx) (o := 0) (v := .agg [z]) (l' := [z]) rfl (by simp) (by have := hfT.nx; have := hf2s.nx; have := hfR.nx; omega) rfl (by simp [zc2]) hg5a rfl ?_
  have hf5s : Fr hT ((hT.new (.cells 0 [.nsl])).set hT.nx (.cells 0 [z])) := ((Fr.refl hfT.wf).new _).set hfT.wf (Nat.le_refl _) hg5a _
  have hg5 : ((hT.new (.cells 0 [.nsl])).set hT.nx (.cells 0 [z])).get hT.nx = some (.cells 0 [z]) := Hp.get_set_same hg5a
  generalize ((hT.new (.cells 0 [.nsl])).set hT.nx (.cells 0 [z])) = h5 at *
  simp
  repeat (first | (refine WPO_pl rfl ?_; simp) | (refine WPO_gpl rfl ?_; simp) | (refine WPO_gcall ?_; simp) | (refine WPO_nil ?_; simp))
  have hgx := hf5s.sub _ _ (hfT.sub _ _ hg2)
  have hsz5 : SlG h5 z l2 := Sl.fr hf5s hsT
  have hsx5 : SlG h5 x l2 := Sl.fr hf5s (Sl.fr hfT hs2)
  have hsy5 : SlG h5 y l2 := Sl.fr hf5s (Sl.fr hfT hy2)
  have hlz : ([z] : List V).length = 1 := rfl
  refine WP_seq ?_
  refine WP_reg ?_
  refine WPO_call (g := 8) (a := []) (b := []) (args := []) rfl rfl ?_
  refine Ev_orc hf8 (r := .bool true) (h' := h5) rfl ?_
  simp
  repeat (first | (refine WPO_pl rfl ?_; simp) | (refine WPO_gpl rfl ?_; simp) | (refine WPO_gcall ?_; simp) | (refine WPO_nil ?_; simp))
  refine WPO_call (g := 12) (a := []) (b := []) (args := [y]) rfl rfl ?_
  simp
  refine z12 hf12 hf14 hsy5 (by omega) hok fun h7 => ?_
  simp
  repeat (first | (refine WPO_pl rfl ?_; simp [loadV_ptr hgx, loadV_ptr hg5, loadN_all hll, loadN_all hlz]) | (refine WPO_gpl rfl ?_; simp [loadV_ptr hgx, loadV_ptr hg5, loadN_all hll, loadN_all hlz]) | (refine WPO_gcall ?_; simp [loadV_ptr hgx, loadV_ptr hg5, loadN_all hll, loadN_all hlz]) | (refine WPO_nil ?_; simp [loadV_ptr hgx, loadV_ptr hg5, loadN_all hll, loadN_all hlz]))
  refine WPO_call (g := 13) (a := []) (b := []) (args := [.agg [z], .agg [x]]) rfl rfl ?_
  simp
  refine ev22 hf13 hf30 hsz5 hsx5 zc1 xc1 (by omega) (by omega) hf5s.wf fun h8 => ?_
  simp
  repeat (first | (refine WPO_pl rfl ?_; simp [loadV_ptr hgx, loadV_ptr hg5, loadN_all hll, loadN_all hlz]) | (refine WPO_gpl rfl ?_; simp [loadV_ptr hgx, loadV_ptr hg5, loadN_all hll, loadN_all hlz]) | (refine WPO_gcall ?_; simp [loadV_ptr hgx, loadV_ptr hg5, loadN_all hll, loadN_all hlz]) | (refine WPO_nil ?_; simp [loadV_ptr hgx, loadV_ptr hg5, loadN_all hll, loadN_all hlz]))
  refine WPO_call (g := 9) (a := []) (b := []) (args := [.agg [z], y]) rfl rfl ?_
  simp
  refine ev12 hf9 hf24 hf34 hf17 hf18 hf25 hsz5 zc1 hsy5 hf5s.wf (by omega) hfi fun h9 => ?_
  simp
  repeat (first | (refine WPO_pl rfl ?_; simp) | (refine WPO_gpl rfl ?_; simp) | (refine WPO_gcall ?_; simp) | (refine WPO_nil ?_; simp))
  simp [WP_ret, F4]
  exact hq _
end Go.Am.SZ
