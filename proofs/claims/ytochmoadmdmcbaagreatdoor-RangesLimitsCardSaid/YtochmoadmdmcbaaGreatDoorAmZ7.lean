/- Parse and the reference's Parse, stepped through. -/
import Derived.Test.YtochmoadmdmcbaaGreatDoorAmZ5
import Derived.Test.YtochmoadmdmcbaaGreatDoorAmZ1
namespace Go.Am.SZ
open Go Go.Am.Q
set_option maxRecDepth 100000
set_option linter.unusedVariables false
set_option linter.unusedSimpArgs false
variable {fs : Nat → Option D} {ro : Nat} {h : Hp}

@[simp] theorem ground_sl {b o n c : Nat} : ground (.sl b o n c) = false := rfl

def bytesOfW (ws : List Bs) : Nat := (ws.map fun w => w.length + 1).sum
theorem words_bytes : ∀ t : Bs, bytesOfW (words t) = t.length + 1
  | [] => rfl
  | c :: r => by
    have ih := words_bytes r
    unfold words
    split
    · simp only [bytesOfW, List.map_cons, List.sum_cons, List.length_nil, List.length_cons] at *
      omega
    · split
      · rename_i hw; exact absurd hw (words_ne r)
      · rename_i w l hw
        rw [hw] at ih
        simp only [bytesOfW, List.map_cons, List.sum_cons, List.length_cons] at *
        omega
theorem parseW_append {ws : List Bs} {i : Nat} {w : Bs} (hw : ws[i]? = some w) : ws.drop i = w :: ws.drop (i + 1) := by
  have hi : i < ws.length := by
    rcases Nat.lt_or_ge i ws.length with h | h
    · exact h
    · rw [List.getElem?_eq_none h] at hw; cases hw
  rw [List.drop_eq_getElem_cons hi]
  rw [List.getElem?_eq_getElem hi] at hw
  rw [Option.some.inj hw]

/-- What has been read, and what is to come. -/
def Goes (t : Bs) (out : List Rg) (ws : List Bs) (after : Int) (at_ : Nat) : Prop :=
  parse t = match parseW ws out.length after at_ with
    | .ok l => .ok (out ++ l)
    | .error e => .error e
theorem Goes.step {t : Bs} {out : List Rg} {w : Bs} {ws : List Bs} {after : Int} {at_ : Nat} {r : Rg} (h : Goes t out (w :: ws) after at_) (hk : out.length ≠ 1024) (hi : item w after = .ok r) : Goes t (out ++ [r]) ws r.2 (at_ + w.length + 1) := by
  unfold Goes at *
  rw [h]
  simp only [parseW]
  rw [if_neg hk, hi]
  simp only [List.length_append, List.length_cons, List.length_nil]
  cases parseW ws (out.length + 1) r.2 (at_ + w.length + 1) with
  | ok l => simp
  | error e => rfl

/-- What else lies there stays. -/
theorem app_keep {h h' : Hp} {sz bytes m : Nat} {v v' : V} {news : List V} (hw : ∀ b x, h.get b = some x → b < h.nx) (ha : app ro h sz bytes v m news = some (v', h')) (hc0 : ∀ b o n c, v = .sl b o n c → c = 0) {c : Nat} {x : Blk} (hx : h.get c = some x) (hne : ∀ o n, v ≠ .sl c o n 0) : h'.get c = some x := by
  have hlt := hw c x hx
  unfold app at ha
  split at ha
  · split at ha
    · simp only [Option.some.injEq, Prod.mk.injEq] at ha
      rw [← ha.2]; exact hx
    · split at ha
      · simp only [Option.some.injEq, Prod.mk.injEq] at ha
        rw [← ha.2, Hp.get_new_ne (by omega)]; exact hx
      · cases ha
  · rename_i b o n k
    have hk := hc0 b o n k rfl
    subst hk
    split at ha
    · simp only [Option.some.injEq, Prod.mk.injEq] at ha
      rw [← ha.2]; exact hx
    · split at ha
      · simp only [if_true] at ha
        split at ha
        · simp only [Option.bind_eq_some_iff, Option.some.injEq, Prod.mk.injEq] at ha
          obtain ⟨olds, _, _, rfl⟩ := ha
          have hbc : b ≠ c := fun e => hne o n (by rw [e])
          rw [Hp.get_new_ne (h := h.del b) (by simp only [Hp.nx_del]; omega), Hp.get_del_ne hbc]
          exact hx
        · cases ha
      · cases ha
  · split at ha
    · simp only [Option.some.injEq, Prod.mk.injEq] at ha
      rw [← ha.2]; exact hx
    · cases ha
  · cases ha

theorem app_new2 {h0 h2 : Hp} {out : List Rg} {p : Rg} {vo : V} (hw0 : ∀ b x, h0.get b = some x → b < h0.nx) (hro : ro ≤ h0.nx) (hfr : Fr h0 h2) (hvo : SlG h2 vo out) (hown : Own h0.nx vo) (hlen : out.length ≤ 1000000) {e : Env} {x y : A} {Q : V × Hp → Prop}
    (hx : x.ev e = some vo) (hy : y.ev e = some (.sl h2.nx 0 1 2)) (hq : ∀ v' h', SlG h' v' (out ++ [p]) → Own h0.nx v' → Fr h0 h' → (∀ c L, h2.get c = some (.cells 0 L) → h'.get c = some (.cells 0 L)) → Q (v', h')) :
    OB (op1 ro e (h2.new (.cells 2 [V.int .i64 p.1, V.int .i64 p.2])) (.app 2 16 x y)) Q := by
  obtain ⟨v', h', ha, hs, ho, hf, hsh⟩ := app_range (p := p) hw0 hro hfr hvo hown hlen
  rw [op1_app (v := vo) (b := h2.nx) (o := 0) (m := 1) (c := 2) (h' := h') hx hy hsh rfl ha, OB_some]
  have hfr3 : Fr h0 (h2.new (.cells 2 [V.int .i64 p.1, V.int .i64 p.2])) := hfr.new _
  refine hq v' h' hs ho hf fun c L hc => ?_
  refine app_keep hfr3.wf ha (fun b o n k hv => ?_) (c := c) (by rw [Hp.get_new_ne (by have := hfr.wf c _ hc; omega)]; exact hc) fun o n hv => ?_
  · rcases hown with h1 | ⟨b', o', n', h1, _⟩
    · rw [h1] at hv; cases hv
    · rw [h1] at hv; cases hv; rfl
  · subst hv
    obtain ⟨_, hs2⟩ := hvo
    obtain ⟨L2, hg, _, _⟩ := shown_spec hs2
    rw [hc] at hg
    cases hg

theorem app_new {h0 h2 : Hp} {out : List Rg} {p : Rg} {vo : V} (hw0 : ∀ b x, h0.get b = some x → b < h0.nx) (hro : ro ≤ h0.nx) (hfr : Fr h0 h2) (hvo : SlG h2 vo out) (hown : Own h0.nx vo) (hlen : out.length ≤ 1000000) {e : Env} {x y : A} {Q : V × Hp → Prop}
    (hx : x.ev e = some vo) (hy : y.ev e = some (.sl h2.nx 0 1 2)) (hq : ∀ v' h', SlG h' v' (out ++ [p]) → Own h0.nx v' → Fr h0 h' → Q (v', h')) :
    OB (op1 ro e (h2.new (.cells 2 [V.int .i64 p.1, V.int .i64 p.2])) (.app 2 16 x y)) Q := by
  obtain ⟨v', h', ha, hs, ho, hf, hsh⟩ := app_range (p := p) hw0 hro hfr hvo hown hlen
  rw [op1_app (v := vo) (b := h2.nx) (o := 0) (m := 1) (c := 2) (h' := h') hx hy hsh rfl ha, OB_some]
  exact hq v' h' hs ho hf

theorem item_err {w : Bs} {a : Int} {er : Nat} (hit : item w a = .error er) : (er : Int) ≠ 0 := by
  have : er = 2 ∨ er = 3 ∨ er = 32 := by
    unfold item at hit
    split at hit
    · split at hit
      · simp only [Except.error.injEq] at hit; omega
      · split at hit
        · simp only [Except.error.injEq] at hit; omega
        · cases hit
    · simp only [Except.error.injEq] at hit; omega
  omega

set_option maxHeartbeats 4000000 in
theorem z6 {t : Bs} (hf : fs 6 = some (.code F6)) (hf19 : fs 19 = some (.orc orcSplit)) (hf20 : fs 20 = some (.code F20)) (hf44 : fs 44 = some (.code F44)) (hf43 : fs 43 = some (.orc (orcPure gCut))) (hf61 : fs 61 = some (.orc (orcPure gTrim))) (hf62 : fs 62 = some (.orc (orcPure gAtoi)))
    (ht : t.length ≤ 1000000) (hro : ro ≤ h.nx) (hw : ∀ b x, h.get b = some x → b < h.nx) {Q : V → Hp → Prop}
    (hq1 : ∀ l v h', parse t = .ok l → SlG h' v l → Own h.nx v → Fr h h' → Q (.tup [.agg [v], .int .i64 0, .int .i64 0]) h')
    (hq2 : ∀ p e h', parse t = .error (p, e) → Fr h h' → Q (.tup [.agg [.nsl], .int .i64 (p : Nat), .int .i64 (e : Nat)]) h') : Ev fs ro 6 [.str t] h Q := by
  refine Ev_fn hf rfl rfl rfl rfl ?_
  refine WP_seq ?_
  refine WP_reg ?_
  repeat (first | (refine WPO_pl rfl ?_; simp) | (refine WPO_gpl rfl ?_; simp) | (refine WPO_gcall ?_; simp) | (refine WPO_nil ?_; simp))
  have hf1 : Fr h (h.new (.cells 0 [.nsl])) := (Fr.refl hw).new _
  have hg1 : (h.new (.cells 0 [.nsl])).get h.nx = some (.cells 0 [.nsl]) := Hp.get_new_same
  have hnx1 : (h.new (.cells 0 [.nsl])).nx = h.nx + 1 := rfl
  generalize h.new (.cells 0 [.nsl]) = h1 at *
  -- how it ends where there is an error, or nothing
  have fin1 : ∀ (h' : Hp) (v : V), Fr h1 h' → v.cells = [v] → V.one v = true → setN [V.nsl] 0 [v] = some [v] := fun _ _ _ _ _ => rfl
  refine WP_seq ?_
  refine WP_seq ?_
  refine WP_reg ?_
  by_cases t0 : t = []
  · subst t0
    repeat (first | (refine WPO_pl rfl ?_; simp) | (refine WPO_gpl rfl ?_; simp) | (refine WPO_gcall ?_; simp) | (refine WPO_nil ?_; simp))
    refine WP_cond rfl ⟨fun _ => ?_, fun hd => by cases hd⟩
    repeat (first | refine WP_seq ?_ | refine WP_reg ?_ | (refine WPO_pl rfl ?_; simp) | (refine WPO_gpl rfl ?_; simp) | (refine WPO_gcall ?_; simp) | (refine WPO_nil ?_; simp))
    refine WPO_op rfl ?_
    refine OB_store (b := h.nx) (o := 0) (v := .agg [.nsl]) (l' := [.nsl]) rfl rfl hro rfl rfl hg1 rfl ?_
    have hg2 : (h1.set h.nx (.cells 0 [.nsl])).get h.nx = some (.cells 0 [.nsl]) := Hp.get_set_same hg1
    simp
    repeat (first | refine WP_seq ?_ | refine WP_reg ?_ | (refine WPO_pl rfl ?_; simp) | (refine WPO_gpl rfl ?_; simp) | (refine WPO_gcall ?_; simp) | (refine WPO_nil ?_; simp))
    simp [WP_ret, F6, loadV_ptr hg2, loadN]
    exact hq1 [] .nsl _ rfl ⟨rfl, rfl⟩ (.inl rfl) (hf1.set hw (Nat.le_refl _) hg1 _)
  have e0 : t.isEmpty = false := by
    cases t with
    | nil => exact absurd rfl t0
    | cons _ _ => rfl
  repeat (first | (refine WPO_pl rfl ?_; simp [t0, e0]) | (refine WPO_gpl rfl ?_; simp [t0, e0]) | (refine WPO_gcall ?_; simp [t0, e0]) | (refine WPO_nil ?_; simp [t0, e0]))
  refine WP_cond rfl ⟨fun hd => (by cases hd), fun _ => ?_⟩
  simp only [WP_skip, nrmOr_nrm]
  have hpt : parse t = parseW (words t) 0 (-1) 0 := by
    unfold parse
    rw [if_neg t0]
  repeat (first | refine WP_seq ?_ | refine WP_reg ?_ | (refine WPO_pl rfl ?_; simp) | (refine WPO_gpl rfl ?_; simp) | (refine WPO_gcall ?_; simp) | (refine WPO_nil ?_; simp))
  refine WPO_call (g := 19) (a := []) (b := []) (args := [.str t, .str [32]]) rfl rfl ?_
  simp
  refine Ev_orc hf19 (r := .sl h1.nx 0 (words t).length 0) (h' := h1.new (.cells 1 ((words t).map V.str))) (by
    simp only [orcSplit]
    rw [if_pos ⟨by omega, by decide⟩, split_eq, words_at]) ?_
  simp
  have hf2 : Fr h1 (h1.new (.cells 1 ((words t).map V.str))) := (Fr.refl hf1.wf).new _
  have hg2 : (h1.new (.cells 1 ((words t).map V.str))).get h1.nx = some (.cells 1 ((words t).map V.str)) := Hp.get_new_same
  have hnx2 : (h1.new (.cells 1 ((words t).map V.str))).nx = h1.nx + 1 := rfl
  generalize h1.new (.cells 1 ((words t).map V.str)) = h2 at *
  have hwt := words_bytes t
  have hwl : (words t).length ≤ t.length + 1 := by
    rw [← hwt]
    have : ∀ l : List Bs, l.length ≤ bytesOfW l := fun l => by
      induction l with
      | nil => simp [bytesOfW]
      | cons a l ih =>
        simp only [bytesOfW, List.map_cons, List.sum_cons, List.length_cons] at *
        omega
    exact this _
  generalize hws : words t = ws at *
  have hg2b : h2.get h.nx = some (.cells 0 [.nsl]) := hf2.sub _ _ hg1
  have hro2 : ro ≤ h2.nx := by omega
  have hf02 : Fr h h2 := hf1.trans hf2
  repeat (first | (refine WPO_pl rfl ?_; simp) | (refine WPO_gpl rfl ?_; simp) | (refine WPO_gcall ?_; simp) | (refine WPO_nil ?_; simp))
  · refine WP_block ?_
    obtain ⟨I, hI⟩ : ∃ I : Nat → Env → Hp → Prop, I = fun m e h3 => ∃ (i at_ : Nat) (after : Int) (out : List Rg) (vo : V), m = ws.length - i ∧ i ≤ ws.length ∧ out.length = i ∧ Goes t out (ws.drop i) after at_ ∧ at_ + bytesOfW (ws.drop i) = t.length + 1 ∧ SlG h3 vo out ∧ Own h2.nx vo ∧ Fr h2 h3 ∧
        e = [(2, .ptr h.nx 0), (3, .int .i64 (at_ : Nat)), (5, .int .i64 after), (6, vo), (15, .sl h1.nx 0 ws.length 0), (16, .int .i64 (ws.length : Nat)), (17, .int .i64 (i : Nat))] := ⟨_, rfl⟩
    refine WP_loop I ws.length (by
      rw [hI]
      refine ⟨0, 0, -1, [], .nsl, by omega, by omega, rfl, ?_, by rw [List.drop_zero, hwt]; omega, ⟨rfl, rfl⟩, .inl rfl, Fr.refl hf2.wf, rfl⟩
      unfold Goes
      rw [hpt, List.drop_zero]
      cases parseW ws 0 (-1) 0 <;> rfl) ?_
    intro m e h3 hh
    rw [hI] at hh
    obtain ⟨i, at_, after, out, vo, rfl, hi, hol, hgo, hat, hvo, hown, hfr, rfl⟩ := hh
    have hlo := hvo.lenV
    refine WP_seq ?_
    refine WP_reg ?_
    repeat (first | (refine WPO_pl rfl ?_; simp) | (refine WPO_gpl rfl ?_; simp) | (refine WPO_gcall ?_; simp) | (refine WPO_nil ?_; simp))
    refine WP_seq ?_
    refine WP_cond rfl ⟨fun h9 => ?_, fun h9 => ?_⟩
    rotate_left
    · have hi' : i = ws.length := by
        have : ¬ (i < ws.length) := by simpa using h9
        omega
      simp only [WP_exit, nrmOr_exit, blkQ_exit, if_pos, nrmOr_nrm, blkQ_nrm]
      have hpe : parse t = .ok out := by
        unfold Goes at hgo
        rw [hgo, hi', List.drop_length]
        simp [parseW]
      have hg3b : h3.get h.nx = some (.cells 0 [.nsl]) := hfr.sub _ _ hg2b
      obtain ⟨hoc, hov⟩ := hown.cells
      repeat (first | refine WP_seq ?_ | refine WP_reg ?_ | (refine WPO_pl rfl ?_; simp [hoc]) | (refine WPO_gpl rfl ?_; simp [hoc]) | (refine WPO_gcall ?_; simp [hoc]) | (refine WPO_nil ?_; simp [hoc]))
      refine WPO_op rfl ?_
      refine OB_store (b := h.nx) (o := 0) (v := .agg [vo]) (l' := [vo]) rfl rfl hro rfl (by simp [hov]) hg3b rfl ?_
      have hg4 : (h3.set h.nx (.cells 0 [vo])).get h.nx = some (.cells 0 [vo]) := Hp.get_set_same hg3b
      simp
      repeat (first | refine WP_seq ?_ | refine WP_reg ?_ | (refine WPO_pl rfl ?_; simp) | (refine WPO_gpl rfl ?_; simp) | (refine WPO_gcall ?_; simp) | (refine WPO_nil ?_; simp))
      simp [WP_ret, F6, loadV_ptr hg4, loadN]
      exact hq1 out vo _ hpe (hvo.set_ne hown (by omega) _) (hown.mono (by omega)) ((hf02.trans hfr).set hw (Nat.le_refl _) hg3b _)
    have hi' : i < ws.length := by simpa using h9
    obtain ⟨w, hwi⟩ : ∃ w, ws[i]? = some w := ⟨ws[i], List.getElem?_eq_getElem hi'⟩
    have hdr := parseW_append hwi
    rw [hdr] at hgo hat
    have hwl2 : w.length + 1 + bytesOfW (ws.drop (i + 1)) = bytesOfW (w :: ws.drop (i + 1)) := by simp [bytesOfW]
    have hg3 : h3.get h1.nx = some (.cells 1 (ws.map V.str)) := hfr.sub _ _ hg2
    have hg3b : h3.get h.nx = some (.cells 0 [.nsl]) := hfr.sub _ _ hg2b
    have hwx : (ws.map V.str)[i]? = some (.str w) := by rw [List.getElem?_map, hwi]; rfl
    have hwe : ws[i] = w := by
      rw [List.getElem?_eq_getElem hi'] at hwi
      exact Option.some.inj hwi
    simp only [WP_skip, nrmOr_nrm]
    refine WP_seq ?_
    refine WP_block ?_
    refine WP_seq ?_
    refine WP_reg ?_
    repeat (first | (refine WPO_pl rfl ?_; simp [hi', loadV_ptr hg3, hwx, hwe]) | (refine WPO_gpl rfl ?_; simp [hi', loadV_ptr hg3, hwx, hwe]) | (refine WPO_gcall ?_; simp [hi', loadV_ptr hg3, hwx, hwe]) | (refine WPO_nil ?_; simp [hi', loadV_ptr hg3, hwx, hwe]))
    refine WP_seq ?_
    refine WP_seq ?_
    refine WP_reg ?_
    by_cases hk : i = 1024
    · have hpe : parse t = .error (at_, 9) := by
        unfold Goes at hgo
        rw [hgo]
        simp only [parseW]
        rw [if_pos (by omega)]
      have e9 : out.length = 1024 := by omega
      repeat (first | (refine WPO_pl rfl ?_; simp [hlo, e9]) | (refine WPO_gpl rfl ?_; simp [hlo, e9]) | (refine WPO_gcall ?_; simp [hlo, e9]) | (refine WPO_nil ?_; simp [hlo, e9]))
      refine WP_cond rfl ⟨fun _ => ?_, fun hd => by cases hd⟩
      repeat (first | refine WP_seq ?_ | refine WP_reg ?_ | (refine WPO_pl rfl ?_; simp) | (refine WPO_gpl rfl ?_; simp) | (refine WPO_gcall ?_; simp) | (refine WPO_nil ?_; simp))
      refine WPO_op rfl ?_
      refine OB_store (b := h.nx) (o := 0) (v := .agg [.nsl]) (l' := [.nsl]) rfl rfl hro rfl rfl hg3b rfl ?_
      have hg4 : (h3.set h.nx (.cells 0 [.nsl])).get h.nx = some (.cells 0 [.nsl]) := Hp.get_set_same hg3b
      simp
      repeat (first | refine WP_seq ?_ | refine WP_reg ?_ | (refine WPO_pl rfl ?_; simp) | (refine WPO_gpl rfl ?_; simp) | (refine WPO_gcall ?_; simp) | (refine WPO_nil ?_; simp))
      simp [WP_ret, F6, loadV_ptr hg4, loadN]
      exact hq2 at_ 9 _ hpe ((hf02.trans hfr).set hw (Nat.le_refl _) hg3b _)
    have e9 : ¬ (out.length : Int) = 1024 := by omega
    have e9' : ((out.length : Int) == 1024) = false := beq_eq_false_iff_ne.2 e9
    repeat (first | (refine WPO_pl rfl ?_; simp [hlo, e9, e9']) | (refine WPO_gpl rfl ?_; simp [hlo, e9, e9']) | (refine WPO_gcall ?_; simp [hlo, e9, e9']) | (refine WPO_nil ?_; simp [hlo, e9, e9']))
    refine WP_cond rfl ⟨fun hd => (by cases hd), fun _ => ?_⟩
    simp only [WP_skip, nrmOr_nrm]
    refine WP_seq ?_
    refine WP_reg ?_
    repeat (first | (refine WPO_pl rfl ?_; simp) | (refine WPO_gpl rfl ?_; simp) | (refine WPO_gcall ?_; simp) | (refine WPO_nil ?_; simp))
    refine WPO_call (g := 20) (a := []) (b := []) (args := [.str w, .int .i64 after]) rfl rfl ?_
    simp
    refine z20 hf20 hf44 hf43 hf61 hf62 (by omega) (Nat.le_refl _) fun h4 => ?_
    simp [itemV_ground]
    cases hit : item w after with
    | error er =>
      have hpe : parse t = .error (at_, er) := by
        unfold Goes at hgo
        rw [hgo]
        simp only [parseW]
        rw [if_neg (by omega), hit]
      have hiv : itemV w after = .tup [.agg [.int .i64 0, .int .i64 0], .int .i64 (er : Int)] := by unfold itemV; rw [hit]
      have her : (er : Int) ≠ 0 := by
        have : er = 2 ∨ er = 3 ∨ er = 32 := by
          unfold item at hit
          split at hit
          · split at hit
            · simp only [Except.error.injEq] at hit; omega
            · split at hit
              · simp only [Except.error.injEq] at hit; omega
              · cases hit
          · simp only [Except.error.injEq] at hit; omega
        omega
      rw [hiv]
      repeat (first | (refine WPO_pl rfl ?_; simp) | (refine WPO_gpl rfl ?_; simp) | (refine WPO_gcall ?_; simp) | (refine WPO_nil ?_; simp))
      have hg5 : (h3.new (.cells 0 [.int .i64 0, .int .i64 0])).get h3.nx = some (.cells 0 [.int .i64 0, .int .i64 0]) := Hp.get_new_same
      refine WPO_op rfl ?_
      refine OB_store (b := h3.nx) (o := 0) (v := .agg [.int .i64 0, .int .i64 0]) (l' := [.int .i64 0, .int .i64 0]) rfl rfl (by have := hfr.nx; omega) rfl rfl hg5 rfl ?_
      have hf5 : Fr h3 ((h3.new (.cells 0 [.int .i64 0, .int .i64 0])).set h3.nx (.cells 0 [.int .i64 0, .int .i64 0])) := ((Fr.refl hfr.wf).new _).set hfr.wf (Nat.le_refl _) hg5 _
      generalize ((h3.new (.cells 0 [.int .i64 0, .int .i64 0])).set h3.nx (.cells 0 [.int .i64 0, .int .i64 0])) = h5 at *
      simp
      repeat (first | (refine WPO_pl rfl ?_; simp) | (refine WPO_gpl rfl ?_; simp) | (refine WPO_gcall ?_; simp) | (refine WPO_nil ?_; simp))
      refine WP_seq ?_
      refine WP_seq ?_
      refine WP_reg ?_
      have her' : ((er : Int) == 0) = false := beq_eq_false_iff_ne.2 her
      repeat (first | (refine WPO_pl rfl ?_; simp [her, her']) | (refine WPO_gpl rfl ?_; simp [her, her']) | (refine WPO_gcall ?_; simp [her, her']) | (refine WPO_nil ?_; simp [her, her']))
      refine WP_cond rfl ⟨fun _ => ?_, fun hd => by cases hd⟩
      have hg6 : h5.get h.nx = some (.cells 0 [.nsl]) := hf5.sub _ _ hg3b
      repeat (first | refine WP_seq ?_ | refine WP_reg ?_ | (refine WPO_pl rfl ?_; simp) | (refine WPO_gpl rfl ?_; simp) | (refine WPO_gcall ?_; simp) | (refine WPO_nil ?_; simp))
      refine WPO_op rfl ?_
      refine OB_store (b := h.nx) (o := 0) (v := .agg [.nsl]) (l' := [.nsl]) rfl rfl hro rfl rfl hg6 rfl ?_
      have hg4 : (h5.set h.nx (.cells 0 [.nsl])).get h.nx = some (.cells 0 [.nsl]) := Hp.get_set_same hg6
      simp
      repeat (first | refine WP_seq ?_ | refine WP_reg ?_ | (refine WPO_pl rfl ?_; simp) | (refine WPO_gpl rfl ?_; simp) | (refine WPO_gcall ?_; simp) | (refine WPO_nil ?_; simp))
      simp [WP_ret, F6, loadV_ptr hg4, loadN]
      exact hq2 at_ er _ hpe (((hf02.trans hfr).trans hf5).set hw (Nat.le_refl _) hg6 _)
    | ok r =>
      have hst := hgo.step (by omega) hit
      have hiv : itemV w after = .tup [.agg [.int .i64 r.1, .int .i64 r.2], .int .i64 0] := by unfold itemV; rw [hit]
      rw [hiv]
      repeat (first | (refine WPO_pl rfl ?_; simp) | (refine WPO_gpl rfl ?_; simp) | (refine WPO_gcall ?_; simp) | (refine WPO_nil ?_; simp))
      have hg5 : (h3.new (.cells 0 [.int .i64 0, .int .i64 0])).get h3.nx = some (.cells 0 [.int .i64 0, .int .i64 0]) := Hp.get_new_same
      refine WPO_op rfl ?_
      refine OB_store (b := h3.nx) (o := 0) (v := .agg [.int .i64 r.1, .int .i64 r.2]) (l' := [.int .i64 r.1, .int .i64 r.2]) rfl rfl (by have := hfr.nx; omega) rfl rfl hg5 rfl ?_
      have hf5 : Fr h3 ((h3.new (.cells 0 [.int .i64 0, .int .i64 0])).set h3.nx (.cells 0 [.int .i64 r.1, .int .i64 r.2])) := ((Fr.refl hfr.wf).new _).set hfr.wf (Nat.le_refl _) hg5 _
      have hg6 : ((h3.new (.cells 0 [.int .i64 0, .int .i64 0])).set h3.nx (.cells 0 [.int .i64 r.1, .int .i64 r.2])).get h3.nx = some (.cells 0 [.int .i64 r.1, .int .i64 r.2]) := Hp.get_set_same hg5
      generalize ((h3.new (.cells 0 [.int .i64 0, .int .i64 0])).set h3.nx (.cells 0 [.int .i64 r.1, .int .i64 r.2])) = h5 at *
      simp
      repeat (first | (refine WPO_pl rfl ?_; simp) | (refine WPO_gpl rfl ?_; simp) | (refine WPO_gcall ?_; simp) | (refine WPO_nil ?_; simp))
      refine WP_seq ?_
      refine WP_seq ?_
      refine WP_reg ?_
      repeat (first | (refine WPO_pl rfl ?_; simp) | (refine WPO_gpl rfl ?_; simp) | (refine WPO_gcall ?_; simp) | (refine WPO_nil ?_; simp))
      refine WP_cond rfl ⟨fun hd => (by cases hd), fun _ => ?_⟩
      simp only [WP_skip, nrmOr_nrm]
      refine WP_seq ?_
      refine WP_reg ?_
      have hll : ([V.int .i64 r.1, V.int .i64 r.2] : List V).length = 2 := rfl
      repeat (first | (refine WPO_pl rfl ?_; simp [loadV_ptr hg6, loadN_all hll, zeros]) | (refine WPO_gpl rfl ?_; simp [loadV_ptr hg6, loadN_all hll, zeros]) | (refine WPO_gcall ?_; simp [loadV_ptr hg6, loadN_all hll, zeros]) | (refine WPO_nil ?_; simp [loadV_ptr hg6, loadN_all hll, zeros]))
      refine WPO_op rfl ?_
      refine app_new2 (out := out) (p := r) (vo := vo) hf2.wf hro2 (hfr.trans hf5) (Sl.fr hf5 hvo) hown (by omega) rfl rfl fun v' h6 hv' ho' hf6 hkp => ?_
      have hg7 := hkp _ _ hg6
      simp
      repeat (first | (refine WPO_pl rfl ?_; simp) | (refine WPO_gpl rfl ?_; simp) | (refine WPO_gcall ?_; simp) | (refine WPO_nil ?_; simp))
      have w1 : IntKind.wrap .i64 ((w.length : Int) + 1) = (w.length : Int) + 1 := wrap_i64 (by omega) (by omega)
      have w2 : IntKind.wrap .i64 ((at_ : Int) + ((w.length : Int) + 1)) = (at_ : Int) + ((w.length : Int) + 1) := wrap_i64 (by omega) (by omega)
      have w3 : IntKind.wrap .i64 ((i : Int) + 1) = (i : Int) + 1 := wrap_i64 (by omega) (by omega)
      repeat (first | refine WP_seq ?_ | refine WP_reg ?_ | (refine WPO_pl rfl ?_; simp [loadV_ptr hg7, w1, w2, w3]) | (refine WPO_gpl rfl ?_; simp [loadV_ptr hg7, w1, w2, w3]) | (refine WPO_gcall ?_; simp [loadV_ptr hg7, w1, w2, w3]) | (refine WPO_nil ?_; simp [loadV_ptr hg7, w1, w2, w3]))
      refine ⟨ws.length - (i + 1), by omega, ?_⟩
      rw [hI]
      refine ⟨i + 1, at_ + w.length + 1, r.2, out ++ [r], v', rfl, by omega, by simp; omega, hst, by omega, hv', ho', hf6, ?_⟩
      have e1 : ((at_ : Int) + ((w.length : Int) + 1)) = ((at_ + w.length + 1 : Nat) : Int) := by omega
      have e2 : ((i : Int) + 1) = ((i + 1 : Nat) : Int) := by omega
      rw [e1, e2]
theorem words_cut {t : Bs} {a j : Nat} (haj : a ≤ j) (hj : j ≤ t.length) (hno : ∀ k, a ≤ k → k < j → t[k]? ≠ some 32) (hend : j = t.length ∨ t[j]? = some 32) :
    words (t.drop a) = (t.take j).drop a :: (if j = t.length then [] else words (t.drop (j + 1))) := by
  have hsp : t.drop a = (t.take j).drop a ++ t.drop j := by
    conv => lhs; rw [← List.take_append_drop j t]
    rw [List.drop_append, List.length_take, Nat.min_eq_left hj, Nat.sub_eq_zero_of_le haj, List.drop_zero]
  have hn : ∀ x ∈ (t.take j).drop a, x ≠ 32 := fun x hx => by
    obtain ⟨k, hk⟩ := List.mem_iff_getElem?.1 hx
    rw [List.getElem?_drop, List.getElem?_take] at hk
    split at hk
    · rename_i hlt
      intro e
      subst e
      exact hno (a + k) (by omega) hlt hk
    · cases hk
  rw [hsp]
  rcases hend with h1 | h1
  · rw [if_pos h1, h1, List.drop_length, List.append_nil, List.take_length]
    refine words_word _ ?_
    rw [h1, List.take_length] at hn
    exact hn
  · have hlt : j < t.length := by
      rcases Nat.lt_or_ge j t.length with h | h
      · exact h
      · rw [List.getElem?_eq_none h] at h1; cases h1
    have hd : t.drop j = 32 :: t.drop (j + 1) := by
      rw [List.drop_eq_getElem_cons hlt]
      rw [List.getElem?_eq_getElem hlt] at h1
      rw [Option.some.inj h1]
    rw [if_neg (by omega), hd, words_app _ _ hn]

set_option maxHeartbeats 4000000 in
theorem z7 {t : Bs} (hf : fs 7 = some (.code F7)) (hf21 : fs 21 = some (.code F21)) (hf45 : fs 45 = some (.code F45))
    (ht : t.length ≤ 1000000) (hro : ro ≤ h.nx) (hw : ∀ b x, h.get b = some x → b < h.nx) {Q : V → Hp → Prop}
    (hq1 : ∀ l v h', parse t = .ok l → SlG h' v l → Own h.nx v → Fr h h' → Q (.tup [v, .int .i64 0, .int .i64 0]) h')
    (hq2 : ∀ p e h', parse t = .error (p, e) → Fr h h' → Q (.tup [.nsl, .int .i64 (p : Nat), .int .i64 (e : Nat)]) h') : Ev fs ro 7 [.str t] h Q := by
  refine Ev_fn hf rfl rfl rfl rfl ?_
  refine WP_seq ?_
  refine WP_reg ?_
  repeat (first | (refine WPO_pl rfl ?_; simp) | (refine WPO_gpl rfl ?_; simp) | (refine WPO_gcall ?_; simp) | (refine WPO_nil ?_; simp))
  refine WP_seq ?_
  refine WP_reg ?_
  repeat (first | (refine WPO_pl rfl ?_; simp) | (refine WPO_gpl rfl ?_; simp) | (refine WPO_gcall ?_; simp) | (refine WPO_nil ?_; simp))
  refine WP_seq ?_
  refine WP_seq ?_
  refine WP_reg ?_
  by_cases t0 : t = []
  · subst t0
    repeat (first | (refine WPO_pl rfl ?_; simp) | (refine WPO_gpl rfl ?_; simp) | (refine WPO_gcall ?_; simp) | (refine WPO_nil ?_; simp))
    refine WP_cond rfl ⟨fun _ => ?_, fun hd => by cases hd⟩
    repeat (first | refine WP_seq ?_ | refine WP_reg ?_ | (refine WPO_pl rfl ?_; simp) | (refine WPO_gpl rfl ?_; simp) | (refine WPO_gcall ?_; simp) | (refine WPO_nil ?_; simp))
    simp [WP_ret, F7]
    exact hq1 [] .nsl _ rfl ⟨rfl, rfl⟩ (.inl rfl) (Fr.refl hw)
  have e0 : t.isEmpty = false := by
    cases t with
    | nil => exact absurd rfl t0
    | cons _ _ => rfl
  repeat (first | (refine WPO_pl rfl ?_; simp [t0, e0]) | (refine WPO_gpl rfl ?_; simp [t0, e0]) | (refine WPO_gcall ?_; simp [t0, e0]) | (refine WPO_nil ?_; simp [t0, e0]))
  refine WP_cond rfl ⟨fun hd => (by cases hd), fun _ => ?_⟩
  simp only [WP_skip, nrmOr_nrm]
  have hpt : parse t = parseW (words t) 0 (-1) 0 := by
    unfold parse
    rw [if_neg t0]
  refine WP_seq ?_
  refine WP_reg ?_
  repeat (first | (refine WPO_pl rfl ?_; simp) | (refine WPO_gpl rfl ?_; simp) | (refine WPO_gcall ?_; simp) | (refine WPO_nil ?_; simp))
  refine WP_block ?_
  obtain ⟨I, hI⟩ : ∃ I : Nat → Env → Hp → Prop, I = fun m e h3 => ∃ (at_ : Nat) (last : Int) (out : List Rg) (vo : V), m = t.length + 1 - at_ ∧ at_ ≤ t.length ∧ out.length ≤ 1024 ∧ Goes t out (words (t.drop at_)) last at_ ∧ SlG h3 vo out ∧ Own h.nx vo ∧ Fr h h3 ∧
      e = [(0, .str t), (5, vo), (6, .int .i64 (at_ : Nat)), (7, .int .i64 last)] := ⟨_, rfl⟩
  refine WP_loop I (t.length + 1) (by
    rw [hI]
    refine ⟨0, -1, [], .nsl, by omega, by omega, by simp, ?_, ⟨rfl, rfl⟩, .inl rfl, Fr.refl hw, rfl⟩
    unfold Goes
    rw [hpt, List.drop_zero, List.length_nil]
    cases parseW (words t) 0 (-1) 0 <;> rfl) ?_
  intro m e h3 hh
  rw [hI] at hh
  obtain ⟨at_, last, out, vo, rfl, ha, hol, hgo, hvo, hown, hfr, rfl⟩ := hh
  have hlo := hvo.lenV
  refine WP_block ?_
  refine WP_seq ?_
  refine WP_reg ?_
  repeat (first | (refine WPO_pl rfl ?_; simp) | (refine WPO_gpl rfl ?_; simp) | (refine WPO_gcall ?_; simp) | (refine WPO_nil ?_; simp))
  obtain ⟨M, hM⟩ : ∃ M : Env → Hp → Prop, M = fun e' h' => h3 = h' ∧ ∃ j : Nat, at_ ≤ j ∧ j ≤ t.length ∧ (∀ k, at_ ≤ k → k < j → t[k]? ≠ some 32) ∧ (j = t.length ∨ t[j]? = some 32) ∧ e' = [(0, .str t), (5, vo), (6, .int .i64 (at_ : Nat)), (7, .int .i64 last), (8, .int .i64 (j : Nat)), (23, .bool false)] := ⟨_, rfl⟩
  refine WP_mid M ?_ ?_
  · refine WP_block ?_
    obtain ⟨J, hJ⟩ : ∃ J : Nat → Env → Hp → Prop, J = fun m e h4 => h3 = h4 ∧ ∃ j : Nat, m = t.length - j ∧ at_ ≤ j ∧ j ≤ t.length ∧ (∀ k, at_ ≤ k → k < j → t[k]? ≠ some 32) ∧ e = [(0, .str t), (5, vo), (6, .int .i64 (at_ : Nat)), (7, .int .i64 last), (8, .int .i64 (j : Nat))] := ⟨_, rfl⟩
    refine WP_loop J (t.length - at_) (by rw [hJ]; exact ⟨rfl, at_, rfl, Nat.le_refl _, ha, fun k h1 h2 => by omega, rfl⟩) ?_
    intro m e h4 hh
    rw [hJ] at hh
    obtain ⟨rfl, j, rfl, hj1, hj2, hj3, rfl⟩ := hh
    refine WP_seq ?_
    refine WP_seq ?_
    refine WP_reg ?_
    by_cases c1 : j < t.length
    · obtain ⟨c, hc⟩ : ∃ c, t[j]? = some c := ⟨t[j], List.getElem?_eq_getElem c1⟩
      have hce : t[j] = c := by
        rw [List.getElem?_eq_getElem c1] at hc
        exact Option.some.inj hc
      by_cases c2 : c = 32
      · have e1 : (c.toNat : Int) = 32 := by rw [c2]; rfl
        repeat (first | (refine WPO_pl rfl ?_; simp [c1, hc, hce, e1]) | (refine WPO_gpl rfl ?_; simp [c1, hc, hce, e1]) | (refine WPO_gcall ?_; simp [c1, hc, hce, e1]) | (refine WPO_nil ?_; simp [c1, hc, hce, e1]))
        refine WP_cond rfl ⟨fun hd => (by cases hd), fun _ => ?_⟩
        simp only [WP_exit, nrmOr_exit, blkQ_exit, if_pos, nrmOr_nrm, blkQ_nrm]
        rw [hM]
        exact ⟨rfl, j, hj1, hj2, hj3, .inr (by rw [hc, c2]), rfl⟩
      · have e1 : ((c.toNat : Int) == 32) = false := beq_eq_false_iff_ne.2 fun e => c2 (UInt8.toNat_inj.1 (by rw [show (32 : UInt8).toNat = 32 from rfl]; omega))
        have e2 : ¬ (c.toNat : Int) = 32 := beq_eq_false_iff_ne.1 e1
        repeat (first | (refine WPO_pl rfl ?_; simp [c1, hc, hce, e1, e2]) | (refine WPO_gpl rfl ?_; simp [c1, hc, hce, e1, e2]) | (refine WPO_gcall ?_; simp [c1, hc, hce, e1, e2]) | (refine WPO_nil ?_; simp [c1, hc, hce, e1, e2]))
        refine WP_cond rfl ⟨fun _ => ?_, fun hd => by cases hd⟩
        have w1 : IntKind.wrap .i64 ((j : Int) + 1) = (j : Int) + 1 := wrap_i64 (by omega) (by omega)
        simp only [WP_skip, nrmOr_nrm]
        refine WP_block ?_
        repeat (first | refine WP_seq ?_ | refine WP_reg ?_ | (refine WPO_pl rfl ?_; simp [w1]) | (refine WPO_gpl rfl ?_; simp [w1]) | (refine WPO_gcall ?_; simp [w1]) | (refine WPO_nil ?_; simp [w1]))
        refine ⟨t.length - (j + 1), by omega, ?_⟩
        rw [hJ]
        refine ⟨rfl, j + 1, rfl, by omega, by omega, fun k h1 h2 => ?_, rfl⟩
        rcases Nat.lt_or_ge k j with h5 | h5
        · exact hj3 k h1 h5
        · obtain rfl : k = j := by omega
          rw [hc]
          intro e
          exact c2 (Option.some.inj e)
    · have e1 : ¬ (j : Int) < (t.length : Int) := by omega
      repeat (first | (refine WPO_pl rfl ?_; simp [c1, e1]) | (refine WPO_gpl rfl ?_; simp [c1, e1]) | (refine WPO_gcall ?_; simp [c1, e1]) | (refine WPO_nil ?_; simp [c1, e1]))
      refine WP_cond rfl ⟨fun hd => (by cases hd), fun _ => ?_⟩
      simp only [WP_exit, nrmOr_exit, blkQ_exit, if_pos, nrmOr_nrm, blkQ_nrm]
      rw [hM]
      exact ⟨rfl, j, hj1, hj2, hj3, .inl (by omega), rfl⟩
  intro e' h' hh
  rw [hM] at hh
  obtain ⟨rfl, j, hj1, hj2, hj3, hj4, rfl⟩ := hh
  have hwd := words_cut hj1 hj2 hj3 hj4
  rw [hwd] at hgo
  have hwl : ((t.take j).drop at_).length = j - at_ := by rw [List.length_drop, List.length_take, Nat.min_eq_left hj2]
  generalize hwv : (t.take j).drop at_ = w at *
  refine WP_seq ?_
  refine WP_seq ?_
  refine WP_reg ?_
  by_cases hk : out.length = 1024
  · have hpe : parse t = .error (at_, 9) := by
      unfold Goes at hgo
      rw [hgo]
      simp only [parseW]
      rw [if_pos hk]
    repeat (first | (refine WPO_pl rfl ?_; simp [hlo, hk]) | (refine WPO_gpl rfl ?_; simp [hlo, hk]) | (refine WPO_gcall ?_; simp [hlo, hk]) | (refine WPO_nil ?_; simp [hlo, hk]))
    refine WP_cond rfl ⟨fun _ => ?_, fun hd => by cases hd⟩
    repeat (first | refine WP_seq ?_ | refine WP_reg ?_ | (refine WPO_pl rfl ?_; simp) | (refine WPO_gpl rfl ?_; simp) | (refine WPO_gcall ?_; simp) | (refine WPO_nil ?_; simp))
    simp [WP_ret, F7]
    exact hq2 at_ 9 _ hpe hfr
  have e9 : ¬ (out.length : Int) = 1024 := by omega
  have e9' : ((out.length : Int) == 1024) = false := beq_eq_false_iff_ne.2 e9
  repeat (first | (refine WPO_pl rfl ?_; simp [hlo, e9, e9']) | (refine WPO_gpl rfl ?_; simp [hlo, e9, e9']) | (refine WPO_gcall ?_; simp [hlo, e9, e9']) | (refine WPO_nil ?_; simp [hlo, e9, e9']))
  refine WP_cond rfl ⟨fun hd => (by cases hd), fun _ => ?_⟩
  simp only [WP_skip, nrmOr_nrm]
  refine WP_seq ?_
  refine WP_reg ?_
  have q1 : (j : Int) ≤ (t.length : Int) := by omega
  have q2 : (at_ : Int) ≤ (j : Int) := by omega
  repeat (first | (refine WPO_pl rfl ?_; simp [hj2, hj1, q1, q2, hwv]) | (refine WPO_gpl rfl ?_; simp [hj2, hj1, q1, q2, hwv]) | (refine WPO_gcall ?_; simp [hj2, hj1, q1, q2, hwv]) | (refine WPO_nil ?_; simp [hj2, hj1, q1, q2, hwv]))
  refine WPO_call (g := 21) (a := []) (b := []) (args := [.str w, .int .i64 last]) rfl rfl ?_
  simp
  refine z21 hf21 hf45 (by omega) (Nat.le_refl _) fun h4 => ?_
  simp [itemV_ground]
  cases hit : item w last with
  | error er =>
    have hpe : parse t = .error (at_, er) := by
      unfold Goes at hgo
      rw [hgo]
      simp only [parseW]
      rw [if_neg hk, hit]
    have hiv : itemV w last = .tup [.agg [.int .i64 0, .int .i64 0], .int .i64 (er : Int)] := by unfold itemV; rw [hit]
    have her : (er : Int) ≠ 0 := item_err hit
    have her' : ((er : Int) == 0) = false := beq_eq_false_iff_ne.2 her
    rw [hiv]
    repeat (first | (refine WPO_pl rfl ?_; simp) | (refine WPO_gpl rfl ?_; simp) | (refine WPO_gcall ?_; simp) | (refine WPO_nil ?_; simp))
    have hg5 : (h3.new (.cells 0 [.int .i64 0, .int .i64 0])).get h3.nx = some (.cells 0 [.int .i64 0, .int .i64 0]) := Hp.get_new_same
    refine WPO_op rfl ?_
    refine OB_store (b := h3.nx) (o := 0) (v := .agg [.int .i64 0, .int .i64 0]) (l' := [.int .i64 0, .int .i64 0]) rfl rfl (by have := hfr.nx; omega) rfl rfl hg5 rfl ?_
    have hf5 : Fr h3 ((h3.new (.cells 0 [.int .i64 0, .int .i64 0])).set h3.nx (.cells 0 [.int .i64 0, .int .i64 0])) := ((Fr.refl hfr.wf).new _).set hfr.wf (Nat.le_refl _) hg5 _
    have hg6 : ((h3.new (.cells 0 [.int .i64 0, .int .i64 0])).set h3.nx (.cells 0 [.int .i64 0, .int .i64 0])).get h3.nx = some (.cells 0 [.int .i64 0, .int .i64 0]) := Hp.get_set_same hg5
    generalize ((h3.new (.cells 0 [.int .i64 0, .int .i64 0])).set h3.nx (.cells 0 [.int .i64 0, .int .i64 0])) = h5 at *
    simp
    repeat (first | (refine WPO_pl rfl ?_; simp) | (refine WPO_gpl rfl ?_; simp) | (refine WPO_gcall ?_; simp) | (refine WPO_nil ?_; simp))
    refine WP_seq ?_
    refine WP_seq ?_
    refine WP_reg ?_
    repeat (first | (refine WPO_pl rfl ?_; simp [her, her']) | (refine WPO_gpl rfl ?_; simp [her, her']) | (refine WPO_gcall ?_; simp [her, her']) | (refine WPO_nil ?_; simp [her, her']))
    refine WP_cond rfl ⟨fun _ => ?_, fun hd => by cases hd⟩
    repeat (first | refine WP_seq ?_ | refine WP_reg ?_ | (refine WPO_pl rfl ?_; simp) | (refine WPO_gpl rfl ?_; simp) | (refine WPO_gcall ?_; simp) | (refine WPO_nil ?_; simp))
    simp [WP_ret, F7]
    exact hq2 at_ er _ hpe (hfr.trans hf5)
  | ok r =>
    have hst := hgo.step hk hit
    have hiv : itemV w last = .tup [.agg [.int .i64 r.1, .int .i64 r.2], .int .i64 0] := by unfold itemV; rw [hit]
    rw [hiv]
    repeat (first | (refine WPO_pl rfl ?_; simp) | (refine WPO_gpl rfl ?_; simp) | (refine WPO_gcall ?_; simp) | (refine WPO_nil ?_; simp))
    have hg5 : (h3.new (.cells 0 [.int .i64 0, .int .i64 0])).get h3.nx = some (.cells 0 [.int .i64 0, .int .i64 0]) := Hp.get_new_same
    refine WPO_op rfl ?_
    refine OB_store (b := h3.nx) (o := 0) (v := .agg [.int .i64 r.1, .int .i64 r.2]) (l' := [.int .i64 r.1, .int .i64 r.2]) rfl rfl (by have := hfr.nx; omega) rfl rfl hg5 rfl ?_
    have hf5 : Fr h3 ((h3.new (.cells 0 [.int .i64 0, .int .i64 0])).set h3.nx (.cells 0 [.int .i64 r.1, .int .i64 r.2])) := ((Fr.refl hfr.wf).new _).set hfr.wf (Nat.le_refl _) hg5 _
    have hg6 : ((h3.new (.cells 0 [.int .i64 0, .int .i64 0])).set h3.nx (.cells 0 [.int .i64 r.1, .int .i64 r.2])).get h3.nx = some (.cells 0 [.int .i64 r.1, .int .i64 r.2]) := Hp.get_set_same hg5
    generalize ((h3.new (.cells 0 [.int .i64 0, .int .i64 0])).set h3.nx (.cells 0 [.int .i64 r.1, .int .i64 r.2])) = h5 at *
    simp
    repeat (first | (refine WPO_pl rfl ?_; simp) | (refine WPO_gpl rfl ?_; simp) | (refine WPO_gcall ?_; simp) | (refine WPO_nil ?_; simp))
    refine WP_seq ?_
    refine WP_seq ?_
    refine WP_reg ?_
    repeat (first | (refine WPO_pl rfl ?_; simp) | (refine WPO_gpl rfl ?_; simp) | (refine WPO_gcall ?_; simp) | (refine WPO_nil ?_; simp))
    refine WP_cond rfl ⟨fun hd => (by cases hd), fun _ => ?_⟩
    simp only [WP_skip, nrmOr_nrm]
    refine WP_seq ?_
    refine WP_reg ?_
    have hll : ([V.int .i64 r.1, V.int .i64 r.2] : List V).length = 2 := rfl
    repeat (first | (refine WPO_pl rfl ?_; simp [loadV_ptr hg6, loadN_all hll, zeros]) | (refine WPO_gpl rfl ?_; simp [loadV_ptr hg6, loadN_all hll, zeros]) | (refine WPO_gcall ?_; simp [loadV_ptr hg6, loadN_all hll, zeros]) | (refine WPO_nil ?_; simp [loadV_ptr hg6, loadN_all hll, zeros]))
    refine WPO_op rfl ?_
    refine app_new2 (out := out) (p := r) (vo := vo) hw hro (hfr.trans hf5) (Sl.fr hf5 hvo) hown (by omega) rfl rfl fun v' h6 hv' ho' hf6 hkp => ?_
    have hg7 := hkp _ _ hg6
    simp
    repeat (first | (refine WPO_pl rfl ?_; simp) | (refine WPO_gpl rfl ?_; simp) | (refine WPO_gcall ?_; simp) | (refine WPO_nil ?_; simp))
    refine WP_seq ?_
    refine WP_reg ?_
    repeat (first | (refine WPO_pl rfl ?_; simp [loadV_ptr hg7]) | (refine WPO_gpl rfl ?_; simp [loadV_ptr hg7]) | (refine WPO_gcall ?_; simp [loadV_ptr hg7]) | (refine WPO_nil ?_; simp [loadV_ptr hg7]))
    refine WP_seq ?_
    refine WP_seq ?_
    refine WP_reg ?_
    by_cases hjl : j = t.length
    · have hpe : parse t = .ok (out ++ [r]) := by
        unfold Goes at hst
        rw [hst, if_pos hjl]
        simp [parseW]
      have e1 : (j : Int) = (t.length : Int) := by omega
      repeat (first | (refine WPO_pl rfl ?_; simp [e1]) | (refine WPO_gpl rfl ?_; simp [e1]) | (refine WPO_gcall ?_; simp [e1]) | (refine WPO_nil ?_; simp [e1]))
      refine WP_cond rfl ⟨fun _ => ?_, fun hd => by cases hd⟩
      repeat (first | refine WP_seq ?_ | refine WP_reg ?_ | (refine WPO_pl rfl ?_; simp) | (refine WPO_gpl rfl ?_; simp) | (refine WPO_gcall ?_; simp) | (refine WPO_nil ?_; simp))
      simp [WP_ret, F7]
      exact hq1 (out ++ [r]) v' _ hpe hv' ho' hf6
    have e1 : ((j : Int) == (t.length : Int)) = false := beq_eq_false_iff_ne.2 (by omega)
    have e2 : ¬ j = t.length := hjl
    rw [if_neg hjl] at hst
    repeat (first | (refine WPO_pl rfl ?_; simp [e1, e2]) | (refine WPO_gpl rfl ?_; simp [e1, e2]) | (refine WPO_gcall ?_; simp [e1, e2]) | (refine WPO_nil ?_; simp [e1, e2]))
    refine WP_cond rfl ⟨fun hd => (by cases hd), fun _ => ?_⟩
    have w1 : IntKind.wrap .i64 ((j : Int) + 1) = (j : Int) + 1 := wrap_i64 (by omega) (by omega)
    simp only [WP_skip, nrmOr_nrm]
    repeat (first | refine WP_seq ?_ | refine WP_reg ?_ | (refine WPO_pl rfl ?_; simp [w1]) | (refine WPO_gpl rfl ?_; simp [w1]) | (refine WPO_gcall ?_; simp [w1]) | (refine WPO_nil ?_; simp [w1]))
    refine ⟨t.length + 1 - (j + 1), by omega, ?_⟩
    rw [hI]
    refine ⟨j + 1, r.2, out ++ [r], v', rfl, by omega, by simp; omega, ?_, hv', ho', hf6, rfl⟩
    have e3 : at_ + w.length + 1 = j + 1 := by omega
    rw [e3] at hst
    exact hst
end Go.Am.SZ
