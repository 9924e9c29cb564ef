/- Digits and the two Texts, stepped through. -/
import Derived.Test.YtochmoadmdmcbaaGreatDoorAmZ7
import Derived.Test.YtochmoadmdmcbaaGreatDoorAm22
namespace Go.Am.SZ
open Go Go.Am.Q
set_option maxRecDepth 100000
set_option linter.unusedVariables false
set_option linter.unusedSimpArgs false
variable {fs : Nat → Option D} {ro : Nat} {h : Hp}

theorem shown_one {h : Hp} {x : V} : shown (h.new (.cells 1 [x])) 1 h.nx 0 1 = some [x] :=
  (Sl.ofNew (h := h) (sz := 1) (n := 1) (c := 0) (l := [x]) rfl).2

set_option maxHeartbeats 1000000 in
theorem z14 (hf : fs 14 = some (.code F14)) : ∀ {n : Nat} {ro : Nat} {h : Hp} {Q : V → Hp → Prop}, n ≤ 1000000000000000 → (∀ h', Q (.str (digs n)) h') → Ev fs ro 14 [.int .i64 (n : Int)] h Q := by
  intro n
  induction n using Nat.strongRecOn with
  | ind n ih =>
    intro ro h Q hn hq
    refine Ev_fn hf rfl rfl rfl rfl ?_
    refine WP_seq ?_
    refine WP_reg ?_
    repeat (first | (refine WPO_pl rfl ?_; simp) | (refine WPO_gpl rfl ?_; simp) | (refine WPO_gcall ?_; simp) | (refine WPO_nil ?_; simp))
    refine WP_seq ?_
    refine WP_seq ?_
    refine WP_reg ?_
    by_cases c1 : n < 10
    · have e1 : (n : Int) < 10 := by omega
      have w1 : IntKind.wrap .i64 (48 + (n : Int)) = 48 + (n : Int) := wrap_i64 (by omega) (by omega)
      have w2 : IntKind.wrap .u8 (48 + (n : Int)) = 48 + (n : Int) := wrap_u8 (by omega) (by omega)
      repeat (first | (refine WPO_pl rfl ?_; simp [e1]) | (refine WPO_gpl rfl ?_; simp [e1]) | (refine WPO_gcall ?_; simp [e1]) | (refine WPO_nil ?_; simp [e1]))
      refine WP_cond rfl ⟨fun _ => ?_, fun hd => by cases hd⟩
      repeat (first | refine WP_seq ?_ | refine WP_reg ?_ | (refine WPO_pl rfl ?_; simp [w1, w2, zeros]) | (refine WPO_gpl rfl ?_; simp [w1, w2, zeros]) | (refine WPO_gcall ?_; simp [w1, w2, zeros]) | (refine WPO_nil ?_; simp [w1, w2, zeros]))
      refine WPO_op rfl ?_
      refine OB_ofBytes (bs := digs n) rfl shown_one (by
        rw [digs_small c1]
        have : (48 + (n : Int)).toNat = 48 + n := by omega
        simp only [bytesOf, Option.bind_some, this]) ?_
      simp
      repeat (first | refine WP_seq ?_ | refine WP_reg ?_ | (refine WPO_pl rfl ?_; simp) | (refine WPO_gpl rfl ?_; simp) | (refine WPO_gcall ?_; simp) | (refine WPO_nil ?_; simp))
      simp [WP_ret, F14]
      exact hq _
    · have e1 : ¬ (n : Int) < 10 := by omega
      have e2 : (n : Int).tdiv 10 = ((n / 10 : Nat) : Int) := rfl
      have e3 : (n : Int).tmod 10 = ((n % 10 : Nat) : Int) := rfl
      have hm : n % 10 < 10 := by omega
      have hd : n / 10 < n := by omega
      have w0 : IntKind.wrap .i64 ((n / 10 : Nat) : Int) = ((n / 10 : Nat) : Int) := wrap_i64 (by omega) (by omega)
      have hdg := digs_big c1
      have hl : (digs (n / 10)).length ≤ 16 := digs_len 15 _ (by omega)
      generalize hdv : n / 10 = d at *
      generalize hmv : n % 10 = m at *
      have w1 : IntKind.wrap .i64 (48 + (m : Int)) = 48 + (m : Int) := wrap_i64 (by omega) (by omega)
      have w2 : IntKind.wrap .u8 (48 + (m : Int)) = 48 + (m : Int) := wrap_u8 (by omega) (by omega)
      repeat (first | (refine WPO_pl rfl ?_; simp [e1]) | (refine WPO_gpl rfl ?_; simp [e1]) | (refine WPO_gcall ?_; simp [e1]) | (refine WPO_nil ?_; simp [e1]))
      refine WP_cond rfl ⟨fun hd => (by cases hd), fun _ => ?_⟩
      simp only [WP_skip, nrmOr_nrm]
      refine WP_seq ?_
      refine WP_reg ?_
      repeat (first | (refine WPO_pl rfl ?_; simp [e2, w0]) | (refine WPO_gpl rfl ?_; simp [e2, w0]) | (refine WPO_gcall ?_; simp [e2, w0]) | (refine WPO_nil ?_; simp [e2, w0]))
      refine WPO_pcall (m := 8) (g := 14) (a := []) (b := []) (args := [.int .i64 (d : Int)]) rfl rfl rfl ?_
      simp
      refine ih d hd (by omega) fun h3 => ?_
      simp
      repeat (first | (refine WPO_pl rfl ?_; simp [e3, w1, w2, zeros]) | (refine WPO_gpl rfl ?_; simp [e3, w1, w2, zeros]) | (refine WPO_gcall ?_; simp [e3, w1, w2, zeros]) | (refine WPO_nil ?_; simp [e3, w1, w2, zeros]))
      refine WPO_op rfl ?_
      refine OB_ofBytes (bs := [UInt8.ofNat (48 + m)]) rfl shown_one (by
        have : (48 + (m : Int)).toNat = 48 + m := by omega
        simp only [bytesOf, Option.bind_some, this]) ?_
      simp
      have hl2 : (digs d).length + 1 ≤ 4611686018427387904 := by omega
      repeat (first | (refine WPO_pl rfl ?_; simp [hl2]) | (refine WPO_gpl rfl ?_; simp [hl2]) | (refine WPO_gcall ?_; simp [hl2]) | (refine WPO_nil ?_; simp [hl2]))
      simp [WP_ret, F14]
      have hdg2 : digs n = digs d ++ [48 + UInt8.ofNat m] := by rw [hdg]; simp
      rw [← hdg2]
      exact hq _
def RgOk (p : Rg) : Prop := 0 ≤ p.1 ∧ p.1 < p.2 ∧ p.2 ≤ 1099511627776
theorem joinS_snoc : ∀ (l : List Bs) (x : Bs), l ≠ [] → joinS (l ++ [x]) = joinS l ++ 32 :: x
  | [], _, h => absurd rfl h
  | [a], x, _ => rfl
  | a :: b :: r, x, _ => by
    show a ++ 32 :: joinS (b :: r ++ [x]) = (a ++ 32 :: joinS (b :: r)) ++ 32 :: x
    rw [joinS_snoc (b :: r) x (by simp)]
    simp
theorem text_snoc (l : List Rg) (r : Rg) : text (l ++ [r]) = if l = [] then itemT r else text l ++ 32 :: itemT r := by
  unfold text
  split
  · rename_i h; subst h; rfl
  · rename_i h
    rw [List.map_append, List.map_cons, List.map_nil, joinS_snoc _ _ (by simpa using h)]
theorem digs13 {n : Nat} (h : n ≤ 1099511627776) : (digs n).length ≤ 13 := digs_len 12 n (by omega)
theorem itemT_len {r : Rg} (h : RgOk r) : (itemT r).length ≤ 27 := by
  obtain ⟨h1, h2, h3⟩ := h
  have a := digs13 (n := r.1.toNat) (by omega)
  have b := digs13 (n := (r.2 - r.1).toNat) (by omega)
  unfold itemT
  simp only [List.length_append, List.length_cons]
  omega
theorem text_take_len {l : List Rg} (hl : ∀ p ∈ l, RgOk p) : ∀ i, i ≤ l.length → (text (l.take i)).length ≤ 28 * i
  | 0, _ => by simp [text, joinS]
  | i + 1, hi => by
    have ih := text_take_len hl i (by omega)
    rw [List.take_succ_eq_append_getElem (by omega), text_snoc]
    have := itemT_len (hl l[i] (List.getElem_mem _))
    split
    · omega
    · simp only [List.length_append, List.length_cons]; omega

set_option maxHeartbeats 4000000 in
theorem z12 {v : V} {l : List Rg} (hf : fs 12 = some (.code F12)) (hf14 : fs 14 = some (.code F14)) (hv : SlG h v l) (hn : l.length ≤ 1000000) (hl : ∀ p ∈ l, RgOk p) {Q : V → Hp → Prop} (hq : ∀ h', Q (.str (text l)) h') : Ev fs ro 12 [v] h Q := by
  have hlen := hv.lenV
  refine Ev_fn hf rfl rfl rfl rfl ?_
  repeat (first | refine WP_seq ?_ | refine WP_reg ?_ | (refine WPO_pl rfl ?_; simp) | (refine WPO_gpl rfl ?_; simp) | (refine WPO_gcall ?_; simp) | (refine WPO_nil ?_; simp))
  refine WP_block ?_
  obtain ⟨I, hI⟩ : ∃ I : Nat → Env → Hp → Prop, I = fun m e h1 => h = h1 ∧ ∃ i : Nat, m = l.length - i ∧ i ≤ l.length ∧ e = [(0, v), (3, .str (text (l.take i))), (4, .int .i64 (i : Nat))] := ⟨_, rfl⟩
  refine WP_loop I l.length (by rw [hI]; exact ⟨rfl, 0, by omega, by omega, rfl⟩) ?_
  intro m e h1 hh
  rw [hI] at hh
  obtain ⟨rfl, i, rfl, hi, rfl⟩ := hh
  refine WP_seq ?_
  refine WP_seq ?_
  refine WP_reg ?_
  repeat (first | (refine WPO_pl rfl ?_; simp [hlen]) | (refine WPO_gpl rfl ?_; simp [hlen]) | (refine WPO_gcall ?_; simp [hlen]) | (refine WPO_nil ?_; simp [hlen]))
  refine WP_cond rfl ⟨fun h9 => ?_, fun h9 => ?_⟩
  rotate_left
  · have hi' : i = l.length := by
      have : ¬ (i < l.length) := by simpa using h9
      omega
    simp only [WP_exit, nrmOr_exit, blkQ_exit, if_pos, nrmOr_nrm, blkQ_nrm]
    rw [hi', List.take_length]
    repeat (first | refine WP_seq ?_ | refine WP_reg ?_ | (refine WPO_pl rfl ?_; simp) | (refine WPO_gpl rfl ?_; simp) | (refine WPO_gcall ?_; simp) | (refine WPO_nil ?_; simp))
    simp [WP_ret, F12]
    exact hq _
  have hi' : i < l.length := by simpa using h9
  obtain ⟨b, o, c, L, rfl, hg, q1, q2⟩ := SlG.at (l := l) hv (List.getElem?_eq_getElem hi')
  have hok := hl l[i] (List.getElem_mem _)
  have htl := text_take_len hl i hi
  have hsn := text_snoc (l.take i) l[i]
  rw [← List.take_succ_eq_append_getElem hi'] at hsn
  have htk : l.take i = [] ↔ i = 0 := by
    rw [List.take_eq_nil_iff]
    constructor
    · rintro (h | h)
      · exact h
      · subst h; simp at hi'
    · exact .inl
  have hil := itemT_len hok
  have hit : itemT l[i] = digs l[i].1.toNat ++ 43 :: digs (l[i].2 - l[i].1).toNat := rfl
  generalize l[i] = r at *
  obtain ⟨o1, o2, o3⟩ := hok
  obtain ⟨a, ha⟩ : ∃ a : Nat, r.1 = a := ⟨r.1.toNat, by omega⟩
  obtain ⟨d, hd⟩ : ∃ d : Nat, r.2 - r.1 = d := ⟨(r.2 - r.1).toNat, by omega⟩
  rw [hd, ha, Int.toNat_natCast, Int.toNat_natCast] at hit
  have da := digs13 (n := a) (by omega)
  have dd := digs13 (n := d) (by omega)
  have ws : IntKind.wrap .i64 (r.2 - (a : Int)) = (d : Int) := by rw [← ha, hd]; exact wrap_i64 (by omega) (by omega)
  have wi : IntKind.wrap .i64 ((i : Int) + 1) = ((i + 1 : Nat) : Int) := by rw [wrap_i64 (by omega) (by omega)]; omega
  rw [ha] at q1
  simp only [WP_skip, nrmOr_nrm]
  refine WP_seq ?_
  refine WP_block ?_
  obtain ⟨M, hM⟩ : ∃ M : Env → Hp → Prop, M = fun e' h' => h = h' ∧ e'.get 0 = some (.sl b o l.length c) ∧ e'.get 4 = some (.int .i64 (i : Nat)) ∧ ∃ pre : Bs, e'.get 3 = some (.str pre) ∧ pre.length ≤ 28 * i + 1 ∧ text (l.take (i + 1)) = pre ++ itemT r := ⟨_, rfl⟩
  refine WP_mid M ?_ ?_
  · refine WP_seq ?_
    refine WP_reg ?_
    by_cases hi0 : i = 0
    · subst hi0
      repeat (first | (refine WPO_pl rfl ?_; simp) | (refine WPO_gpl rfl ?_; simp) | (refine WPO_gcall ?_; simp) | (refine WPO_nil ?_; simp))
      refine WP_cond rfl ⟨fun hd => (by cases hd), fun _ => ?_⟩
      simp only [WP_skip, nrmOr_nrm]
      rw [hM]
      refine ⟨rfl, rfl, rfl, [], rfl, by simp, ?_⟩
      rw [hsn, if_pos (htk.2 rfl)]
      rfl
    · have e1 : (0 : Int) < (i : Int) := by omega
      have e1' : 0 < i := by omega
      repeat (first | (refine WPO_pl rfl ?_; simp [e1, e1']) | (refine WPO_gpl rfl ?_; simp [e1, e1']) | (refine WPO_gcall ?_; simp [e1, e1']) | (refine WPO_nil ?_; simp [e1, e1']))
      refine WP_cond rfl ⟨fun _ => ?_, fun hd => by cases hd⟩
      have hl3 : (text (l.take i)).length + 1 ≤ 4611686018427387904 := by omega
      repeat (first | refine WP_seq ?_ | refine WP_reg ?_ | (refine WPO_pl rfl ?_; simp [hl3]) | (refine WPO_gpl rfl ?_; simp [hl3]) | (refine WPO_gcall ?_; simp [hl3]) | (refine WPO_nil ?_; simp [hl3]))
      rw [hM]
      refine ⟨rfl, rfl, rfl, _, rfl, by simp; omega, ?_⟩
      rw [hsn, if_neg (fun h => hi0 (htk.1 h))]
      simp
  intro e' h' hh
  rw [hM] at hh
  obtain ⟨rfl, g0, g4, pre, g3, hpre, htx⟩ := hh
  refine WP_reg ?_
  have hi2 : (i : Int) < (l.length : Int) := by omega
  repeat (first | (refine WPO_pl rfl ?_; simp [g0, g3, g4, hi', hi2, loadV_ptr hg, q1]) | (refine WPO_gpl rfl ?_; simp [g0, g3, g4, hi', hi2, loadV_ptr hg, q1]) | (refine WPO_gcall ?_; simp [g0, g3, g4, hi', hi2, loadV_ptr hg, q1]) | (refine WPO_nil ?_; simp [g0, g3, g4, hi', hi2, loadV_ptr hg, q1]))
  refine WPO_call (g := 14) (a := []) (b := []) (args := [.int .i64 (a : Int)]) rfl (by simp) ?_
  simp
  refine z14 hf14 (by omega) fun h3 => ?_
  simp
  have l1 : pre.length + (digs a).length ≤ 4611686018427387904 := by omega
  have l2 : pre.length + (digs a).length + 1 ≤ 4611686018427387904 := by omega
  have l2' : pre.length + ((digs a).length + 1) ≤ 4611686018427387904 := by omega
  repeat (first | (refine WPO_pl rfl ?_; simp [g0, g3, g4, hi', hi2, loadV_ptr hg, q1, q2, ws, l1, l2, l2']) | (refine WPO_gpl rfl ?_; simp [g0, g3, g4, hi', hi2, loadV_ptr hg, q1, q2, ws, l1, l2, l2']) | (refine WPO_gcall ?_; simp [g0, g3, g4, hi', hi2, loadV_ptr hg, q1, q2, ws, l1, l2, l2']) | (refine WPO_nil ?_; simp [g0, g3, g4, hi', hi2, loadV_ptr hg, q1, q2, ws, l1, l2, l2']))
  refine WPO_call (g := 14) (a := []) (b := []) (args := [.int .i64 (d : Int)]) rfl (by simp) ?_
  simp
  refine z14 hf14 (by omega) fun h4 => ?_
  simp
  have l3 : pre.length + ((digs a).length + ((digs d).length + 1)) ≤ 4611686018427387904 := by omega
  have l4 : pre.length + ((digs a).length + 1) + (digs d).length ≤ 4611686018427387904 := by omega
  have l5 : pre.length + (digs a).length + 1 + (digs d).length ≤ 4611686018427387904 := by omega
  repeat (first | (refine WPO_pl rfl ?_; simp [l3, l4, l5, g4, g0]) | (refine WPO_gpl rfl ?_; simp [l3, l4, l5, g4, g0]) | (refine WPO_gcall ?_; simp [l3, l4, l5, g4, g0]) | (refine WPO_nil ?_; simp [l3, l4, l5, g4, g0]))
  have wi' : IntKind.wrap .i64 ((i : Int) + 1) = (i : Int) + 1 := by rw [wi]; omega
  repeat (first | refine WP_seq ?_ | refine WP_reg ?_ | (refine WPO_pl rfl ?_; simp [wi']) | (refine WPO_gpl rfl ?_; simp [wi']) | (refine WPO_gcall ?_; simp [wi']) | (refine WPO_nil ?_; simp [wi']))
  refine ⟨l.length - (i + 1), by omega, ?_⟩
  rw [hI]
  refine ⟨rfl, i + 1, rfl, by omega, ?_⟩
  rw [htx, hit]
  rfl

def SlS (h : Hp) (v : V) (l : List Bs) : Prop := Sl h 1 v l.length (l.map V.str)
theorem strs_one (l : List Bs) : (l.map V.str).all V.one = true := by simp [V.one]
theorem strsOf_map : ∀ l : List Bs, strsOf (l.map V.str) = some l
  | [] => rfl
  | x :: r => by
    show (strsOf (r.map V.str)).bind (fun l => some (x :: l)) = _
    rw [strsOf_map r]
    rfl
theorem app_str {h0 h2 : Hp} {out : List Bs} {p : Bs} {vo : V} (hw0 : ∀ b x, h0.get b = some x → b < h0.nx) (hro : ro ≤ h0.nx) (hfr : Fr h0 h2) (hvo : SlS h2 vo out) (hown : Own h0.nx vo) (hlen : out.length ≤ 1000000) {e : Env} {x y : A} {Q : V × Hp → Prop}
    (hx : x.ev e = some vo) (hy : y.ev e = some (.sl h2.nx 0 1 2)) (hq : ∀ v' h', SlS h' v' (out ++ [p]) → Own h0.nx v' → Fr h0 h' → Q (v', h')) :
    OB (op1 ro e (h2.new (.cells 1 [V.str p])) (.app 1 16 x y)) Q := by
  have hfr3 : Fr h0 (h2.new (.cells 1 [V.str p])) := hfr.new _
  have hvo3 : SlS (h2.new (.cells 1 [V.str p])) vo out := Sl.fr ((Fr.refl hfr.wf).new _) hvo
  obtain ⟨v', h', ha, hs, ho, hf⟩ := app_sl (bytes := 16) (m := 1) (news := [V.str p]) hfr3 hw0 hro hvo3 hown (by omega) rfl (by unfold roomMax; omega) (by unfold roomMax; omega)
  rw [op1_app (v := vo) (b := h2.nx) (o := 0) (m := 1) (c := 2) (h' := h') hx hy (Sl.ofNew (h := h2) (sz := 1) (n := 1) (c := 2) (l := [V.str p]) rfl).2 rfl ha, OB_some]
  refine hq v' h' ?_ ho hf
  unfold SlS
  rw [List.map_append, List.length_append]
  exact hs
theorem join_run {h : Hp} {v : V} {l : List Bs} (hv : SlS h v l) (ho : ∃ lo, Own lo v) (hl : l.length ≤ 140737488355328) (hb : (joinS l).length ≤ 140737488355328) : orcJoin ro [v, .str [32]] h = some (.str (joinS l), h) := by
  obtain ⟨lo, rfl | ⟨b, o, n, rfl, _⟩⟩ := ho
  · have : l = [] := List.eq_nil_of_length_eq_zero hv.1
    subst this
    rfl
  · obtain ⟨h1, h2⟩ := hv
    subst h1
    simp only [orcJoin, h2, Option.bind_some, strsOf_map, joinS_eq]
    rw [if_pos ⟨hl, hb⟩]

theorem gItoa_digs {a : Nat} (ha : a ≤ 1099511627776) : gItoa [.int .i64 (a : Int)] = some (.str (digs a)) := by
  simp only [gItoa]
  rw [if_pos (by omega), itoa_digs]

set_option maxHeartbeats 4000000 in
theorem z10 {v : V} {l : List Rg} (hf : fs 10 = some (.code F10)) (hf26 : fs 26 = some (.orc (orcPure gItoa))) (hf27 : fs 27 = some (.orc orcJoin)) (hv : SlG h v l) (hv1 : v.cells = [v]) (hn : l.length ≤ 1000000) (hl : ∀ p ∈ l, RgOk p)
    (hw : ∀ b x, h.get b = some x → b < h.nx) (hro : ro ≤ h.nx) {Q : V → Hp → Prop} (hq : ∀ h', Q (.str (text l)) h') : Ev fs ro 10 [.agg [v]] h Q := by
  refine Ev_fn hf rfl rfl rfl rfl ?_
  refine WP_seq ?_
  refine WP_reg ?_
  repeat (first | (refine WPO_pl rfl ?_; simp) | (refine WPO_gpl rfl ?_; simp) | (refine WPO_gcall ?_; simp) | (refine WPO_nil ?_; simp))
  have hf1 : Fr h (h.new (.cells 0 [v])) := (Fr.refl hw).new _
  have hg1 : (h.new (.cells 0 [v])).get h.nx = some (.cells 0 [v]) := Hp.get_new_same
  have hnx1 : (h.new (.cells 0 [v])).nx = h.nx + 1 := rfl
  generalize h.new (.cells 0 [v]) = h1 at *
  have hv2 : SlG h1 v l := Sl.fr hf1 hv
  have hlen := hv2.lenV
  have hro1 : ro ≤ h1.nx := by omega
  repeat (first | refine WP_seq ?_ | refine WP_reg ?_ | (refine WPO_pl rfl ?_; simp [loadV_ptr hg1, hlen]) | (refine WPO_gpl rfl ?_; simp [loadV_ptr hg1, hlen]) | (refine WPO_gcall ?_; simp [loadV_ptr hg1, hlen]) | (refine WPO_nil ?_; simp [loadV_ptr hg1, hlen]))
  refine WP_block ?_
  obtain ⟨I, hI⟩ : ∃ I : Nat → Env → Hp → Prop, I = fun m e h2 => ∃ (i : Nat) (vo : V), m = l.length - i ∧ i ≤ l.length ∧ SlS h2 vo ((l.take i).map itemT) ∧ Own h1.nx vo ∧ Fr h1 h2 ∧ e = [(3, vo), (7, v), (8, .int .i64 (l.length : Nat)), (9, .int .i64 (i : Nat))] := ⟨_, rfl⟩
  refine WP_loop I l.length (by rw [hI]; exact ⟨0, .nsl, by omega, by omega, ⟨rfl, rfl⟩, .inl rfl, Fr.refl hf1.wf, rfl⟩) ?_
  intro m e h2 hh
  rw [hI] at hh
  obtain ⟨i, vo, rfl, hi, hvo, hown, hfr, rfl⟩ := hh
  refine WP_seq ?_
  refine WP_reg ?_
  repeat (first | (refine WPO_pl rfl ?_; simp) | (refine WPO_gpl rfl ?_; simp) | (refine WPO_gcall ?_; simp) | (refine WPO_nil ?_; simp))
  refine WP_seq ?_
  refine WP_cond rfl ⟨fun h9 => ?_, fun h9 => ?_⟩
  rotate_left
  · have hi' : i = l.length := by
      have : ¬ (i < l.length) := by simpa using h9
      omega
    have hjl : (text l).length ≤ 28 * l.length := by
      have := text_take_len hl l.length (Nat.le_refl _)
      rwa [List.take_length] at this
    rw [hi', List.take_length] at hvo
    simp only [WP_exit, nrmOr_exit, blkQ_exit, if_pos, nrmOr_nrm, blkQ_nrm]
    repeat (first | refine WP_seq ?_ | refine WP_reg ?_ | (refine WPO_pl rfl ?_; simp) | (refine WPO_gpl rfl ?_; simp) | (refine WPO_gcall ?_; simp) | (refine WPO_nil ?_; simp))
    refine WPO_call (g := 27) (a := []) (b := []) (args := [vo, .str [32]]) rfl rfl ?_
    simp
    refine Ev_orc hf27 (join_run hvo ⟨_, hown⟩ (by simp; omega) (by unfold text at hjl; omega)) ?_
    simp
    repeat (first | refine WP_seq ?_ | refine WP_reg ?_ | (refine WPO_pl rfl ?_; simp) | (refine WPO_gpl rfl ?_; simp) | (refine WPO_gcall ?_; simp) | (refine WPO_nil ?_; simp))
    simp [WP_ret, F10]
    exact hq _
  have hi' : i < l.length := by simpa using h9
  obtain ⟨b, o, c, L, rfl, hg, q1, q2⟩ := SlG.at (l := l) (Sl.fr hfr hv2) (List.getElem?_eq_getElem hi')
  have hok := hl l[i] (List.getElem_mem _)
  have htk : (l.take (i + 1)).map itemT = (l.take i).map itemT ++ [itemT l[i]] := by rw [List.take_succ_eq_append_getElem hi', List.map_append]; rfl
  have hit : itemT l[i] = digs l[i].1.toNat ++ 43 :: digs (l[i].2 - l[i].1).toNat := rfl
  generalize l[i] = r at *
  obtain ⟨o1, o2, o3⟩ := hok
  obtain ⟨a, ha⟩ : ∃ a : Nat, r.1 = a := ⟨r.1.toNat, by omega⟩
  obtain ⟨d, hd⟩ : ∃ d : Nat, r.2 - r.1 = d := ⟨(r.2 - r.1).toNat, by omega⟩
  rw [hd, ha, Int.toNat_natCast, Int.toNat_natCast] at hit
  have da := digs13 (n := a) (by omega)
  have dd := digs13 (n := d) (by omega)
  have ws : IntKind.wrap .i64 (r.2 - (a : Int)) = (d : Int) := by rw [← ha, hd]; exact wrap_i64 (by omega) (by omega)
  have wi : IntKind.wrap .i64 ((i : Int) + 1) = (i : Int) + 1 := wrap_i64 (by omega) (by omega)
  rw [ha] at q1
  simp only [WP_skip, nrmOr_nrm]
  refine WP_seq ?_
  refine WP_block ?_
  refine WP_seq ?_
  refine WP_reg ?_
  have hi2 : (i : Int) < (l.length : Int) := by omega
  repeat (first | (refine WPO_pl rfl ?_; simp [hi', hi2, loadV_ptr hg, loadN_two q1 q2]) | (refine WPO_gpl rfl ?_; simp [hi', hi2, loadV_ptr hg, loadN_two q1 q2]) | (refine WPO_gcall ?_; simp [hi', hi2, loadV_ptr hg, loadN_two q1 q2]) | (refine WPO_nil ?_; simp [hi', hi2, loadV_ptr hg, loadN_two q1 q2]))
  have hg5 : (h2.new (.cells 0 [.int .i64 0, .int .i64 0])).get h2.nx = some (.cells 0 [.int .i64 0, .int .i64 0]) := Hp.get_new_same
  refine WPO_op rfl ?_
  refine OB_store (b := h2.nx) (o := 0) (v := .agg [.int .i64 (a : Int), .int .i64 r.2]) (l' := [.int .i64 (a : Int), .int .i64 r.2]) rfl rfl (by have := hfr.nx; omega) rfl rfl hg5 rfl ?_
  have hf5 : Fr h2 ((h2.new (.cells 0 [.int .i64 0, .int .i64 0])).set h2.nx (.cells 0 [.int .i64 (a : Int), .int .i64 r.2])) := ((Fr.refl hfr.wf).new _).set hfr.wf (Nat.le_refl _) hg5 _
  have hg6 : ((h2.new (.cells 0 [.int .i64 0, .int .i64 0])).set h2.nx (.cells 0 [.int .i64 (a : Int), .int .i64 r.2])).get h2.nx = some (.cells 0 [.int .i64 (a : Int), .int .i64 r.2]) := Hp.get_set_same hg5
  generalize ((h2.new (.cells 0 [.int .i64 0, .int .i64 0])).set h2.nx (.cells 0 [.int .i64 (a : Int), .int .i64 r.2])) = h5 at *
  simp
  repeat (first | (refine WPO_pl rfl ?_; simp) | (refine WPO_gpl rfl ?_; simp) | (refine WPO_gcall ?_; simp) | (refine WPO_nil ?_; simp))
  refine WP_reg ?_
  repeat (first | (refine WPO_pl rfl ?_; simp [loadV_ptr hg6]) | (refine WPO_gpl rfl ?_; simp [loadV_ptr hg6]) | (refine WPO_gcall ?_; simp [loadV_ptr hg6]) | (refine WPO_nil ?_; simp [loadV_ptr hg6]))
  refine WPO_call (g := 26) (a := []) (b := []) (args := [.int .i64 (a : Int)]) rfl rfl ?_
  simp
  refine Ev_pure hf26 (gItoa_digs (by omega)) ?_
  simp
  have l1 : (digs a).length + 1 ≤ 4611686018427387904 := by omega
  repeat (first | (refine WPO_pl rfl ?_; simp [loadV_ptr hg6, l1, ws]) | (refine WPO_gpl rfl ?_; simp [loadV_ptr hg6, l1, ws]) | (refine WPO_gcall ?_; simp [loadV_ptr hg6, l1, ws]) | (refine WPO_nil ?_; simp [loadV_ptr hg6, l1, ws]))
  refine WPO_call (g := 26) (a := []) (b := []) (args := [.int .i64 (d : Int)]) rfl rfl ?_
  simp
  refine Ev_pure hf26 (gItoa_digs (by omega)) ?_
  simp
  have l2 : (digs a).length + ((digs d).length + 1) ≤ 4611686018427387904 := by omega
  have l3 : (digs a).length + 1 + (digs d).length ≤ 4611686018427387904 := by omega
  repeat (first | (refine WPO_pl rfl ?_; simp [l2, l3, zeros]) | (refine WPO_gpl rfl ?_; simp [l2, l3, zeros]) | (refine WPO_gcall ?_; simp [l2, l3, zeros]) | (refine WPO_nil ?_; simp [l2, l3, zeros]))
  refine WPO_op rfl ?_
  refine app_str (out := (l.take i).map itemT) (p := digs a ++ 43 :: digs d) (vo := vo) hf1.wf hro1 (hfr.trans hf5) (Sl.fr hf5 hvo) hown (by simp; omega) rfl (by simp) fun v' h6 hv' ho' hf6 => ?_
  simp
  repeat (first | refine WP_seq ?_ | refine WP_reg ?_ | (refine WPO_pl rfl ?_; simp [wi]) | (refine WPO_gpl rfl ?_; simp [wi]) | (refine WPO_gcall ?_; simp [wi]) | (refine WPO_nil ?_; simp [wi]))
  refine ⟨l.length - (i + 1), by omega, ?_⟩
  rw [hI]
  refine ⟨i + 1, v', rfl, by omega, ?_, ho', hf6, rfl⟩
  rw [htk, hit]
  exact hv'
end Go.Am.SZ
