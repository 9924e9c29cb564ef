/- The program's functions, stepped through in the plain machine. -/
import Derived.Test.YtochmoadmdmcbaaDoorAmX19
namespace Go.Am.S7
open Go
set_option maxRecDepth 100000
set_option linter.unusedSimpArgs false
set_option linter.unusedVariables false
variable {fs : Nat → Option D} {ro : Nat} {h : Hp} {e : Env}

def AllOk (l : List Rg) : Prop := l.all okR = true

def refL (l : List Rg) : List Rg := if l.all okR = true then canon l else []

theorem canon_le (l : List Rg) : (canon l).length ≤ l.length := by
  have h1 := insS_le l
  have h2 := mrgs_le (insS l)
  unfold canon
  omega

theorem okR_le {p : Rg} (h : okR p = true) : 0 ≤ p.1 ∧ p.1 ≤ p.2 ∧ p.2 ≤ 1099511627776 := by
  simp only [okR, Bool.and_eq_true, decide_eq_true_eq] at h
  exact ⟨h.1.1, h.1.2, h.2⟩

theorem okR_eq (p : Rg) : okR p = (!decide (p.1 < 0) && (!decide (p.2 < p.1) && !decide (1099511627776 < p.2))) := by
  unfold okR
  by_cases c1 : p.1 < 0 <;> by_cases c2 : p.2 < p.1 <;> by_cases c3 : 1099511627776 < p.2
  all_goals
    have d1 : decide (0 ≤ p.1) = !decide (p.1 < 0) := by simp only [decide_not, ← Int.not_lt]
    have d2 : decide (p.1 ≤ p.2) = !decide (p.2 < p.1) := by simp only [decide_not, ← Int.not_lt]
    have d3 : decide (p.2 ≤ 1099511627776) = !decide (1099511627776 < p.2) := by simp only [decide_not, ← Int.not_lt]
    rw [d1, d2, d3, Bool.and_assoc]

theorem ofL_ref (l : List Rg) : ofL l = refL l := by
  unfold ofL refL
  split
  · rename_i h
    exact mrgs_canon (fun p hp => (okR_le (List.all_eq_true.1 h p hp)).2.1) (sortR_sorted l) (sortR_mem l)
  · rfl

theorem ev33 {v : V} {l : List Rg} (hf : fs 33 = some (.code F33)) (hf37 : fs 37 = some (.code F37)) (hv : SlG h v l) (hw : ∀ b x, h.get b = some x → b < h.nx) (hro : ro ≤ h.nx) (hn : l.length ≤ 1000) {Q : V → Hp → Prop}
    (hq : ∀ x h', SlG h' x (refL l) → Own h.nx x → Fr h h' → Q (.tup [x, .int .i64 (ofE l)]) h') : Ev fs ro 33 [v] h Q := by
  have hlen := hv.lenV
  refine Ev_fn hf rfl rfl rfl rfl ?_
  refine WP_seq ?_
  refine WP_reg ?_
  repeat (first | (refine WPO_op rfl ?_; simp) | (refine WPO_nil ?_; simp))
  refine WP_mid (fun e' h' => h = h' ∧ AllOk l ∧ e'.get 0 = some v) ?_ ?_
  · refine WP_seq ?_
    refine WP_reg ?_
    repeat (first | (refine WPO_op rfl ?_; simp) | (refine WPO_nil ?_; simp))
    refine WP_block ?_
    refine WP_loop (fun m e h1 => ∃ i, m = l.length - i ∧ i ≤ l.length ∧ AllOk (l.take i) ∧ h = h1 ∧ e = [(0, v), (4, .int .i64 (i : Nat))]) l.length ⟨0, by omega, by omega, by simp [AllOk], rfl, rfl⟩ ?_
    rintro m e h1 ⟨i, rfl, hi, hok, rfl, rfl⟩
    refine WP_seq ?_
    refine WP_seq ?_
    refine WP_reg ?_
    repeat (first | (refine WPO_op rfl ?_; simp [hlen]) | (refine WPO_nil ?_; simp))
    refine WP_cond rfl ⟨fun ht => ?_, fun ht => ?_⟩
    · have hi' : i < l.length := by simpa using ht
      obtain ⟨b, o, c, L, rfl, hg, q1, q2⟩ := SlG.at hv (List.getElem?_eq_getElem hi')
      have hwr : IntKind.wrap .i64 ((i : Int) + 1) = ((i + 1 : Nat) : Int) := by rw [wrap_i64 (by omega) (by omega)]; omega
      simp only [WP_skip, nrmOr_nrm]
      refine WP_mid (fun e' h' => h = h' ∧ okR l[i] = true ∧ e'.get 0 = some (.sl b o l.length c) ∧ e'.get 4 = some (.int .i64 (i : Nat))) ?_ ?_
      · refine WP_block ?_
        refine WP_mid (fun e2 h2 => h = h2 ∧ e2 = [(0, .sl b o l.length c), (4, .int .i64 (i : Nat)), (38, .bool (!okR l[i]))]) ?_ ?_
        · refine WP_reg ?_
          rw [okR_eq]
          by_cases c1 : l[i].1 < 0 <;> by_cases c2 : l[i].2 < l[i].1 <;> by_cases c3 : 1099511627776 < l[i].2 <;>
            repeat (first | (refine WPO_op rfl ?_; simp [loadV_ptr hg, q1, q2, hi', c1, c2, c3]; done) | (refine WPO_op rfl ?_; simp [loadV_ptr hg, q1, q2, hi', c1, c2, c3]) | (refine WPO_gop rfl ?_; simp [loadV_ptr hg, q1, q2, hi', c1, c2, c3]) | (refine WPO_nil ?_; simp [c1, c2, c3]))
        rintro e2 h2 ⟨rfl, rfl⟩
        refine WP_cond rfl ⟨fun hd => ?_, fun hd => ?_⟩
        · have hb : okR l[i] = false := by simpa using hd
          have hall : l.all okR = false := by
            cases hc : l.all okR with
            | false => rfl
            | true =>
              have := List.all_eq_true.1 hc l[i] (List.getElem_mem hi')
              rw [hb] at this; cases this
          repeat (first | refine WP_seq ?_ | refine WP_reg ?_ | (refine WPO_op rfl ?_; simp) | (refine WPO_nil ?_; simp))
          simp [WP_ret, F33]
          have := hq .nsl h (by simp only [refL, hall]; exact ⟨rfl, rfl⟩) (.inl rfl) (Fr.refl hw)
          simpa [ofE, hall, pack] using this
        · have hb : okR l[i] = true := by simpa using hd
          simp only [WP_skip, blkQ_nrm, nrmOr_nrm]
          exact ⟨trivial, hb, rfl, rfl⟩
      rintro e' h' ⟨rfl, hb, e0, e4⟩
      repeat (first | refine WP_reg ?_ | (refine WPO_op rfl ?_; simp [e4]) | (refine WPO_nil ?_; simp [e0, e4]))
      refine ⟨l.length - (i + 1), by omega, i + 1, rfl, by omega, ?_, ?_⟩
      · unfold AllOk at hok ⊢
        rw [List.take_succ_eq_append_getElem hi', List.all_append, hok]
        simp [hb]
      · rw [hwr]
    · have hi' : i = l.length := by
        have : ¬ (i < l.length) := by simpa using ht
        omega
      subst hi'
      rw [List.take_length] at hok
      simp only [WP_exit, nrmOr_exit, blkQ_exit, if_pos, nrmOr_nrm, blkQ_nrm]
      exact ⟨trivial, hok, rfl⟩
  rintro e1 h1 ⟨rfl, hok, e0⟩
  unfold AllOk at hok
  refine WP_seq ?_
  refine WP_reg ?_
  refine WPO_op rfl ?_
  simp [e0]
  refine WPO_call (g := 37) (a := []) (b := []) (args := [v]) rfl (by simp) ?_
  simp
  refine ev37 hf37 hv (fun p hp => (okR_le (List.all_eq_true.1 hok p hp)).2.1) hw (Nat.le_refl _) hn fun x h2 hsx hox hfx => ?_
  obtain ⟨hsR, hfR⟩ : SlG (if ground x = true then h else h2) x (canon l) ∧ Fr h (if ground x = true then h else h2) := by
    rcases hox with rfl | ⟨b, o, n, rfl, hb⟩
    · have hl := List.eq_nil_of_length_eq_zero hsx.1
      rw [hl]
      exact ⟨⟨rfl, rfl⟩, Fr.refl hw⟩
    · exact ⟨hsx, hfx⟩
  generalize (if ground x = true then h else h2) = hR at *
  have hlx := hsR.lenV
  have hcl := canon_le l
  refine WPO_op rfl ?_
  simp
  refine WPO_nil ?_
  simp
  refine WP_seq ?_
  refine WP_seq ?_
  refine WP_reg ?_
  repeat (first | (refine WPO_op rfl ?_; simp [hlx]) | (refine WPO_nil ?_; simp))
  refine WP_cond rfl ⟨fun hd => ?_, fun hd => ?_⟩
  · exfalso
    simp at hd
    omega
  simp only [WP_skip, nrmOr_nrm]
  repeat (first | refine WP_seq ?_ | refine WP_reg ?_ | (refine WPO_op rfl ?_; simp) | (refine WPO_nil ?_; simp))
  simp [WP_ret, F33]
  have := hq x hR (by simp only [refL, hok, if_true]; exact hsR) hox hfR
  simpa [ofE, hok, pack] using this
end Go.Am.S7
/- The law's made and the reference's Has; the law RangesOf. -/
namespace Go.Am.S7
open Go
set_option maxRecDepth 100000
set_option linter.unusedSimpArgs false
set_option linter.unusedVariables false
variable {fs : Nat → Option D} {ro : Nat} {h : Hp} {e : Env}

theorem sl_pre2 {v : V} {l : List Rg} {k : Nat} {x y : A} (hv : SlG h v l) (hs : Shape v) (hk : k ≤ l.length) (hx : x.ev e = some v) (hy : y.ev e = some (.int .i64 (k : Int))) :
    ∃ u, op1 ro e h (.slSl 2 x none (some y) none) = some (u, h) ∧ (∀ h', SlG h' v l → SlG h' u (l.take k)) ∧ Shape u := by
  have hkt : (l.take k).length = k := by simp; omega
  rcases hs with rfl | rfl | ⟨b, o, n, rfl⟩
  · obtain ⟨hl, _⟩ := hv
    have hl' : l = [] := List.eq_nil_of_length_eq_zero hl
    subst hl'
    have : k = 0 := by simpa using hk
    subst this
    exact ⟨.nsl, by simp [op1, hx, hy, evO, bound], fun _ _ => ⟨rfl, rfl⟩, .inl rfl⟩
  · obtain ⟨hl, _⟩ := hv
    have hl' : l = [] := List.eq_nil_of_length_eq_zero hl
    subst hl'
    have : k = 0 := by simpa using hk
    subst this
    exact ⟨.esl, by simp [op1, hx, hy, evO, bound], fun _ _ => ⟨rfl, rfl⟩, .inr (.inl rfl)⟩
  · obtain ⟨rfl, hsh⟩ := hv
    obtain ⟨L, hg, _, _⟩ := shown_spec hsh
    have hz : zIs h b 2 = true := by simp [zIs, hg]
    by_cases h0 : 0 < l.length
    · refine ⟨.sl b o k 0, ?_, fun h' hv' => ?_, .inr (.inr ⟨_, _, _, rfl⟩)⟩
      · simp [op1, hx, hy, evO, bound, hz, hk, h0]
      · obtain ⟨L, hg, hle, hfl⟩ := shown_spec hv'.2
        refine ⟨hkt.symm, ?_⟩
        rw [hkt, shown_mk hg (by omega), flat_take, hfl, List.take_take]
        congr 2
        omega
    · have hl' : l = [] := List.eq_nil_of_length_eq_zero (by omega)
      subst hl'
      have : k = 0 := by simpa using hk
      subst this
      exact ⟨.esl, by simp [op1, hx, hy, evO, bound, hz], fun _ _ => ⟨rfl, rfl⟩, .inr (.inl rfl)⟩

theorem OB_pre2 {v : V} {l : List Rg} {k : Nat} {x y : A} {Q : V × Hp → Prop} (hv : SlG h v l) (hs : Shape v) (hk : k ≤ l.length) (hx : x.ev e = some v) (hy : y.ev e = some (.int .i64 (k : Int)))
    (H : ∀ u, (∀ h', SlG h' v l → SlG h' u (l.take k)) → Shape u → Q (u, h)) : OB (op1 ro e h (.slSl 2 x none (some y) none)) Q := by
  obtain ⟨u, h1, h2, h3⟩ := sl_pre2 (ro := ro) hv hs hk hx hy
  rw [h1, OB_some]
  exact H u h2 h3

theorem refL_fine (l : List Rg) : Fine (refL l) := by
  unfold refL
  split
  · rename_i hok
    have hv : ∀ p ∈ l, 0 ≤ p.1 ∧ p.1 ≤ p.2 ∧ p.2 ≤ 1099511627776 := fun p hp => okR_le (List.all_eq_true.1 hok p hp)
    obtain ⟨hn, hm⟩ := canon_spec (l := l) fun p hp => (hv p hp).2.1
    intro p hp
    have h1 := hn.1 p hp
    obtain ⟨q, hq, g1, _⟩ := (hm p.1).1 ⟨p, hp, by omega, by omega⟩
    obtain ⟨q2, hq2, _, g2⟩ := (hm (p.2 - 1)).1 ⟨p, hp, by omega, by omega⟩
    have := hv q hq
    have := hv q2 hq2
    omega
  · intro p hp; cases hp

theorem refL_norm (l : List Rg) : Norm (refL l) := by
  unfold refL
  split
  · rename_i hok
    exact (canon_spec (l := l) fun p hp => (okR_le (List.all_eq_true.1 hok p hp)).2.1).1
  · exact ⟨fun p hp => (by cases hp), List.Pairwise.nil⟩

theorem refL_len (l : List Rg) : (refL l).length ≤ l.length := by
  unfold refL
  split
  · exact canon_le l
  · simp

theorem aft1 {h h2 : Hp} {x : V} {l : List Rg} {lo : Nat} (hw : ∀ b x, h.get b = some x → b < h.nx) (hs : SlG h2 x l) (ho : Own lo x) (hf : Fr h h2) :
    SlG (if ground x = true then h else h2) x l ∧ Fr h (if ground x = true then h else h2) := by
  rcases ho with rfl | ⟨b, o, n, rfl, hb⟩
  · have hl := List.eq_nil_of_length_eq_zero hs.1
    rw [hl]
    exact ⟨⟨rfl, rfl⟩, Fr.refl hw⟩
  · exact ⟨hs, hf⟩

theorem aft3 {h h2 : Hp} {x y : V} {l : List Rg} {lo : Nat} {b : Bool} (hw : ∀ b x, h.get b = some x → b < h.nx) (hs : SlG h2 x l) (hsy : SlG h2 y l) (ho : Own lo x) (hoy : Own lo y) (hf : Fr h h2) :
    SlG (if ground (.tup [.agg [x], y, .bool b]) = true then h else h2) x l ∧ SlG (if ground (.tup [.agg [x], y, .bool b]) = true then h else h2) y l ∧ Fr h (if ground (.tup [.agg [x], y, .bool b]) = true then h else h2) := by
  rcases ho with rfl | ⟨b1, o1, n1, rfl, _⟩
  · have hl := List.eq_nil_of_length_eq_zero hs.1
    subst hl
    rcases hoy with rfl | ⟨b2, o2, n2, rfl, _⟩
    · exact ⟨⟨rfl, rfl⟩, ⟨rfl, rfl⟩, Fr.refl hw⟩
    · exact ⟨hs, hsy, hf⟩
  · exact ⟨hs, hsy, hf⟩

set_option maxHeartbeats 1000000 in
theorem ev13 {v : V} {l : List Rg} (hf13 : fs 13 = some (.code F13)) (hf32 : fs 32 = some (.code F32)) (hf26 : fs 26 = some (.code F26)) (hf34 : fs 34 = some (.code F34)) (hf52 : fs 52 = some (.code F52)) (hf43 : fs 43 = some (.code F43)) (hf44 : fs 44 = some (.code F44)) (hf45 : fs 45 = some (.code F45)) (hf46 : fs 46 = some (.orc (orcSort 47))) (hf25 : fs 25 = some (.code F25))
    (hf33 : fs 33 = some (.code F33)) (hf37 : fs 37 = some (.code F37)) (hf12 : fs 12 = some (.code F12)) (hf28 : fs 28 = some (.code F28)) (hf29 : fs 29 = some (.code F29)) (hf30 : fs 30 = some (.code F30)) (hf31 : fs 31 = some (.code F31))
    (hv : SlG h v l) (hsh : Shape v) (hw : ∀ b x, h.get b = some x → b < h.nx) (hro : ro ≤ h.nx) {Q : V → Hp → Prop}
    (hq : ∀ x y h', SlG h' x (refL (l.take 60)) → SlG h' y (refL (l.take 60)) → Own h.nx x → Own h.nx y → Fr h h' → Q (.tup [.agg [x], y, .bool true]) h') : Ev fs ro 13 [v] h Q := by
  have hlen := hv.lenV
  refine Ev_fn hf13 rfl rfl rfl rfl ?_
  have hf1 : Fr h (h.new (.cells 0 [.nsl])) := (Fr.refl hw).new _
  have hg1 : (h.new (.cells 0 [.nsl])).get h.nx = some (.cells 0 [.nsl]) := Hp.get_new_same
  refine WP_seq ?_
  refine WP_reg ?_
  refine WPO_op rfl ?_
  simp
  refine WPO_op rfl ?_
  simp
  refine WPO_op rfl ?_
  simp
  refine WPO_nil ?_
  simp
  have hnx1 : h.nx < (h.new (.cells 0 [.nsl])).nx := by simp
  generalize (h.new (.cells 0 [.nsl])) = h1 at *
  have hv1 : SlG h1 v l := Sl.fr hf1 hv
  refine WP_seq ?_
  refine WP_reg ?_
  refine WPO_op rfl ?_
  simp
  refine WPO_op rfl ?_
  simp
  refine WPO_op rfl ?_
  simp [hlen]
  refine WPO_op rfl ?_
  simp [mins, fold2, min2]
  refine WPO_op rfl ?_
  refine OB_pre2 (k := min l.length 60) hv1 hsh (by omega) rfl (by
    simp
    split <;> omega) fun u huv hsu => ?_
  have ht60 : l.take (min l.length 60) = l.take 60 := by
    rw [Nat.min_comm]
    rcases Nat.le_total 60 l.length with h3 | h3
    · rw [Nat.min_eq_left h3]
    · rw [Nat.min_eq_right h3, List.take_length, List.take_of_length_le h3]
  rw [ht60] at huv
  have hl60 : (l.take 60).length ≤ 60 := by simp; omega
  have huv' : ∀ h', Fr h h' → SlG h' u (l.take 60) := fun h' hf' => huv h' (Sl.fr hf' hv)
  have hu := huv' h1 hf1
  clear hv1 hv hlen ht60 hsh huv
  generalize l.take 60 = k at *
  simp
  refine WPO_op rfl ?_
  simp
  refine WPO_nil ?_
  simp
  refine WP_seq ?_
  refine WP_reg ?_
  refine WPO_op rfl ?_
  simp
  refine WPO_call (g := 32) (a := []) (b := []) (args := [u]) rfl rfl ?_
  simp
  refine ev32 hf32 hu hf1.wf (Nat.le_refl _) hl60 fun a h2 hsa hoa hfa => ?_
  obtain ⟨hsA, hfA⟩ := aft1 hf1.wf hsa hoa hfa
  generalize (if ground a = true then h1 else h2) = hA at *
  refine WPO_call (g := 26) (a := []) (b := []) (args := [a]) rfl rfl ?_
  simp
  refine ev26 hf26 hf34 hf52 hf43 hf44 hf45 hf46 hf25 hsA hfA.wf (Nat.le_refl _) (by omega) fun x h3 hsx hox hfx => ?_
  obtain ⟨hsX, hfX⟩ := aft (k := .i64) (n := ofE k) hfA.wf hsx hox hfx (.inl rfl)
  generalize (if ground (V.tup [V.agg [x], V.int .i64 (ofE k)]) = true then hA else h3) = hX at *
  have hf1X := hfA.trans hfX
  have hgX := hf1X.sub _ _ hg1
  have huX : SlG hX u k := Sl.fr hf1X hu
  obtain ⟨hxc1, hxc2⟩ := hox.cells
  refine WPO_op rfl ?_
  simp
  refine WPO_op rfl ?_
  simp [op1]
  refine WPO_op rfl ?_
  simp [op1]
  refine WPO_op rfl ?_
  refine OB_store (b := h.nx) (o := 0) (v := V.agg [x]) (l' := [x]) rfl rfl (by omega) rfl (by simp [V.cells, hxc2]) hgX rfl ?_
  have hoX : Own (h.nx + 1) x := hox.mono (by have := hfA.nx; omega)
  have hsY : SlG (hX.set h.nx (.cells 0 [x])) x (ofL k) := Sl.set_ne hsX hoX (by omega) _
  have hgY : (hX.set h.nx (.cells 0 [x])).get h.nx = some (.cells 0 [x]) := Hp.get_set_same hgX
  have hfY : Fr h (hX.set h.nx (.cells 0 [x])) := (hf1.trans hf1X).set hw (Nat.le_refl _) hgX _
  have huY : SlG (hX.set h.nx (.cells 0 [x])) u k := by
    exact huv' _ hfY
  generalize (hX.set h.nx (.cells 0 [x])) = hY at *
  clear hgX huX hsX
  simp
  repeat (first | (refine WPO_op rfl ?_; simp) | (refine WPO_nil ?_; simp))
  refine WP_seq ?_
  refine WP_reg ?_
  refine WPO_op rfl ?_
  simp
  refine WPO_call (g := 33) (a := []) (b := []) (args := [u]) rfl rfl ?_
  simp
  refine ev33 hf33 hf37 huY hfY.wf (Nat.le_refl _) (by omega) fun y h4 hsy hoy hfy => ?_
  obtain ⟨hsR, hfR⟩ := aft (k := .i64) (n := ofE k) hfY.wf hsy hoy hfy (.inr rfl)
  generalize (if ground (V.tup [y, V.int .i64 (ofE k)]) = true then hY else h4) = hR at *
  have hgR := hfR.sub _ _ hgY
  have hsxR : SlG hR x (ofL k) := Sl.fr hfR hsY
  rw [ofL_ref] at hsxR
  refine WPO_op rfl ?_
  simp
  refine WPO_op rfl ?_
  simp [op1]
  refine WPO_op rfl ?_
  simp [op1]
  repeat (first | (refine WPO_op rfl ?_; simp) | (refine WPO_nil ?_; simp))
  refine WP_seq ?_
  refine WP_reg ?_
  repeat (first | (refine WPO_op rfl ?_; simp [loadV_ptr hgR, loadN]; done) | (refine WPO_op rfl ?_; simp [loadV_ptr hgR, loadN]) | (refine WPO_gop rfl ?_; simp [loadV_ptr hgR, loadN]))
  refine WPO_gcall ?_
  simp
  refine WPO_call (g := 12) (a := []) (b := []) (args := [.agg [x], y]) rfl rfl ?_
  simp
  have hfhR := hfY.trans hfR
  refine ev12 hf12 hf28 hf45 hf29 hf30 hf31 hsxR hxc1 hsR hfhR.wf (by have := refL_len k; omega) (refL_fine k) fun h5 => ?_
  simp
  refine WPO_op rfl ?_
  simp
  refine WPO_op rfl ?_
  simp
  refine WPO_op rfl ?_
  refine OB_store (b := h.nx) (o := 0) (v := V.agg [x]) (l' := [x]) rfl rfl (by omega) rfl (by simp [V.cells, hxc2]) hgR rfl ?_
  have hoY : Own (h.nx + 1) y := hoy.mono (by have := (hf1.trans hf1X).nx; have := hfY.wf _ _ hgY; omega)
  have hs1 : SlG (hR.set h.nx (.cells 0 [x])) x (refL k) := Sl.set_ne hsxR hoX (by omega) _
  have hs2 : SlG (hR.set h.nx (.cells 0 [x])) y (refL k) := Sl.set_ne hsR hoY (by omega) _
  have hg2 : (hR.set h.nx (.cells 0 [x])).get h.nx = some (.cells 0 [x]) := Hp.get_set_same hgR
  have hf2 : Fr h (hR.set h.nx (.cells 0 [x])) := hfhR.set hw (Nat.le_refl _) hgR _
  generalize (hR.set h.nx (.cells 0 [x])) = hZ at *
  simp
  repeat (first | (refine WPO_op rfl ?_; simp) | (refine WPO_nil ?_; simp))
  simp [WP_ret, F13, loadV_ptr hg2, loadN, pack]
  exact hq x y hZ hs1 hs2 (hoX.mono (Nat.le_succ _)) (hoY.mono (Nat.le_succ _)) hf2

theorem ev15 {v : V} {l : List Rg} {at' : Int} (hf : fs 15 = some (.code F15)) (hv : SlG h v l) (hn : l.length ≤ 1000000) {Q : V → Hp → Prop} (hq : ∀ h', Q (.bool (l.any (hasP at'))) h') : Ev fs ro 15 [v, .int .i64 at'] h Q := by
  have hlen := hv.lenV
  refine Ev_fn hf rfl rfl rfl rfl ?_
  refine WP_seq ?_
  refine WP_reg ?_
  repeat (first | (refine WPO_op rfl ?_; simp) | (refine WPO_nil ?_; simp))
  refine WP_seq ?_
  refine WP_seq ?_
  refine WP_reg ?_
  repeat (first | (refine WPO_op rfl ?_; simp) | (refine WPO_nil ?_; simp))
  refine WP_block ?_
  refine WP_loop (fun m e h1 => ∃ i, m = l.length - i ∧ i ≤ l.length ∧ nh at' l i ∧ h = h1 ∧ e = [(0, v), (1, .int .i64 at'), (5, .int .i64 (i : Nat))]) l.length ⟨0, by omega, by omega, by simp [nh], rfl, rfl⟩ ?_
  rintro m e h1 ⟨i, rfl, hi, hany, rfl, rfl⟩
  refine WP_seq ?_
  refine WP_seq ?_
  refine WP_reg ?_
  repeat (first | (refine WPO_op rfl ?_; simp [hlen]) | (refine WPO_nil ?_; simp))
  refine WP_cond rfl ⟨fun ht => ?_, fun ht => ?_⟩
  · have hi' : i < l.length := by simpa using ht
    obtain ⟨b, o, c, L, rfl, hg, q1, q2⟩ := SlG.at hv (List.getElem?_eq_getElem hi')
    have hwr : IntKind.wrap .i64 ((i : Int) + 1) = ((i + 1 : Nat) : Int) := by rw [wrap_i64 (by omega) (by omega)]; omega
    simp only [WP_skip, nrmOr_nrm]
    refine WP_mid (fun e' h' => h = h' ∧ hasP at' l[i] = false ∧ e'.get 0 = some (.sl b o l.length c) ∧ e'.get 1 = some (.int .i64 at') ∧ e'.get 5 = some (.int .i64 (i : Nat))) ?_ ?_
    · refine WP_block ?_
      refine WP_mid (fun e2 h2 => h = h2 ∧ e2 = [(0, .sl b o l.length c), (1, .int .i64 at'), (5, .int .i64 (i : Nat)), (27, .bool (hasP at' l[i]))]) ?_ ?_
      · refine WP_reg ?_
        by_cases c1 : l[i].1 ≤ at' <;> by_cases c2 : at' < l[i].2 <;>
          repeat (first | (refine WPO_op rfl ?_; simp [loadV_ptr hg, q1, q2, hi', c1, c2]; done) | (refine WPO_op rfl ?_; simp [loadV_ptr hg, q1, q2, hi', c1, c2]) | (refine WPO_gop rfl ?_; simp [loadV_ptr hg, q1, q2, hi', c1, c2]) | (refine WPO_nil ?_; simp [hasP, c1, c2]))
      rintro e2 h2 ⟨rfl, rfl⟩
      refine WP_cond rfl ⟨fun hd => ?_, fun hd => ?_⟩
      · have hp : hasP at' l[i] = true := by simpa using hd
        repeat (first | refine WP_seq ?_ | refine WP_reg ?_ | (refine WPO_op rfl ?_; simp) | (refine WPO_nil ?_; simp))
        simp [WP_ret, F15]
        have := hq h
        have hall : l.any (hasP at') = true := List.any_eq_true.2 ⟨l[i], List.getElem_mem hi', hp⟩
        rwa [hall] at this
      · have hp : hasP at' l[i] = false := by simpa using hd
        simp only [WP_skip, blkQ_nrm, nrmOr_nrm]
        exact ⟨trivial, hp, rfl, rfl, rfl⟩
    rintro e' h' ⟨rfl, hp, e0, e1, e5⟩
    repeat (first | refine WP_reg ?_ | (refine WPO_op rfl ?_; simp [e5]) | (refine WPO_nil ?_; simp [e0, e1, e5]))
    refine ⟨l.length - (i + 1), by omega, i + 1, rfl, by omega, ?_, ?_⟩
    · unfold nh at hany ⊢
      rw [List.take_succ_eq_append_getElem hi', List.any_append, hany]
      simp only [List.any_cons, List.any_nil, hp, Bool.or_false]
    · rw [hwr]
  · have hi' : i = l.length := by
      have : ¬ (i < l.length) := by simpa using ht
      omega
    subst hi'
    simp only [WP_exit, nrmOr_exit, blkQ_exit, if_pos, nrmOr_nrm, blkQ_nrm]
    repeat (first | refine WP_seq ?_ | refine WP_reg ?_ | (refine WPO_op rfl ?_; simp) | (refine WPO_nil ?_; simp))
    simp [WP_ret, F15]
    unfold nh at hany
    rw [List.take_length] at hany
    have := hq h
    rwa [hany] at this

theorem ev4 {v : V} {l : List Rg} {at' : Int} (hf4 : fs 4 = some (.code F4)) (hf13 : fs 13 = some (.code F13)) (hf32 : fs 32 = some (.code F32)) (hf26 : fs 26 = some (.code F26)) (hf34 : fs 34 = some (.code F34)) (hf52 : fs 52 = some (.code F52)) (hf43 : fs 43 = some (.code F43)) (hf44 : fs 44 = some (.code F44)) (hf45 : fs 45 = some (.code F45)) (hf46 : fs 46 = some (.orc (orcSort 47))) (hf25 : fs 25 = some (.code F25))
    (hf33 : fs 33 = some (.code F33)) (hf37 : fs 37 = some (.code F37)) (hf12 : fs 12 = some (.code F12)) (hf28 : fs 28 = some (.code F28)) (hf29 : fs 29 = some (.code F29)) (hf30 : fs 30 = some (.code F30)) (hf31 : fs 31 = some (.code F31)) (hf11 : fs 11 = some (.orc orcKnown)) (hf14 : fs 14 = some (.code F14)) (hf15 : fs 15 = some (.code F15)) (hf35 : fs 35 = some (.code F35))
    (hv : SlG h v l) (hsh : Shape v) (hw : ∀ b x, h.get b = some x → b < h.nx) (hro : ro ≤ h.nx) {Q : V → Hp → Prop} (hq : ∀ h', Q (.bool true) h') : Ev fs ro 4 [v, .int .i64 at'] h Q := by
  refine Ev_fn hf4 rfl rfl rfl rfl ?_
  refine WP_seq ?_
  refine WP_reg ?_
  repeat (first | (refine WPO_op rfl ?_; simp) | (refine WPO_nil ?_; simp))
  refine WP_seq ?_
  refine WP_reg ?_
  refine WPO_op rfl ?_
  simp
  refine WPO_call (g := 13) (a := []) (b := []) (args := [v]) rfl rfl ?_
  simp
  refine ev13 hf13 hf32 hf26 hf34 hf52 hf43 hf44 hf45 hf46 hf25 hf33 hf37 hf12 hf28 hf29 hf30 hf31 hv hsh hw (Nat.le_refl _) fun x y h2 hsx hsy hox hoy hfx => ?_
  obtain ⟨hsX, hsY, hfR⟩ := aft3 (b := true) hw hsx hsy hox hoy hfx
  have hL := refL_len (l.take 60)
  have hL2 : (l.take 60).length ≤ 60 := by simp; omega
  generalize (if ground (V.tup [V.agg [x], y, V.bool true]) = true then h else h2) = hR at *
  generalize refL (l.take 60) = k at *
  obtain ⟨hxc1, hxc2⟩ := hox.cells
  have hg5 : (hR.new (.cells 0 [.nsl])).get hR.nx = some (.cells 0 [.nsl]) := Hp.get_new_same
  have hfn : Fr hR ((hR.new (.cells 0 [.nsl])).set hR.nx (.cells 0 [x])) := ((Fr.refl hfR.wf).new _).set hfR.wf (Nat.le_refl _) hg5 _
  have hg6 : ((hR.new (.cells 0 [.nsl])).set hR.nx (.cells 0 [x])).get hR.nx = some (.cells 0 [x]) := Hp.get_set_same hg5
  refine WPO_op rfl ?_
  simp
  refine WPO_op rfl ?_
  simp [op1]
  refine WPO_op rfl ?_
  simp [op1]
  refine WPO_op rfl ?_
  simp [op1]
  refine WPO_op rfl ?_
  simp
  refine WPO_op rfl ?_
  refine OB_store (b := hR.nx) (o := 0) (v := V.agg [x]) (l' := [x]) rfl rfl (by have := hfR.nx; omega) rfl (by simp [V.cells, hxc2]) hg5 rfl ?_
  generalize ((hR.new (.cells 0 [.nsl])).set hR.nx (.cells 0 [x])) = hS at *
  have hsX2 : SlG hS x k := Sl.fr hfn hsX
  have hsY2 : SlG hS y k := Sl.fr hfn hsY
  simp
  repeat (first | (refine WPO_op rfl ?_; simp) | (refine WPO_nil ?_; simp))
  refine WP_seq ?_
  refine WP_reg ?_
  refine WPO_call (g := 11) (a := []) (b := []) (args := []) rfl rfl ?_
  refine Ev_orc hf11 (r := .bool true) (h' := hS) rfl ?_
  simp
  repeat (first | (refine WPO_op rfl ?_; simp [loadV_ptr hg6, loadN]; done) | (refine WPO_op rfl ?_; simp [loadV_ptr hg6, loadN]) | (refine WPO_gop rfl ?_; simp [loadV_ptr hg6, loadN]))
  refine WPO_gcall ?_
  simp
  refine WPO_call (g := 14) (a := []) (b := []) (args := [.agg [x], .int .i64 at']) rfl rfl ?_
  simp
  refine ev14 hf14 hf34 hf52 hf35 hsX2 hxc1 hfn.wf (by omega) fun h4 => ?_
  simp
  repeat (first | (refine WPO_op rfl ?_; simp; done) | (refine WPO_op rfl ?_; simp) | (refine WPO_gop rfl ?_; simp))
  refine WPO_gcall ?_
  simp
  refine WPO_call (g := 15) (a := []) (b := []) (args := [y, .int .i64 at']) rfl rfl ?_
  simp
  refine ev15 hf15 hsY2 (by omega) fun h5 => ?_
  simp
  generalize k.any (hasP at') = bb
  cases bb <;>
    (repeat (first | (refine WPO_op rfl ?_; simp [eqK]; done) | (refine WPO_op rfl ?_; simp [eqK]) | (refine WPO_gop rfl ?_; simp [eqK]) | (refine WPO_nil ?_; simp))
     simp [WP_ret, F4]
     exact hq _)
end Go.Am.S7
