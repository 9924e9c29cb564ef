/- The program's functions, stepped through in the plain machine. -/
import Derived.Test.YtochmoadmdmcbaaDoorAmX2
namespace Go.Am.S7
open Go
set_option maxRecDepth 100000
variable {fs : Nat → Option D} {ro : Nat} {h : Hp}

def intsV (k : IntKind) (z : List Int) : List V := z.map (V.int k)

/-- A slice of bytes. -/
def SlI (h : Hp) (v : V) (l : List Int) : Prop := Sl h 1 v l.length (intsV .u8 l)

theorem SlI.at {h : Hp} {v : V} {l : List Int} (hv : SlI h v l) {i : Nat} (hi : i < l.length) :
    ∃ b o c L, v = .sl b o l.length c ∧ h.get b = some (.cells 1 L) ∧ L[o + i]? = some (.int .u8 l[i]) :=
  Sl.at hv (by simp [intsV, List.getElem?_map, List.getElem?_eq_getElem hi])

/-- Do two byte strings differ at a place? -/
def chg (a b : List Int) (i : Nat) : Bool := decide (a.length ≤ i) || decide (b.length ≤ i) || (a.getD i 0 != b.getD i 0)

def chs (a b : List Int) : Nat → List (Int × Int)
  | 0 => []
  | n + 1 => if chg a b n = true then chs a b n ++ [((n : Int), (n : Int) + 1)] else chs a b n

theorem chs_len (a b : List Int) : ∀ n, (chs a b n).length ≤ n
  | 0 => by simp [chs]
  | n + 1 => by
    have := chs_len a b n
    unfold chs
    split
    · simp; omega
    · omega

/-- What Changed tells: the ranges, and the error's number. -/
def chL (a b : List Int) : List (Int × Int) := if max a.length b.length > 65536 then [] else if (mrgs (chs a b (max a.length b.length))).length > 1024 then [] else mrgs (chs a b (max a.length b.length))
def chE (a b : List Int) : Int := if max a.length b.length > 65536 then 5 else if (mrgs (chs a b (max a.length b.length))).length > 1024 then 9 else 0

theorem made_after {out : List (Int × Int)} {v' : V} {h1 h' : Hp} (hw : ∀ b x, h1.get b = some x → b < h1.nx) (hs' : SlG h' v' out) (ho' : Own h1.nx v') (hf' : Fr h1 h') :
    ∃ x hR, madeV out v' = .tup [.agg [x], .int .i64 (if out.length > 1024 then 9 else 0)] ∧ (if ground (madeV out v') = true then h1 else h') = hR ∧ Fr h1 hR ∧ Own h1.nx x ∧ SlG hR x (if out.length > 1024 then [] else out) := by
  by_cases hl : out.length > 1024
  · refine ⟨.nsl, _, by simp [madeV, hl], rfl, ?_, .inl rfl, by simp only [hl, if_true]; exact ⟨rfl, rfl⟩⟩
    split
    · exact Fr.refl hw
    · exact hf'
  · refine ⟨v', _, by simp [madeV, hl], rfl, ?_, ho', ?_⟩
    · split
      · exact Fr.refl hw
      · exact hf'
    · simp only [hl, if_false, madeV]
      rcases ho' with rfl | ⟨b, o, n, rfl, hb⟩
      · split
        · exact hs'
        · exact hs'
      · rw [if_neg (by simp [ground, g1, g0])]
        exact hs'

set_option maxHeartbeats 400000 in
theorem ev9 {va vb : V} {la lb : List Int} (hf9 : fs 9 = some (.code F9)) (hf25 : fs 25 = some (.code F25)) (ha : SlI h va la) (hb : SlI h vb lb) (hw : ∀ b x, h.get b = some x → b < h.nx) (hro : ro ≤ h.nx) {Q : V → Hp → Prop}
    (hq : ∀ x h', SlG h' x (chL la lb) → Own h.nx x → Fr h h' → Q (.tup [.agg [x], .int .i64 (chE la lb)]) h') : Ev fs ro 9 [va, vb] h Q := by
  have hla := ha.lenV
  have hlb := hb.lenV
  refine Ev_fn hf9 rfl rfl rfl rfl ?_
  refine WP_seq ?_
  refine WP_reg ?_
  refine WPO_op rfl ?_
  simp
  refine WPO_op rfl ?_
  simp
  refine WPO_nil ?_
  simp
  have hf0 : Fr h (h.new (.cells 0 [.nsl])) := (Fr.refl hw).new _
  have hg0 : (h.new (.cells 0 [.nsl])).get h.nx = some (.cells 0 [.nsl]) := Hp.get_new_same
  generalize hh0 : h.new (.cells 0 [.nsl]) = h0 at *
  have hnx0 : h.nx < h0.nx := by rw [← hh0]; simp
  have hw0 := hf0.wf
  have hmx : (if la.length < lb.length then (lb.length : Int) else la.length) = ((max la.length lb.length : Nat) : Int) := by split <;> omega
  generalize hM : max la.length lb.length = M at *
  refine WP_seq ?_
  refine WP_seq ?_
  refine WP_reg ?_
  repeat (first | (refine WPO_op rfl ?_; simp [hla, hlb, maxs, fold2, max2, hmx]) | (refine WPO_nil ?_; simp))
  refine WP_cond rfl ⟨fun hc => ?_, fun hc => ?_⟩
  · have hc' : M > 65536 := by simp at hc; omega
    refine WP_seq ?_
    refine WP_reg ?_
    refine WPO_op rfl ?_
    simp [evParts, fill]
    refine WPO_op rfl ?_
    refine OB_store (b := h.nx) (o := 0) (v := V.agg [.nsl]) (l' := [.nsl]) rfl rfl (by omega) rfl rfl hg0 rfl ?_
    simp
    refine WPO_op rfl ?_
    simp
    refine WPO_nil ?_
    simp [WP_ret, F9]
    rw [loadV_ptr (Hp.get_set_same hg0)]
    simp [loadN]
    have hfin := hq .nsl (h0.set h.nx (.cells 0 [.nsl])) ?_ ?_ ?_
    · simpa [chE, hM, hc', pack] using hfin
    · simp only [chL, hM, hc', if_true]; exact ⟨rfl, rfl⟩
    · exact .inl rfl
    · exact hf0.set hw (Nat.le_refl _) hg0 _
  · have hc' : ¬ M > 65536 := by simp at hc; omega
    simp only [WP_skip, nrmOr_nrm]
    repeat (first | refine WP_seq ?_ | refine WP_reg ?_ | (refine WPO_op rfl ?_; simp [hla, hlb, maxs, fold2, max2, hmx]) | (refine WPO_nil ?_; simp))
    refine WP_block ?_
    refine WP_loop (fun m e h1 => ∃ i vo, m = M - i ∧ i ≤ M ∧ SlG h1 vo (chs la lb i) ∧ Own h0.nx vo ∧ Fr h0 h1 ∧ e = [(0, va), (1, vb), (4, .ptr h.nx 0), (6, vo), (19, .int .i64 M), (20, .int .i64 i)]) M ⟨0, .nsl, by simp, by omega, ⟨rfl, rfl⟩, .inl rfl, Fr.refl hf0.wf, rfl⟩ ?_
    rintro m e h1 ⟨i, vo, rfl, hi, hvo, hown, hfr, rfl⟩
    refine WP_seq ?_
    refine WP_reg ?_
    repeat (first | (refine WPO_op rfl ?_; simp) | (refine WPO_nil ?_; simp))
    refine WP_seq ?_
    refine WP_cond rfl ⟨fun ht => ?_, fun ht => ?_⟩
    · have hi' : i < M := by simpa using ht
      simp only [WP_skip, nrmOr_nrm]
      refine WP_mid (fun e' h' => ∃ vo3, SlG h' vo3 (chs la lb (i + 1)) ∧ Own h0.nx vo3 ∧ Fr h0 h' ∧ e'.get 0 = some va ∧ e'.get 1 = some vb ∧ e'.get 4 = some (.ptr h.nx 0) ∧ e'.get 6 = some vo3 ∧ e'.get 19 = some (.int .i64 M) ∧ e'.get 20 = some (.int .i64 i)) ?_ ?_
      rotate_left
      · rintro e' h' ⟨vo3, g1, g2, g3, e0, e1, e4, e6, e19, e20⟩
        repeat (first | refine WP_reg ?_ | (refine WPO_op rfl ?_; simp [e20]) | (refine WPO_nil ?_; simp [e0, e1, e4, e6, e19]))
        refine ⟨M - (i + 1), by omega, i + 1, rfl, by omega, vo3, g1, g2, g3, rfl, ?_⟩
        rw [wrap_i64 (by omega) (by omega)]
        omega
      refine WP_block ?_
      refine WP_seq ?_
      refine WP_reg ?_
      repeat (first | (refine WPO_op rfl ?_; simp) | (refine WPO_nil ?_; simp))
      refine WP_mid (fun e' h' => h' = h1 ∧ e' = [(0, va), (1, vb), (4, .ptr h.nx 0), (6, vo), (7, .int .i64 i), (19, .int .i64 M), (20, .int .i64 i), (43, .bool (chg la lb i))]) ?_ ?_
      · refine WP_reg ?_
        have hla1 := hla
        by_cases c1 : la.length ≤ i
        · have c1' : ((la.length : Int) ≤ i) := by omega
          have hch : chg la lb i = true := by simp [chg, c1]
          rw [hch]
          repeat (first | (refine WPO_op rfl ?_; simp [hla, c1']) | (refine WPO_gop rfl ?_; simp) | (refine WPO_nil ?_; simp))
        · have c1' : ¬ ((la.length : Int) ≤ i) := by omega
          by_cases c2 : lb.length ≤ i
          · have c2' : ((lb.length : Int) ≤ i) := by omega
            have hch : chg la lb i = true := by simp [chg, c2]
            rw [hch]
            repeat (first | (refine WPO_op rfl ?_; simp [hla, c1']) | (refine WPO_gop rfl ?_; simp [hlb, c2']) | (refine WPO_nil ?_; simp))
          · have c2' : ¬ ((lb.length : Int) ≤ i) := by omega
            have a1 : i < la.length := by omega
            have a2 : i < lb.length := by omega
            obtain ⟨b1, o1, k1, L1, rfl, y1, z1⟩ := SlI.at (h := h1) (l := la) (Sl.fr hfr (Sl.fr hf0 ha)) a1
            obtain ⟨b2, o2, k2, L2, rfl, y2, z2⟩ := SlI.at (h := h1) (l := lb) (Sl.fr hfr (Sl.fr hf0 hb)) a2
            have hch : chg la lb i = (la[i] != lb[i]) := by simp [chg, c1, c2, List.getD_eq_getElem?_getD, List.getElem?_eq_getElem a1, List.getElem?_eq_getElem a2]
            rw [hch]
            repeat (first | (refine WPO_op rfl ?_; simp [c1']) | (refine WPO_gop rfl ?_; simp [c2', a1, a2, loadV_ptr y1, loadV_ptr y2, z1, z2]) | (refine WPO_nil ?_; simp))
            simp [bne]
      · rintro e' h' ⟨rfl, rfl⟩
        refine WP_cond rfl ⟨fun hd => ?_, fun hd => ?_⟩
        · obtain ⟨v', h3, hap, hs3, ho3, hf3, hsh⟩ := app_range (ro := ro) (p := ((i : Int), (i : Int) + 1)) hw0 (by omega) hfr hvo hown (by have := chs_len la lb i; omega)
          have hwr : IntKind.wrap .i64 ((i : Int) + 1) = (i : Int) + 1 := wrap_i64 (by omega) (by omega)
          refine WP_reg ?_
          refine WPO_op rfl ?_
          simp
          refine WPO_op rfl ?_
          simp
          refine WPO_op rfl ?_
          simp
          refine WPO_op rfl ?_
          simp [hwr]
          refine WPO_op rfl ?_
          simp [evParts, fill, V.cells, setN]
          refine WPO_op rfl ?_
          simp [evParts, zeros, fill, V.cells, setN]
          refine WPO_op rfl ?_
          rw [op1_app (v := vo) (b := h'.nx) (o := 0) (m := 1) (c := 2) (h' := h3) rfl rfl hsh rfl hap]
          simp
          refine WPO_op rfl ?_
          simp
          refine WPO_nil ?_
          simp
          have hch : chs la lb (i + 1) = chs la lb i ++ [((i : Int), (i : Int) + 1)] := by simp [chs, hd]
          rw [hch]
          exact ⟨v', hs3, ho3, hf3, rfl⟩
        · have hch : chs la lb (i + 1) = chs la lb i := by simp [chs, hd]
          simp only [WP_skip, blkQ_nrm, nrmOr_nrm]
          rw [hch]
          exact ⟨vo, hvo, hown, hfr, by simp⟩
    · have hi' : i = M := by
        have : ¬ (i < M) := by simpa using ht
        omega
      subst hi'
      simp only [WP_exit, nrmOr_exit, blkQ_exit, if_pos, nrmOr_nrm]
      refine WP_seq ?_
      refine WP_reg ?_
      refine WPO_op rfl ?_
      simp
      refine WPO_call (g := 25) (a := []) (b := []) (args := [vo]) rfl rfl ?_
      simp
      refine ev25 hf25 hvo hfr.wf (Nat.le_refl _) (by have := chs_len la lb i; omega) fun v' h' hs' ho' hf' => ?_
      obtain ⟨x, hR, hmv, hRe, hfR, hoR, hsR⟩ := made_after hfr.wf hs' ho' hf'
      rw [hRe, hmv]
      have hfin : SlG hR x (chL la lb) := by simpa [chL, hM, hc'] using hsR
      have hfe : chE la lb = (if (mrgs (chs la lb i)).length > 1024 then 9 else 0) := by simp [chE, hM, hc']
      rw [← hfe]
      have hgr := (hfr.trans hfR).sub _ _ hg0
      obtain ⟨hoc1, hoc2⟩ := hoR.cells
      have hxo : Own h0.nx x := hoR.mono hfr.nx
      refine WPO_op rfl ?_
      simp [op1]
      refine WPO_op rfl ?_
      simp [op1]
      refine WPO_op rfl ?_
      refine OB_store (b := h.nx) (o := 0) (v := V.agg [x]) (l' := [x]) rfl rfl (by omega) rfl (by simp [V.cells, hoc2]) hgr rfl ?_
      simp
      refine WPO_op rfl ?_
      simp
      refine WPO_nil ?_
      simp [WP_ret, F9]
      rw [loadV_ptr (Hp.get_set_same hgr)]
      simp [loadN]
      have hend := hq x (hR.set h.nx (.cells 0 [x])) (Sl.set_ne hfin hxo hnx0 _) (hxo.mono (by omega)) (((hf0.trans hfr).trans hfR).set hw (Nat.le_refl _) hgr _)
      simpa [pack] using hend
end Go.Am.S7
