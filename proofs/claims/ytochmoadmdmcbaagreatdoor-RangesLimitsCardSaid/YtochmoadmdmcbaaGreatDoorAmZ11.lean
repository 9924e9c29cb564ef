/- The functions of the great seat of ranges in a world that is as its row says: the library's answers, and known. -/
import Derived.Test.YtochmoadmdmcbaaGreatDoorAmZ10
import Derived.Test.YtochmoadmdmcbaaGreatDoorAmChkZ
import Derived.Test.YtochmoadmdmcbaaGreatDoorShelf
import Derived.Test.YtochmoadmdmcbaaGreatDoorSort
import Derived.Shelf.Strings.SlTrimAscii
import Derived.Lib.AtoiErrMem
import Derived.KernelRfl
namespace Go.Am.SZ
set_option linter.unusedSimpArgs false
set_option linter.unusedVariables false
set_option linter.unusedSectionVars false
open Go Go.RowKit Go.Proofs Go.Sort Go.Shelf
set_option maxRecDepth 100000

/-! the sort -/
def tabC : List (Nat × F) := [(36, F36), (37, F37), (38, F38), (54, F54)]
theorem tabC_ok : ∀ p ∈ tabC, CodeOk Tryz.prog p.1 p.2 := by
  unfold tabC
  simp only [List.forall_mem_cons]
  exact ⟨k36, k37, k38, k54, fun p hp => by cases hp⟩
def fsC (n : Nat) : Option D := find n tabC
theorem fsC_ok [Dr] : ∀ f d, fsC f = some d → match d with | .code F => CodeOk Tryz.prog f F | .orc g => OrcOk Tryz.prog f g := fun f d h => by
  obtain ⟨F, rfl, hF⟩ := find_ok tabC_ok h
  exact hF

theorem grow_of {w w' : World} (h : @Bel drOn w.heap.size w w') : ∃ q os, w' = grow (w.drewN q) os := by
  letI : Dr := drOn
  refine ⟨w'.drawn - w.drawn, w'.heap.extract w.heap.size w'.heap.size, ?_⟩
  have hd := h.dr rfl
  have h1 := h.os
  have h2 := h.tape
  have h3 := h.output
  have h4 := h.size
  have h5 := h.block
  cases w' with
  | mk heap tape drawn os out =>
    simp only at h1 h2 h3 h4 h5 hd
    subst h1 h2 h3
    simp only [grow, World.drewN, World.mk.injEq, true_and, and_true]
    refine ⟨?_, by omega⟩
    apply Array.ext_getElem?
    intro i
    rcases Nat.lt_or_ge i w.heap.size with hi | hi
    · rw [Array.getElem?_append_left hi]
      exact h5 i hi
    · rw [Array.getElem?_append_right hi]
      simp only [Array.getElem?_extract]
      split
      · congr 1; omega
      · rw [Array.getElem?_eq_none (by omega)]

theorem closure36 (x y : Int × Int) (W : World) : Calls Tryz.prog 36 #[.agg (encR x).toArray, .agg (encR y).toArray] W fun e w' => e = .returned (.int .i64 (cfR x y)) ∧ ∃ q os', w' = grow (W.drewN q) os' := by
  have hev : Ev fsC Tryz.prog.globals.size 36 [.agg [.int .i64 x.1, .int .i64 x.2], .agg [.int .i64 y.1, .int .i64 y.2]] ⟨Tryz.prog.globals.size, []⟩ fun r _ => r = .int .i64 (cfR x y) :=
    ev47 rfl rfl rfl rfl fun _ => rfl
  unfold Ev at hev
  obtain ⟨r, h', N, hrun, rfl⟩ := hev
  letI : Dr := drOn
  have hk : CallOk Tryz.prog (run fsC N) := run_sound mixed fsC_ok N
  refine (hk.calls (hrun N (Nat.le_refl _)) (w := W) (w0 := W) (B := W.heap.size) (args' := [.agg (encR x).toArray, .agg (encR y).toArray]) GOK.start Rel.start ?_).mono fun e w' ⟨u, ρ', he, _, _, hu, hr⟩ => ?_
  · simp only [VRs, VR]
    exact ⟨_, _, rfl, ⟨_, rfl, _, _, rfl, rfl, _, _, rfl, rfl, rfl⟩, _, _, rfl, ⟨_, rfl, _, _, rfl, rfl, _, _, rfl, rfl, rfl⟩, rfl⟩
  · simp only [VR] at hu
    subst hu
    exact ⟨he, grow_of hr.bel⟩

theorem sort_ok [Dr] : OrcOk Tryz.prog 35 (orcSort 36) :=
  orcSort_ok ⟨Tryz.f35, Tryz.func35, by kernel_rfl, by kernel_rfl⟩
    (fun p cap fv w => AnyF.slices_SortFunc_none Tryz.sortRg p cap fv w)
    (fun blk off cap d w hH hblk hsz => AnyQ.slices_SortFunc_total Tryz.sortRg 2 Tryz.isAgg41 Tryz.sizeOf41 encR (fun _ => rfl)
      (fun x v hv => by simp [encR] at hv; rcases hv with rfl | rfl <;> rfl) cfR swoR 36 #[] blk off cap d w (enters_of Tryz.func36 (by kernel_rfl) rfl) (fun _ _ _ _ x y => closure36 x y _) hH hblk hsz totR)

/-! the library's answers -/
structure Base (W : World) : Prop where
  size : Tryz.prog.globals.size ≤ W.heap.size
  max : ∃ m, W.cell? ⟨0, 0, none⟩ = some (.int .i64 m)
  pow : Lib.TabIs Tryz.prog W "internal/strconv.uint64pow10" .u64 Lib.pow10Tab

theorem base_ok {W : World} (hb : Base W) : @GlOk (drAt Tryz.prog.globals.size W) W.heap.size W := ⟨hb.size, fun _ _ => rfl⟩

theorem glob_same {W w : World} {B : Nat} (hg : @GlOk (drAt Tryz.prog.globals.size W) B w) {g : Nat} (h : g < Tryz.prog.globals.size) : w.heap[g]? = W.heap[g]? := hg.2 g h
theorem max_same {W w : World} {B : Nat} (hb : Base W) (hg : @GlOk (drAt Tryz.prog.globals.size W) B w) : ∃ m, w.cell? ⟨0, 0, none⟩ = some (.int .i64 m) := by
  obtain ⟨m, hm⟩ := hb.max
  exact ⟨m, by rw [World.cell?_of_block (a := ⟨0, 0, none⟩) (glob_same hg (show 0 < Tryz.prog.globals.size from of_decide_eq_true (by kernel_rfl)))]; exact hm⟩
theorem pow_same {W w : World} {B : Nat} (hb : Base W) (hg : @GlOk (drAt Tryz.prog.globals.size W) B w) : Lib.TabIs Tryz.prog w "internal/strconv.uint64pow10" .u64 Lib.pow10Tab := by
  have h := hb.pow
  unfold Lib.TabIs World.var? at *
  have hn : Tryz.prog.globalNamed "internal/strconv.uint64pow10" = some 1 := by kernel_rfl
  rw [hn] at h ⊢
  simp only [Option.bind_some] at h ⊢
  rw [glob_same hg (show 1 < Tryz.prog.globals.size from of_decide_eq_true (by kernel_rfl))]
  exact h
theorem below_drewN (w : World) (n : Nat) : Below w.heap.size w (w.drewN n) := ⟨rfl, rfl, rfl, Nat.le_refl _, fun _ _ => rfl⟩
theorem below_grown (w : World) (n : Nat) (os : Array Obj) : Below w.heap.size w (grow (w.drewN n) os) :=
  ⟨rfl, rfl, rfl, by simp [grow, World.drewN], fun k hk => by
    simp only [grow, World.drewN]
    rw [Array.getElem?_append_left hk]⟩

section
variable {W : World} (hb : Base W)
include hb
theorem oItoa : @OrcOk (drAt Tryz.prog.globals.size W) Tryz.prog 26 (orcPure gItoa) :=
  @itoa_ok (drAt Tryz.prog.globals.size W) Tryz.prog 26 rfl ⟨Tryz.f26, Tryz.func26, by kernel_rfl, by kernel_rfl⟩ fun n h0 h1 B w hg =>
    (Tryz.strconv_Itoa n h0 h1 w (pow_same hb hg)).mono fun e w' ⟨he, k, os, hw⟩ => ⟨he, by rw [hw]; exact below_grown _ _ _⟩
theorem oAtoi : @OrcOk (drAt Tryz.prog.globals.size W) Tryz.prog 62 (orcPure gAtoi) :=
  @atoi_ok (drAt Tryz.prog.globals.size W) Tryz.prog 62 rfl ⟨Tryz.f62, Tryz.func62, by kernel_rfl, by kernel_rfl⟩ fun s n h0 h1 w =>
    (Tryz.strconv_Atoi s n h0 h1 w).mono fun e w' ⟨he, t, hw⟩ => ⟨he, by rw [hw]; exact Lib.bytesWorld_below _ _ _⟩
theorem oCut : @OrcOk (drAt Tryz.prog.globals.size W) Tryz.prog 43 (orcPure gCut) :=
  @cut_ok (drAt Tryz.prog.globals.size W) Tryz.prog 43 rfl ⟨Tryz.f43, Tryz.func43, by kernel_rfl, by kernel_rfl⟩ fun s sep h0 B w hg => by
    obtain ⟨m, hm⟩ := max_same hb hg
    exact (Tryz.strings_Cut s sep m w h0 hm).mono fun e w' ⟨he, n, hw⟩ => ⟨he, by rw [hw]; exact below_drewN _ _⟩
theorem zero121 : Tryz.zeroCells121 = Array.replicate 256 (Value.bool false) := by kernel_rfl
theorem oTrim : @OrcOk (drAt Tryz.prog.globals.size W) Tryz.prog 61 (orcPure gTrim) :=
  @trim_ok (drAt Tryz.prog.globals.size W) Tryz.prog 61 rfl ⟨Tryz.f61, Tryz.func61, by kernel_rfl, by kernel_rfl⟩ fun s cs w h0 h1 h2 =>
    Any.strings_Trim_ascii Tryz.lays160 (fun w => by
      have := Tryz.zeroValue121 w
      rw [zero121 hb] at this
      exact this) (by kernel_rfl) s cs w h0 h1 h2
theorem oSplit : @OrcOk (drAt Tryz.prog.globals.size W) Tryz.prog 19 orcSplit :=
  @split_ok (drAt Tryz.prog.globals.size W) Tryz.prog 19 9 ⟨Tryz.f19, Tryz.func19, by kernel_rfl, by kernel_rfl⟩ fun s sep h0 h1 B w hg => by
    obtain ⟨m, hm⟩ := max_same hb hg
    exact Tryz.strings_Split s sep m w h0 hm h1
omit hb in
theorem oJoin [Dr] (hoff : Dr.on = false) : OrcOk Tryz.prog 27 orcJoin :=
  orcJoin_ok ⟨Tryz.f27, Tryz.func27, by kernel_rfl, by kernel_rfl⟩ Tryz.strings_Join_none Tryz.strings_Join hoff

/-! known -/
omit hb in
theorem known_runs : isTrue (run fs 60 Tryz.prog.globals.size 8 [] ⟨Tryz.prog.globals.size, []⟩) = true := by kernel_rfl

theorem known_ok : @OrcOk (drAt Tryz.prog.globals.size W) Tryz.prog 8 orcKnown := by
  letI : Dr := drAt Tryz.prog.globals.size W
  exact {
    enters := ⟨Tryz.f8, Tryz.func8, by kernel_rfl, by kernel_rfl⟩
    ext := fun {ro args h r h'} H => by
      unfold orcKnown at H
      split at H
      · simp only [Option.some.injEq, Prod.mk.injEq] at H
        obtain ⟨_, rfl⟩ := H
        exact Ext.refl _ _
      · cases H
    calls := fun {ro args h r h'} H {B w0 ρ w args'} hg hr ha => by
      unfold orcKnown at H
      split at H
      · simp only [Option.some.injEq, Prod.mk.injEq] at H
        obtain ⟨rfl, rfl⟩ := H
        simp only [VRs] at ha
        subst ha
        obtain ⟨h', hrun⟩ := of_isTrue known_runs
        refine (calls_true (run_sound mixed (fs_ok (oJoin rfl)) 60) (h := ⟨Tryz.prog.globals.size, []⟩) (us := []) hrun GOK.start (Rel.start ⟨Nat.le_trans hr.ok.1 hr.hB, hr.ok.2⟩) rfl).mono fun e w' ⟨he, hb⟩ => ?_
        exact ⟨_, ρ, he, fun _ _ => rfl, Nat.le_refl _, rfl, hr.same (.of hb fun q => by cases q)⟩
      · cases H }

/-! all together -/
def fsZ (n : Nat) : Option D :=
  bif Nat.beq n 8 then some (.orc orcKnown) else bif Nat.beq n 26 then some (.orc (orcPure gItoa)) else bif Nat.beq n 19 then some (.orc orcSplit) else
  bif Nat.beq n 43 then some (.orc (orcPure gCut)) else bif Nat.beq n 61 then some (.orc (orcPure gTrim)) else bif Nat.beq n 62 then some (.orc (orcPure gAtoi)) else
  bif Nat.beq n 35 then some (.orc (orcSort 36)) else fs n

def DOk [Dr] (f : Nat) (d : D) : Prop := match d with
  | .code F => CodeOk Tryz.prog f F
  | .orc g => OrcOk Tryz.prog f g
omit hb in
theorem ov [Dr] {n : Nat} {g : Nat → List V → Hp → Option (V × Hp)} {r : Nat → Option D} (hg : OrcOk Tryz.prog n g) (hr : ∀ f d, r f = some d → DOk f d) : ∀ f d, (bif Nat.beq f n then some (.orc g) else r f) = some d → DOk f d := fun f d h => by
  cases hb : Nat.beq f n with
  | true =>
    rw [hb] at h
    simp only [cond_true, Option.some.injEq] at h
    subst h
    have hm : f = n := Nat.eq_of_beq_eq_true hb
    subst hm
    exact hg
  | false =>
    rw [hb] at h
    exact hr f d h
theorem fsZ_ok : ∀ f d, fsZ f = some d → match d with | .code F => CodeOk Tryz.prog f F | .orc g => @OrcOk (drAt Tryz.prog.globals.size W) Tryz.prog f g := by
  letI : Dr := drAt Tryz.prog.globals.size W
  have h0 : ∀ f d, fs f = some d → DOk f d := fun f d h => by
    have := fs_ok (oJoin rfl) f d h
    unfold DOk
    exact this
  exact fun f d h => ov (known_ok hb) (ov (oItoa hb) (ov (oSplit hb) (ov (oCut hb) (ov (oTrim hb) (ov (oAtoi hb) (ov sort_ok h0)))))) f d h
end
end Go.Am.SZ
