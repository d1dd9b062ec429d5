/- The law AsmLines returns true of every argument: the lines of all bytes, and whether every text may be a label's name, are the document's. No condition. -/
import Derived.Test.YtkcfkegkhopakaaGreatDoorPlAt
import Derived.Test.YtkcfkegkhopakaaGreatDoorConSa
import Derived.Test.YtkcfkegkhopakaaGreatDoorEqSa
import Derived.Test.YtkcfkegkhopakaaGreatDoorKnSa
import Derived.Test.YtkcfkegkhopakaaGreatDoorRows
import Derived.Test.YtkcfkegkhopakaaGreatDoorEvY
import Derived.Test.YtkcfkegkhopakaaGreatDoorTie
import Derived.Test.YtkcfkegkhopakaaGreatDoorCards
import Derived.SevenTiedAt
import Derived.WalkKit
import Derived.ProofKit
import Derived.OpenShut
import Derived.ShutString
import Derived.SizedLaws
namespace Go.Proofs.YtkcfkegkhopakaaGreatDoor.asmLines
open Go Go.Ev Go.Sh Go.RowKit Go.ChangeShapes Go.WideShapes Go.ChangeAt
set_option linter.unusedVariables false


theorem hc : s5 = ⟨[.sla 0 .any, .ty .str], [Ty.int .u8].map fun t => ⟨false, .many t⟩, ⟨[(0, .ty .bool)], [], [], []⟩⟩ := by kernel_rfl
theorem hy (x0 : List (Ty.int .u8).den) (x1 : (Ty.str).den) (g0 : ∀ x ∈ x0, (Ty.int .u8).wf x) {len0 : Nat} (n0 : x0.length = len0) (m0 : len0 ≤ maxLen) (g1 : (Ty.str).wf x1) : f5 (1200) (x1, x0) = some true := (show g5' 1200 x1 x0 = some true by rw [F5_eq]; exact lines_t (by omega) (u8_BY g0))
theorem ev (x0 : List (Ty.int .u8).den) (x1 : (Ty.str).den) (g0 : ∀ x ∈ x0, (Ty.int .u8).wf x) {len0 : Nat} (n0 : x0.length = len0) (m0 : len0 ≤ maxLen) (g1 : (Ty.str).wf x1) {r : RM} {H : Heap} {us : List AV}
    (l : LIn H r [.sla 0 .any, .ty .str] [⟨.ty (Ty.str), x1⟩] us [Ty.int .u8] [⟨.lst (Ty.int .u8), x0⟩]) : ∃ n H', evF TBSa n 5 us H = some (.bool true, H') :=
  law_ev2 (sg := s5) (fn := f5) gk5.1 hc (hy x0 x1 g0 n0 m0 g1) l rfl rfl

theorem own : ownKnob Tryz.prog.godebug = none := by kernel_rfl
theorem laidOut : laidOutB Tryz.prog = true := by kernel_rfl

set_option maxRecDepth 100000 in
/-- the world that the variables' own initialisers leave -/
theorem door_met (os : Os) (args : Array Value) : laidMetH Tryz.prog Rows.asmLinesRow.laid ((World.laidAll Tryz.prog os Rows.asmLinesRow.laid).forCall (fun _ _ => 0) ⟨#[], args, []⟩).memory := by
  rw [MakeChecks.laidMetH_plain _ _ _ (by kernel_rfl)]
  exact laidMet_laidAll _ (by kernel_rfl) (by kernel_rfl)

theorem rowE (u : TypeId) (h : Tryz.prog.typeName? 3 u = some "*errors.errorString") : u = 236 :=
  typeName_ptr_named (nm := "errors.errorString") (by kernel_rfl) (by kernel_rfl) (by decide) u h

set_option maxRecDepth 100000 in
/-- what the condition gives -/
theorem libOk {W : World} (h : laidMetH Tryz.prog Rows.asmLinesRow.laid W) (hsh : W.ShapedOpen Tryz.prog) : LibOk Tryz.prog 3 W := by
  rw [MakeChecks.laidMetH_plain _ _ _ (by kernel_rfl)] at h
  have hp : laidMet Tryz.prog _ W := h.tail.tail
  have hr : laidMet Tryz.prog _ W := h.tail.tail.tail.tail
  have hs : laidMet Tryz.prog _ W := h.tail.tail.tail.tail.tail
  refine ⟨Lib.tabIs_of_head (g := 0) (t := 208) (e := 45) (n := 20) (k := .u64) (zs := Lib.pow10Tab) (by kernel_rfl) (by kernel_rfl) Tryz.underlying208 Tryz.underlying45 (by kernel_rfl) (by kernel_rfl) hp, ?_, ?_,
    Go.Proofs.cell_of_shapedOpen_int (zero := #[.int .i64 0]) (t := 3) hsh (of_decide_eq_true (by kernel_rfl)) (by kernel_rfl) rfl (by kernel_rfl) (by kernel_rfl) Tryz.underlying3⟩
  · obtain ⟨a, s, h1, _⟩ := laid_sentinel (g := 1) (ti := 111) (tp := 236) (te := 238) (ts := 9) hs (by kernel_rfl) (by kernel_rfl) Tryz.underlying111 rowE Tryz.underlying236 Tryz.underlying238 rfl rfl Tryz.underlying9 (by kernel_rfl) (by kernel_rfl)
    exact ⟨_, _, h1⟩
  · obtain ⟨a, s, h1, _⟩ := laid_sentinel (g := 2) (ti := 111) (tp := 236) (te := 238) (ts := 9) hr (by kernel_rfl) (by kernel_rfl) Tryz.underlying111 rowE Tryz.underlying236 Tryz.underlying238 rfl rfl Tryz.underlying9 (by kernel_rfl) (by kernel_rfl)
    exact ⟨_, _, h1⟩

set_option maxRecDepth 100000 in
theorem lifted (os : Os) (started : os.Started) (H : Type) (enc : TypeId × Value → H) :
    ReturnsInHanded {} Tryz.checked os 5 .any (fun w args => (Rows.asmLinesSpec.pre enc Tryz.prog Tryz.f5 Rows.asmLinesRow.domain false w args ∧ laidMetH Tryz.prog Rows.asmLinesRow.laid w) ∧ sizedMet enc Tryz.prog Tryz.f5 (OpenSpec.ofChange Rows.asmLinesSpec) false w args) (Rows.asmLinesSpec.post enc Tryz.prog Tryz.f5 false true false false) := by
  refine returnsInHanded_laid (C := Tryz.checked) own started (by kernel_rfl) Tryz.func5
    (ChangeSpec.witness_shaped (enc := enc) (C := Tryz.checked) (os := os) (X := fun w _ => laidMetH Tryz.prog Rows.asmLinesRow.laid w) false (World.laidAll Tryz.prog os Rows.asmLinesRow.laid) #[.slice none 0 0, .string ⟨#[]⟩] 8 (World.laidAll_os _ _ _) (World.shaped_of_ZipB (by kernel_rfl) (by kernel_rfl)) (by kernel_rfl) (by kernel_rfl) (by kernel_rfl) (door_met os _)) ?_
  intro W base args ds gs before hval0 hW hcnd hsz hL hsh _
  have hval : ∀ (j : Nat) t v, Tryz.f5.params[j]? = some t → args[j]? = some v → Value.okWide Tryz.prog W .any base t v := hval0
  have hW' := hW
  obtain ⟨p, q, hA0, hV, rfl, hfz, hnd⟩ := hW
  have hA : DataW.TrodAll enc Tryz.prog W 0 (fun _ => true) true Tryz.f5.params.toList args.toList ds p := hA0
  have hA1 := hA
  rw [Tryz.params5] at hA hval
  obtain ⟨v0, vs0, d0, ds0, p0, q0, hargs, rfl, rfl, h0, r0⟩ := trodAll_cons hA
  obtain ⟨v1, vs1, d1, ds1, p1, q1, rfl, rfl, rfl, h1, r1⟩ := trodAll_cons r0
  obtain ⟨rfl, rfl, rfl⟩ := trodAll_nil r1
  obtain rfl : args = #[v0, v1] := by cases args; simp_all
  obtain ⟨rfl, rfl⟩ := trodVars_none hV
  letI := homeAt W
  have b0 : Base (fun _ => none) Heap.empty W := Base.empty W (Nat.le_refl _) (fun _ _ => rfl)
  have l0 := LIn.empty
  obtain ⟨j1, H1, s0, a0, len0, y1, b1, e0, w0, m0⟩ := imp_sl (ks := (Ty.int .u8).lks) 12 Tryz.underlying35 (by kernel_rfl) (by kernel_rfl) (hval 0 35 v0 rfl rfl) h0 b0
  obtain ⟨rm1, x0, n0, g0, l1⟩ := l0.sl (t := Ty.int .u8) (by decide) w0
  obtain ⟨x1, g1, e1⟩ := imp_str Tryz.underlying9 (hval 1 9 v1 rfl rfl) h1
  have l2 := l1.val .str x1
  obtain ⟨n, hev⟩ := ev x0 x1 g0 n0 m0 g1 l2
  refine (law_call (w := W) (args := [v0, v1]) (avs := [s0, .str x1]) (goodTabSa (fun w hw => (libOk hL hsh).congr hw)) Tryz.checked.mixed b1 ⟨_, _, rfl, e0, ⟨_, _, rfl, (e1 _), rfl⟩⟩ hev).mono fun e W' ⟨he, bel⟩ => ?_
  subst he
  exact ⟨_, rfl, _, [], _, [], _, [], hW', trodAll_mk1 (shut_bool Tryz.underlying4 _), trodAll_below laidOut bel (by kernel_rfl) hA1, rfl, bel.frame _, fun h => by cases h⟩

theorem over : Rows.asmLinesRow.holds Tryz.pinned (OpenSpec.ofChange Rows.asmLinesSpec) :=
  OpenClaim.holds_of_wide 5 Tryz.f5 rfl rfl rfl rfl rfl rfl rfl ⟨rfl, rfl, rfl, rfl, rfl⟩ rfl rfl rfl rfl rfl (by kernel_rfl) Tryz.func5 (by kernel_rfl)
    (of_decide_eq_true (by kernel_rfl)) (by unfold Func.isWrapper; first | (rw [if_pos (by decide +kernel)]; kernel_rfl) | (rw [if_neg (by decide +kernel)]; exact ⟨rfl, rfl⟩))
    (fun os started H enc _ => lifted os started H enc)

/-- THE STATEMENT -/
theorem proved : Rows.AsmLinesCardSaid :=
  Claim7.holds_tied_plain_at .later [] [.data, .data, .data, .data, .sentinel, .sentinel, .pinned] true (true, "9e2463d3c644127c95cf2bcac973771c29e6dc06e526da3e67b668e9618ccdfd") true
    over (fun _ h => by cases h) (by kernel_rfl) (fun _ h => by cases h) asmLines_row_tie rfl ⟨rfl, rfl⟩ (by kernel_rfl) rfl
    (fun f fn hf hfn => by
      obtain rfl : f = 5 := Option.some.inj ((show Tryz.prog.funcNamed Rows.asmLinesRow.func = some 5 by kernel_rfl).symm.trans hf) |>.symm
      obtain rfl : fn = Tryz.f5 := (Option.some.inj (Tryz.func5.symm.trans hfn)).symm
      exact ⟨by kernel_rfl, fun j t ht => by
        rw [Tryz.params5] at ht
        have hm : t ∈ [35, 9] := by simpa using Array.mem_of_getElem? ht
        have hall : ([35, 9].all fun u => !Tryz.prog.wantsStandIn u) = true := by kernel_rfl
        exact (show Tryz.prog.wantsStandIn t = false by simpa using List.all_eq_true.1 hall t hm)⟩)
    (by kernel_rfl)
#print axioms proved
end Go.Proofs.YtkcfkegkhopakaaGreatDoor.asmLines
