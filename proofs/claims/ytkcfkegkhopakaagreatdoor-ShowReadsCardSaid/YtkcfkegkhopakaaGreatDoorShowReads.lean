/- The law ShowReads returns true of every argument: every text's instruction, or that there is none, is the document's. No condition. -/
import Derived.Test.YtkcfkegkhopakaaGreatDoorPlRh
import Derived.Test.YtkcfkegkhopakaaGreatDoorConSw
import Derived.Test.YtkcfkegkhopakaaGreatDoorEqSw
import Derived.Test.YtkcfkegkhopakaaGreatDoorKnSw
import Derived.Test.YtkcfkegkhopakaaGreatDoorRows
import Derived.Test.YtkcfkegkhopakaaGreatDoorEvY
import Derived.Test.YtkcfkegkhopakaaGreatDoorTie
import Derived.Test.YtkcfkegkhopakaaGreatDoorCards
import Derived.SevenTiedAt
import Derived.WalkKit
import Derived.ProofKit
import Derived.OpenShut
import Derived.ShutString
import Derived.SizedLaws
namespace Go.Proofs.YtkcfkegkhopakaaGreatDoor.showReads
open Go Go.Ev Go.Sh Go.RowKit Go.ChangeShapes Go.WideShapes Go.ChangeAt
set_option linter.unusedVariables false


theorem hc : s4 = ⟨[.ty .str], [].map fun t => ⟨false, .many t⟩, ⟨[(0, .ty .bool)], [], [], []⟩⟩ := by kernel_rfl
theorem hy (x0 : (Ty.str).den) (g0 : (Ty.str).wf x0) : f4 (1002) (x0) = some true := (show g4' 1002 x0 = some true by rw [F4_eq]; exact reads_t (by omega) x0)
theorem ev (x0 : (Ty.str).den) (g0 : (Ty.str).wf x0) {r : RM} {H : Heap} {us : List AV}
    (l : LIn H r [.ty .str] [⟨.ty (Ty.str), x0⟩] us [] []) : ∃ n H', evF TBSw n 4 us H = some (.bool true, H') :=
  law_ev2 (sg := s4) (fn := f4) gk4.1 hc (hy x0 g0) l rfl rfl

theorem own : ownKnob Tryz.prog.godebug = none := by kernel_rfl
theorem laidOut : laidOutB Tryz.prog = true := by kernel_rfl

set_option maxRecDepth 100000 in
/-- the world that the variables' own initialisers leave -/
theorem door_met (os : Os) (args : Array Value) : laidMetH Tryz.prog Rows.showReadsRow.laid ((World.laidAll Tryz.prog os Rows.showReadsRow.laid).forCall (fun _ _ => 0) ⟨#[], args, []⟩).memory := by
  rw [MakeChecks.laidMetH_plain _ _ _ (by kernel_rfl)]
  exact laidMet_laidAll _ (by kernel_rfl) (by kernel_rfl)

theorem rowE (u : TypeId) (h : Tryz.prog.typeName? 3 u = some "*errors.errorString") : u = 236 :=
  typeName_ptr_named (nm := "errors.errorString") (by kernel_rfl) (by kernel_rfl) (by decide) u h

set_option maxRecDepth 100000 in
/-- what the condition gives -/
theorem libOk {W : World} (h : laidMetH Tryz.prog Rows.showReadsRow.laid W) (hsh : W.ShapedOpen Tryz.prog) : LibOk Tryz.prog 3 W := by
  rw [MakeChecks.laidMetH_plain _ _ _ (by kernel_rfl)] at h
  have hp : laidMet Tryz.prog _ W := h.tail.tail
  have hr : laidMet Tryz.prog _ W := h.tail.tail.tail
  have hs : laidMet Tryz.prog _ W := h.tail.tail.tail.tail
  refine ⟨Lib.tabIs_of_head (g := 0) (t := 208) (e := 45) (n := 20) (k := .u64) (zs := Lib.pow10Tab) (by kernel_rfl) (by kernel_rfl) Tryz.underlying208 Tryz.underlying45 (by kernel_rfl) (by kernel_rfl) hp, ?_, ?_,
    Go.Proofs.cell_of_shapedOpen_int (zero := #[.int .i64 0]) (t := 3) hsh (of_decide_eq_true (by kernel_rfl)) (by kernel_rfl) rfl (by kernel_rfl) (by kernel_rfl) Tryz.underlying3⟩
  · obtain ⟨a, s, h1, _⟩ := laid_sentinel (g := 1) (ti := 111) (tp := 236) (te := 238) (ts := 9) hs (by kernel_rfl) (by kernel_rfl) Tryz.underlying111 rowE Tryz.underlying236 Tryz.underlying238 rfl rfl Tryz.underlying9 (by kernel_rfl) (by kernel_rfl)
    exact ⟨_, _, h1⟩
  · obtain ⟨a, s, h1, _⟩ := laid_sentinel (g := 2) (ti := 111) (tp := 236) (te := 238) (ts := 9) hr (by kernel_rfl) (by kernel_rfl) Tryz.underlying111 rowE Tryz.underlying236 Tryz.underlying238 rfl rfl Tryz.underlying9 (by kernel_rfl) (by kernel_rfl)
    exact ⟨_, _, h1⟩

set_option maxRecDepth 100000 in
theorem lifted (os : Os) (started : os.Started) (H : Type) (enc : TypeId × Value → H) :
    ReturnsInHanded {} Tryz.checked os 4 .any (fun w args => (Rows.showReadsSpec.pre enc Tryz.prog Tryz.f4 Rows.showReadsRow.domain false w args ∧ laidMetH Tryz.prog Rows.showReadsRow.laid w) ∧ sizedMet enc Tryz.prog Tryz.f4 (OpenSpec.ofChange Rows.showReadsSpec) false w args) (Rows.showReadsSpec.post enc Tryz.prog Tryz.f4 false true false false) := by
  refine returnsInHanded_laid (C := Tryz.checked) own started (by kernel_rfl) Tryz.func4
    (ChangeSpec.witness_shaped (enc := enc) (C := Tryz.checked) (os := os) (X := fun w _ => laidMetH Tryz.prog Rows.showReadsRow.laid w) false (World.laidAll Tryz.prog os Rows.showReadsRow.laid) #[.string ⟨#[]⟩] 8 (World.laidAll_os _ _ _) (World.shaped_of_ZipB (by kernel_rfl) (by kernel_rfl)) (by kernel_rfl) (by kernel_rfl) (by kernel_rfl) (door_met os _)) ?_
  intro W base args ds gs before hval0 hW hcnd hsz hL hsh _
  have hval : ∀ (j : Nat) t v, Tryz.f4.params[j]? = some t → args[j]? = some v → Value.okWide Tryz.prog W .any base t v := hval0
  have hW' := hW
  obtain ⟨p, q, hA0, hV, rfl, hfz, hnd⟩ := hW
  have hA : DataW.TrodAll enc Tryz.prog W 0 (fun _ => true) true Tryz.f4.params.toList args.toList ds p := hA0
  have hA1 := hA
  rw [Tryz.params4] at hA hval
  obtain ⟨v0, vs0, d0, ds0, p0, q0, hargs, rfl, rfl, h0, r0⟩ := trodAll_cons hA
  obtain ⟨rfl, rfl, rfl⟩ := trodAll_nil r0
  obtain rfl : args = #[v0] := by cases args; simp_all
  obtain ⟨rfl, rfl⟩ := trodVars_none hV
  letI := homeAt W
  have b0 : Base (fun _ => none) Heap.empty W := Base.empty W (Nat.le_refl _) (fun _ _ => rfl)
  have l0 := LIn.empty
  obtain ⟨x0, g0, e0⟩ := imp_str Tryz.underlying9 (hval 0 9 v0 rfl rfl) h0
  have l1 := l0.val .str x0
  obtain ⟨n, hev⟩ := ev x0 g0 l1
  refine (law_call (w := W) (args := [v0]) (avs := [.str x0]) (goodTabSw (fun w hw => (libOk hL hsh).congr hw)) Tryz.checked.mixed b0 ⟨_, _, rfl, (e0 _), rfl⟩ hev).mono fun e W' ⟨he, bel⟩ => ?_
  subst he
  exact ⟨_, rfl, _, [], _, [], _, [], hW', trodAll_mk1 (shut_bool Tryz.underlying4 _), trodAll_below laidOut bel (by kernel_rfl) hA1, rfl, bel.frame _, fun h => by cases h⟩

theorem over : Rows.showReadsRow.holds Tryz.pinned (OpenSpec.ofChange Rows.showReadsSpec) :=
  OpenClaim.holds_of_wide 4 Tryz.f4 rfl rfl rfl rfl rfl rfl rfl ⟨rfl, rfl, rfl, rfl, rfl⟩ rfl rfl rfl rfl rfl (by kernel_rfl) Tryz.func4 (by kernel_rfl)
    (of_decide_eq_true (by kernel_rfl)) (by unfold Func.isWrapper; first | (rw [if_pos (by decide +kernel)]; kernel_rfl) | (rw [if_neg (by decide +kernel)]; exact ⟨rfl, rfl⟩))
    (fun os started H enc _ => lifted os started H enc)

/-- THE STATEMENT -/
theorem proved : Rows.ShowReadsCardSaid :=
  Claim7.holds_tied_plain_at .later [] [.data, .data, .data, .sentinel, .sentinel] true (true, "9e2463d3c644127c95cf2bcac973771c29e6dc06e526da3e67b668e9618ccdfd") true
    over (fun _ h => by cases h) (by kernel_rfl) (fun _ h => by cases h) showReads_row_tie rfl ⟨rfl, rfl⟩ (by kernel_rfl) rfl
    (fun f fn hf hfn => by
      obtain rfl : f = 4 := Option.some.inj ((show Tryz.prog.funcNamed Rows.showReadsRow.func = some 4 by kernel_rfl).symm.trans hf) |>.symm
      obtain rfl : fn = Tryz.f4 := (Option.some.inj (Tryz.func4.symm.trans hfn)).symm
      exact ⟨by kernel_rfl, fun j t ht => by
        rw [Tryz.params4] at ht
        have hm : t ∈ [9] := by simpa using Array.mem_of_getElem? ht
        have hall : ([9].all fun u => !Tryz.prog.wantsStandIn u) = true := by kernel_rfl
        exact (show Tryz.prog.wantsStandIn t = false by simpa using List.all_eq_true.1 hall t hm)⟩)
    (by kernel_rfl)
#print axioms proved
end Go.Proofs.YtkcfkegkhopakaaGreatDoor.showReads
