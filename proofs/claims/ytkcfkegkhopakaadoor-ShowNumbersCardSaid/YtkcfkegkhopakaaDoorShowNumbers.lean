/- The law ShowNumbers returns true of every argument: every text's number and register, or that there is none, are the document's. No condition. -/
import Derived.Test.YtkcfkegkhopakaaDoorPlNc
import Derived.Test.YtkcfkegkhopakaaDoorConSh
import Derived.Test.YtkcfkegkhopakaaDoorEqSh
import Derived.Test.YtkcfkegkhopakaaDoorKnSh
import Derived.Test.YtkcfkegkhopakaaDoorRows
import Derived.Test.YtkcfkegkhopakaaDoorEvY
import Derived.Test.YtkcfkegkhopakaaDoorTie
import Derived.Test.YtkcfkegkhopakaaDoorCards
import Derived.SevenTiedAt
import Derived.WalkKit
import Derived.ProofKit
import Derived.OpenShut
import Derived.ShutString
import Derived.SizedLaws
namespace Go.Proofs.YtkcfkegkhopakaaDoor.showNumbers
open Go Go.Ev Go.Sh Go.RowKit Go.ChangeShapes Go.WideShapes Go.ChangeAt
set_option linter.unusedVariables false


theorem hc : s3 = ⟨[.ty .str, .ty (.int .i64)], [].map fun t => ⟨false, .many t⟩, ⟨[(0, .ty .bool)], [], [], []⟩⟩ := by kernel_rfl
theorem hy (x0 : (Ty.str).den) (x1 : (Ty.int .i64).den) (g0 : (Ty.str).wf x0) (g1 : (Ty.int .i64).wf x1) : f3 (100) (x0, x1) = some true := (show g3' 100 x0 x1 = some true by rw [F3_eq]; exact numbers_t (by omega) x0 (i64_rng g1))
theorem ev (x0 : (Ty.str).den) (x1 : (Ty.int .i64).den) (g0 : (Ty.str).wf x0) (g1 : (Ty.int .i64).wf x1) {r : RM} {H : Heap} {us : List AV}
    (l : LIn H r [.ty .str, .ty (.int .i64)] [⟨.ty (Ty.str), x0⟩, ⟨.ty (Ty.int .i64), x1⟩] us [] []) : ∃ n H', evF TBSh n 3 us H = some (.bool true, H') :=
  law_ev2 (sg := s3) (fn := f3) gk3.1 hc (hy x0 x1 g0 g1) l rfl rfl

theorem own : ownKnob Tryd.prog.godebug = none := by kernel_rfl
theorem laidOut : laidOutB Tryd.prog = true := by kernel_rfl

set_option maxRecDepth 100000 in
/-- the world that the variables' own initialisers leave -/
theorem door_met (os : Os) (args : Array Value) : laidMetH Tryd.prog Rows.showNumbersRow.laid ((World.laidAll Tryd.prog os Rows.showNumbersRow.laid).forCall (fun _ _ => 0) ⟨#[], args, []⟩).memory := by
  rw [MakeChecks.laidMetH_plain _ _ _ (by kernel_rfl)]
  exact laidMet_laidAll _ (by kernel_rfl) (by kernel_rfl)

theorem rowE (u : TypeId) (h : Tryd.prog.typeName? 3 u = some "*errors.errorString") : u = 116 :=
  typeName_ptr_named (nm := "errors.errorString") (by kernel_rfl) (by kernel_rfl) (by decide) u h

set_option maxRecDepth 100000 in
/-- what the condition gives -/
theorem libOk {W : World} (h : laidMetH Tryd.prog Rows.showNumbersRow.laid W) (hsh : W.ShapedOpen Tryd.prog) : LibOk Tryd.prog 3 W := by
  rw [MakeChecks.laidMetH_plain _ _ _ (by kernel_rfl)] at h
  have hp : laidMet Tryd.prog _ W := h.tail.tail
  have hr : laidMet Tryd.prog _ W := h.tail.tail.tail
  have hs : laidMet Tryd.prog _ W := h.tail.tail.tail.tail
  refine ⟨Lib.tabIs_of_head (g := 2) (t := 100) (e := 42) (n := 20) (k := .u64) (zs := Lib.pow10Tab) (by kernel_rfl) (by kernel_rfl) Tryd.underlying100 Tryd.underlying42 (by kernel_rfl) (by kernel_rfl) hp, ?_, ?_,
    Go.Proofs.cell_of_shapedOpen_int (zero := #[.int .i64 0]) (t := 3) hsh (of_decide_eq_true (by kernel_rfl)) (by kernel_rfl) rfl (by kernel_rfl) (by kernel_rfl) Tryd.underlying3⟩
  · obtain ⟨a, s, h1, _⟩ := laid_sentinel (g := 0) (ti := 38) (tp := 116) (te := 118) (ts := 9) hs (by kernel_rfl) (by kernel_rfl) Tryd.underlying38 rowE Tryd.underlying116 Tryd.underlying118 rfl rfl Tryd.underlying9 (by kernel_rfl) (by kernel_rfl)
    exact ⟨_, _, h1⟩
  · obtain ⟨a, s, h1, _⟩ := laid_sentinel (g := 1) (ti := 38) (tp := 116) (te := 118) (ts := 9) hr (by kernel_rfl) (by kernel_rfl) Tryd.underlying38 rowE Tryd.underlying116 Tryd.underlying118 rfl rfl Tryd.underlying9 (by kernel_rfl) (by kernel_rfl)
    exact ⟨_, _, h1⟩

set_option maxRecDepth 100000 in
theorem lifted (os : Os) (started : os.Started) (H : Type) (enc : TypeId × Value → H) :
    ReturnsInHanded {} Tryd.checked os 3 .any (fun w args => (Rows.showNumbersSpec.pre enc Tryd.prog Tryd.f3 Rows.showNumbersRow.domain false w args ∧ laidMetH Tryd.prog Rows.showNumbersRow.laid w) ∧ sizedMet enc Tryd.prog Tryd.f3 (OpenSpec.ofChange Rows.showNumbersSpec) false w args) (Rows.showNumbersSpec.post enc Tryd.prog Tryd.f3 false true false false) := by
  refine returnsInHanded_laid (C := Tryd.checked) own started (by kernel_rfl) Tryd.func3
    (ChangeSpec.witness_shaped (enc := enc) (C := Tryd.checked) (os := os) (X := fun w _ => laidMetH Tryd.prog Rows.showNumbersRow.laid w) false (World.laidAll Tryd.prog os Rows.showNumbersRow.laid) #[.string ⟨#[]⟩, .int .i64 0] 8 (World.laidAll_os _ _ _) (World.shaped_of_ZipB (by kernel_rfl) (by kernel_rfl)) (by kernel_rfl) (by kernel_rfl) (by kernel_rfl) (door_met os _)) ?_
  intro W base args ds gs before hval0 hW hcnd hsz hL hsh _
  have hval : ∀ (j : Nat) t v, Tryd.f3.params[j]? = some t → args[j]? = some v → Value.okWide Tryd.prog W .any base t v := hval0
  have hW' := hW
  obtain ⟨p, q, hA0, hV, rfl, hfz, hnd⟩ := hW
  have hA : DataW.TrodAll enc Tryd.prog W 0 (fun _ => true) true Tryd.f3.params.toList args.toList ds p := hA0
  have hA1 := hA
  rw [Tryd.params3] at hA hval
  obtain ⟨v0, vs0, d0, ds0, p0, q0, hargs, rfl, rfl, h0, r0⟩ := trodAll_cons hA
  obtain ⟨v1, vs1, d1, ds1, p1, q1, rfl, rfl, rfl, h1, r1⟩ := trodAll_cons r0
  obtain ⟨rfl, rfl, rfl⟩ := trodAll_nil r1
  obtain rfl : args = #[v0, v1] := by cases args; simp_all
  obtain ⟨rfl, rfl⟩ := trodVars_none hV
  letI := homeAt W
  have b0 : Base (fun _ => none) Heap.empty W := Base.empty W (Nat.le_refl _) (fun _ _ => rfl)
  have l0 := LIn.empty
  obtain ⟨x0, g0, e0⟩ := imp_str Tryd.underlying9 (hval 0 9 v0 rfl rfl) h0
  have l1 := l0.val .str x0
  obtain ⟨x1, rfl, rfl, rfl, g1⟩ := open_int Tryd.underlying2 (hval 1 2 v1 rfl rfl) h1
  have l2 := l1.val (.int .i64) x1
  obtain ⟨n, hev⟩ := ev x0 x1 g0 g1 l2
  refine (law_call (w := W) (args := [v0, .int .i64 x1]) (avs := [.str x0, .int .i64 x1]) (goodTabSh (fun w hw => (libOk hL hsh).congr hw)) Tryd.checked.mixed b0 ⟨_, _, rfl, (e0 _), ⟨_, _, rfl, rfl, rfl⟩⟩ hev).mono fun e W' ⟨he, bel⟩ => ?_
  subst he
  exact ⟨_, rfl, _, [], _, [], _, [], hW', trodAll_mk1 (shut_bool Tryd.underlying4 _), trodAll_below laidOut bel (by kernel_rfl) hA1, rfl, bel.frame _, fun h => by cases h⟩

theorem over : Rows.showNumbersRow.holds Tryd.pinned (OpenSpec.ofChange Rows.showNumbersSpec) :=
  OpenClaim.holds_of_wide 3 Tryd.f3 rfl rfl rfl rfl rfl rfl rfl ⟨rfl, rfl, rfl, rfl, rfl⟩ rfl rfl rfl rfl rfl (by kernel_rfl) Tryd.func3 (by kernel_rfl)
    (of_decide_eq_true (by kernel_rfl)) (by unfold Func.isWrapper; first | (rw [if_pos (by decide +kernel)]; kernel_rfl) | (rw [if_neg (by decide +kernel)]; exact ⟨rfl, rfl⟩))
    (fun os started H enc _ => lifted os started H enc)

/-- THE STATEMENT -/
theorem proved : Rows.ShowNumbersCardSaid :=
  Claim7.holds_tied_plain_at .later [] [.data, .data, .data, .sentinel, .sentinel] true (true, "cafd21447b6f17dc47fad6887eaa04b873146ff47e067c25791d42517a23c24d") true
    over (fun _ h => by cases h) (by kernel_rfl) (fun _ h => by cases h) showNumbers_row_tie rfl ⟨rfl, rfl⟩ (by kernel_rfl) rfl
    (fun f fn hf hfn => by
      obtain rfl : f = 3 := Option.some.inj ((show Tryd.prog.funcNamed Rows.showNumbersRow.func = some 3 by kernel_rfl).symm.trans hf) |>.symm
      obtain rfl : fn = Tryd.f3 := (Option.some.inj (Tryd.func3.symm.trans hfn)).symm
      exact ⟨by kernel_rfl, fun j t ht => by
        rw [Tryd.params3] at ht
        have hm : t ∈ [9, 2] := by simpa using Array.mem_of_getElem? ht
        have hall : ([9, 2].all fun u => !Tryd.prog.wantsStandIn u) = true := by kernel_rfl
        exact (show Tryd.prog.wantsStandIn t = false by simpa using List.all_eq_true.1 hall t hm)⟩)
    (by kernel_rfl)
#print axioms proved
end Go.Proofs.YtkcfkegkhopakaaDoor.showNumbers
