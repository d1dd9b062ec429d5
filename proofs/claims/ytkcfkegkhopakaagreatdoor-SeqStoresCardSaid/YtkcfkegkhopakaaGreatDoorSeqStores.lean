/- The law SeqStores returns true of every argument: a store that is loaded again by the same size is what was stored. No condition. -/
import Derived.Test.YtkcfkegkhopakaaGreatDoorPlTs
import Derived.Test.YtkcfkegkhopakaaGreatDoorConSt
import Derived.Test.YtkcfkegkhopakaaGreatDoorEqSt
import Derived.Test.YtkcfkegkhopakaaGreatDoorKnSt
import Derived.Test.YtkcfkegkhopakaaGreatDoorRows
import Derived.Test.YtkcfkegkhopakaaGreatDoorEvY
import Derived.Test.YtkcfkegkhopakaaGreatDoorTie
import Derived.Test.YtkcfkegkhopakaaGreatDoorCards
import Derived.SevenTiedAt
import Derived.WalkKit
import Derived.ProofKit
import Derived.OpenShut
import Derived.ShutString
import Derived.SizedLaws
namespace Go.Proofs.YtkcfkegkhopakaaGreatDoor.seqStores
open Go Go.Ev Go.Sh Go.RowKit Go.ChangeShapes Go.WideShapes Go.ChangeAt
set_option linter.unusedVariables false


theorem hc : s11 = ⟨[.ty (.int .u8), .ty (.int .u64), .ty (.int .u8)], [].map fun t => ⟨false, .many t⟩, ⟨[(0, .ty .bool)], [], [], []⟩⟩ := by kernel_rfl
theorem hy (x0 : (Ty.int .u8).den) (x1 : (Ty.int .u64).den) (x2 : (Ty.int .u8).den) (g0 : (Ty.int .u8).wf x0) (g1 : (Ty.int .u64).wf x1) (g2 : (Ty.int .u8).wf x2) : f11 (1100) (x0, x1, x2) = some true := (show g11' 1100 x0 x1 x2 = some true by rw [F11_eq]; exact seqStores_t g0 g1 g2)
theorem ev (x0 : (Ty.int .u8).den) (x1 : (Ty.int .u64).den) (x2 : (Ty.int .u8).den) (g0 : (Ty.int .u8).wf x0) (g1 : (Ty.int .u64).wf x1) (g2 : (Ty.int .u8).wf x2) {r : RM} {H : Heap} {us : List AV}
    (l : LIn H r [.ty (.int .u8), .ty (.int .u64), .ty (.int .u8)] [⟨.ty (Ty.int .u8), x0⟩, ⟨.ty (Ty.int .u64), x1⟩, ⟨.ty (Ty.int .u8), x2⟩] us [] []) : ∃ n H', evF TBSt n 11 us H = some (.bool true, H') :=
  law_ev2 (sg := s11) (fn := f11) gk11.1 hc (hy x0 x1 x2 g0 g1 g2) l rfl rfl

theorem own : ownKnob Tryz.prog.godebug = none := by kernel_rfl
theorem laidOut : laidOutB Tryz.prog = true := by kernel_rfl

set_option maxRecDepth 100000 in
/-- the world that the variables' own initialisers leave -/
theorem door_met (os : Os) (args : Array Value) : laidMetH Tryz.prog Rows.seqStoresRow.laid ((World.laidAll Tryz.prog os Rows.seqStoresRow.laid).forCall (fun _ _ => 0) ⟨#[], args, []⟩).memory := by
  rw [MakeChecks.laidMetH_plain _ _ _ (by kernel_rfl)]
  exact laidMet_laidAll _ (by kernel_rfl) (by kernel_rfl)

theorem rowE (u : TypeId) (h : Tryz.prog.typeName? 3 u = some "*errors.errorString") : u = 236 :=
  typeName_ptr_named (nm := "errors.errorString") (by kernel_rfl) (by kernel_rfl) (by decide) u h

set_option maxRecDepth 100000 in
/-- what the condition gives -/
theorem libOk {W : World} (h : laidMetH Tryz.prog Rows.seqStoresRow.laid W) (hsh : W.ShapedOpen Tryz.prog) : LibOk Tryz.prog 3 W := by
  rw [MakeChecks.laidMetH_plain _ _ _ (by kernel_rfl)] at h
  have hp : laidMet Tryz.prog _ W := h.tail.tail
  have hr : laidMet Tryz.prog _ W := h.tail.tail.tail.tail
  have hs : laidMet Tryz.prog _ W := h.tail.tail.tail.tail.tail
  refine ⟨Lib.tabIs_of_head (g := 0) (t := 208) (e := 45) (n := 20) (k := .u64) (zs := Lib.pow10Tab) (by kernel_rfl) (by kernel_rfl) Tryz.underlying208 Tryz.underlying45 (by kernel_rfl) (by kernel_rfl) hp, ?_, ?_,
    Go.Proofs.cell_of_shapedOpen_int (zero := #[.int .i64 0]) (t := 3) hsh (of_decide_eq_true (by kernel_rfl)) (by kernel_rfl) rfl (by kernel_rfl) (by kernel_rfl) Tryz.underlying3⟩
  · obtain ⟨a, s, h1, _⟩ := laid_sentinel (g := 1) (ti := 111) (tp := 236) (te := 238) (ts := 9) hs (by kernel_rfl) (by kernel_rfl) Tryz.underlying111 rowE Tryz.underlying236 Tryz.underlying238 rfl rfl Tryz.underlying9 (by kernel_rfl) (by kernel_rfl)
    exact ⟨_, _, h1⟩
  · obtain ⟨a, s, h1, _⟩ := laid_sentinel (g := 2) (ti := 111) (tp := 236) (te := 238) (ts := 9) hr (by kernel_rfl) (by kernel_rfl) Tryz.underlying111 rowE Tryz.underlying236 Tryz.underlying238 rfl rfl Tryz.underlying9 (by kernel_rfl) (by kernel_rfl)
    exact ⟨_, _, h1⟩

set_option maxRecDepth 100000 in
theorem lifted (os : Os) (started : os.Started) (H : Type) (enc : TypeId × Value → H) :
    ReturnsInHanded {} Tryz.checked os 11 .any (fun w args => (Rows.seqStoresSpec.pre enc Tryz.prog Tryz.f11 Rows.seqStoresRow.domain false w args ∧ laidMetH Tryz.prog Rows.seqStoresRow.laid w) ∧ sizedMet enc Tryz.prog Tryz.f11 (OpenSpec.ofChange Rows.seqStoresSpec) false w args) (Rows.seqStoresSpec.post enc Tryz.prog Tryz.f11 false true false false) := by
  refine returnsInHanded_laid (C := Tryz.checked) own started (by kernel_rfl) Tryz.func11
    (ChangeSpec.witness_shaped (enc := enc) (C := Tryz.checked) (os := os) (X := fun w _ => laidMetH Tryz.prog Rows.seqStoresRow.laid w) false (World.laidAll Tryz.prog os Rows.seqStoresRow.laid) #[.int .u8 0, .int .u64 0, .int .u8 0] 8 (World.laidAll_os _ _ _) (World.shaped_of_ZipB (by kernel_rfl) (by kernel_rfl)) (by kernel_rfl) (by kernel_rfl) (by kernel_rfl) (door_met os _)) ?_
  intro W base args ds gs before hval0 hW hcnd hsz hL hsh _
  have hval : ∀ (j : Nat) t v, Tryz.f11.params[j]? = some t → args[j]? = some v → Value.okWide Tryz.prog W .any base t v := hval0
  have hW' := hW
  obtain ⟨p, q, hA0, hV, rfl, hfz, hnd⟩ := hW
  have hA : DataW.TrodAll enc Tryz.prog W 0 (fun _ => true) true Tryz.f11.params.toList args.toList ds p := hA0
  have hA1 := hA
  rw [Tryz.params11] at hA hval
  obtain ⟨v0, vs0, d0, ds0, p0, q0, hargs, rfl, rfl, h0, r0⟩ := trodAll_cons hA
  obtain ⟨v1, vs1, d1, ds1, p1, q1, rfl, rfl, rfl, h1, r1⟩ := trodAll_cons r0
  obtain ⟨v2, vs2, d2, ds2, p2, q2, rfl, rfl, rfl, h2, r2⟩ := trodAll_cons r1
  obtain ⟨rfl, rfl, rfl⟩ := trodAll_nil r2
  obtain rfl : args = #[v0, v1, v2] := by cases args; simp_all
  obtain ⟨rfl, rfl⟩ := trodVars_none hV
  letI := homeAt W
  have b0 : Base (fun _ => none) Heap.empty W := Base.empty W (Nat.le_refl _) (fun _ _ => rfl)
  have l0 := LIn.empty
  obtain ⟨x0, rfl, rfl, rfl, g0⟩ := open_int Tryz.underlying5 (hval 0 5 v0 rfl rfl) h0
  have l1 := l0.val (.int .u8) x0
  obtain ⟨x1, rfl, rfl, rfl, g1⟩ := open_int Tryz.underlying45 (hval 1 45 v1 rfl rfl) h1
  have l2 := l1.val (.int .u64) x1
  obtain ⟨x2, rfl, rfl, rfl, g2⟩ := open_int Tryz.underlying5 (hval 2 5 v2 rfl rfl) h2
  have l3 := l2.val (.int .u8) x2
  obtain ⟨n, hev⟩ := ev x0 x1 x2 g0 g1 g2 l3
  refine (law_call (w := W) (args := [.int .u8 x0, .int .u64 x1, .int .u8 x2]) (avs := [.int .u8 x0, .int .u64 x1, .int .u8 x2]) (goodTabSt (fun w hw => (libOk hL hsh).congr hw)) Tryz.checked.mixed b0 ⟨_, _, rfl, rfl, ⟨_, _, rfl, rfl, ⟨_, _, rfl, rfl, rfl⟩⟩⟩ hev).mono fun e W' ⟨he, bel⟩ => ?_
  subst he
  exact ⟨_, rfl, _, [], _, [], _, [], hW', trodAll_mk1 (shut_bool Tryz.underlying4 _), trodAll_below laidOut bel (by kernel_rfl) hA1, rfl, bel.frame _, fun h => by cases h⟩

theorem over : Rows.seqStoresRow.holds Tryz.pinned (OpenSpec.ofChange Rows.seqStoresSpec) :=
  OpenClaim.holds_of_wide 11 Tryz.f11 rfl rfl rfl rfl rfl rfl rfl ⟨rfl, rfl, rfl, rfl, rfl⟩ rfl rfl rfl rfl rfl (by kernel_rfl) Tryz.func11 (by kernel_rfl)
    (of_decide_eq_true (by kernel_rfl)) (by unfold Func.isWrapper; first | (rw [if_pos (by decide +kernel)]; kernel_rfl) | (rw [if_neg (by decide +kernel)]; exact ⟨rfl, rfl⟩))
    (fun os started H enc _ => lifted os started H enc)

/-- THE STATEMENT -/
theorem proved : Rows.SeqStoresCardSaid :=
  Claim7.holds_tied_plain_at .later [] [.data, .data, .data, .data, .sentinel, .sentinel, .pinned] true (true, "9e2463d3c644127c95cf2bcac973771c29e6dc06e526da3e67b668e9618ccdfd") true
    over (fun _ h => by cases h) (by kernel_rfl) (fun _ h => by cases h) seqStores_row_tie rfl ⟨rfl, rfl⟩ (by kernel_rfl) rfl
    (fun f fn hf hfn => by
      obtain rfl : f = 11 := Option.some.inj ((show Tryz.prog.funcNamed Rows.seqStoresRow.func = some 11 by kernel_rfl).symm.trans hf) |>.symm
      obtain rfl : fn = Tryz.f11 := (Option.some.inj (Tryz.func11.symm.trans hfn)).symm
      exact ⟨by kernel_rfl, fun j t ht => by
        rw [Tryz.params11] at ht
        have hm : t ∈ [5, 45, 5] := by simpa using Array.mem_of_getElem? ht
        have hall : ([5, 45, 5].all fun u => !Tryz.prog.wantsStandIn u) = true := by kernel_rfl
        exact (show Tryz.prog.wantsStandIn t = false by simpa using List.all_eq_true.1 hall t hm)⟩)
    (by kernel_rfl)
#print axioms proved
end Go.Proofs.YtkcfkegkhopakaaGreatDoor.seqStores
