/- The law SeqTogether returns true of every argument: what a hart does alone is what steps do with the numbers that were read. No condition. -/
import Derived.Test.YtkcfkegkhopakaaGreatDoorPlTc
import Derived.Test.YtkcfkegkhopakaaGreatDoorConSg
import Derived.Test.YtkcfkegkhopakaaGreatDoorEqSg
import Derived.Test.YtkcfkegkhopakaaGreatDoorKnSg
import Derived.Test.YtkcfkegkhopakaaGreatDoorRows
import Derived.Test.YtkcfkegkhopakaaGreatDoorEvY
import Derived.Test.YtkcfkegkhopakaaGreatDoorTie
import Derived.Test.YtkcfkegkhopakaaGreatDoorCards
import Derived.SevenTiedAt
import Derived.WalkKit
import Derived.ProofKit
import Derived.OpenShut
import Derived.ShutString
import Derived.SizedLaws
namespace Go.Proofs.YtkcfkegkhopakaaGreatDoor.seqTogether
open Go Go.Ev Go.Sh Go.RowKit Go.ChangeShapes Go.WideShapes Go.ChangeAt
set_option linter.unusedVariables false


theorem hc : s10 = ⟨[.ty (Ty.pair (.int .u64) (.pair (.arr 32 (.int .u64)) (.int .i64))), .sla 0 .any, .ty (.int .u8)], [Ty.int .u8].map fun t => ⟨false, .many t⟩, ⟨[(0, .ty .bool)], [], [], []⟩⟩ := by kernel_rfl
theorem hy (x0 : (Ty.pair (.int .u64) (.pair (.arr 32 (.int .u64)) (.int .i64))).den) (x1 : List (Ty.int .u8).den) (x2 : (Ty.int .u8).den) (g0 : (Ty.pair (.int .u64) (.pair (.arr 32 (.int .u64)) (.int .i64))).wf x0) (g1 : ∀ x ∈ x1, (Ty.int .u8).wf x) {len1 : Nat} (n1 : x1.length = len1) (m1 : len1 ≤ maxLen) (g2 : (Ty.int .u8).wf x2) : f10 (1100) (x0, x2, x1) = some true := (show g10' 1100 x0 x2 x1 = some true by rw [F10_eq]; exact together_t (by omega) g0 g2 g1)
theorem ev (x0 : (Ty.pair (.int .u64) (.pair (.arr 32 (.int .u64)) (.int .i64))).den) (x1 : List (Ty.int .u8).den) (x2 : (Ty.int .u8).den) (g0 : (Ty.pair (.int .u64) (.pair (.arr 32 (.int .u64)) (.int .i64))).wf x0) (g1 : ∀ x ∈ x1, (Ty.int .u8).wf x) {len1 : Nat} (n1 : x1.length = len1) (m1 : len1 ≤ maxLen) (g2 : (Ty.int .u8).wf x2) {r : RM} {H : Heap} {us : List AV}
    (l : LIn H r [.ty (Ty.pair (.int .u64) (.pair (.arr 32 (.int .u64)) (.int .i64))), .sla 0 .any, .ty (.int .u8)] [⟨.ty (Ty.pair (.int .u64) (.pair (.arr 32 (.int .u64)) (.int .i64))), x0⟩, ⟨.ty (Ty.int .u8), x2⟩] us [Ty.int .u8] [⟨.lst (Ty.int .u8), x1⟩]) : ∃ n H', evF TBSg n 10 us H = some (.bool true, H') :=
  law_ev2 (sg := s10) (fn := f10) gk10.1 hc (hy x0 x1 x2 g0 g1 n1 m1 g2) l rfl rfl

theorem own : ownKnob Tryz.prog.godebug = none := by kernel_rfl
theorem laidOut : laidOutB Tryz.prog = true := by kernel_rfl

set_option maxRecDepth 100000 in
/-- the world that the variables' own initialisers leave -/
theorem door_met (os : Os) (args : Array Value) : laidMetH Tryz.prog Rows.seqTogetherRow.laid ((World.laidAll Tryz.prog os Rows.seqTogetherRow.laid).forCall (fun _ _ => 0) ⟨#[], args, []⟩).memory := by
  rw [MakeChecks.laidMetH_plain _ _ _ (by kernel_rfl)]
  exact laidMet_laidAll _ (by kernel_rfl) (by kernel_rfl)

theorem rowE (u : TypeId) (h : Tryz.prog.typeName? 3 u = some "*errors.errorString") : u = 236 :=
  typeName_ptr_named (nm := "errors.errorString") (by kernel_rfl) (by kernel_rfl) (by decide) u h

set_option maxRecDepth 100000 in
/-- what the condition gives -/
theorem libOk {W : World} (h : laidMetH Tryz.prog Rows.seqTogetherRow.laid W) (hsh : W.ShapedOpen Tryz.prog) : LibOk Tryz.prog 3 W := by
  rw [MakeChecks.laidMetH_plain _ _ _ (by kernel_rfl)] at h
  have hp : laidMet Tryz.prog _ W := h.tail.tail
  have hr : laidMet Tryz.prog _ W := h.tail.tail.tail.tail
  have hs : laidMet Tryz.prog _ W := h.tail.tail.tail.tail.tail
  refine ⟨Lib.tabIs_of_head (g := 0) (t := 208) (e := 45) (n := 20) (k := .u64) (zs := Lib.pow10Tab) (by kernel_rfl) (by kernel_rfl) Tryz.underlying208 Tryz.underlying45 (by kernel_rfl) (by kernel_rfl) hp, ?_, ?_,
    Go.Proofs.cell_of_shapedOpen_int (zero := #[.int .i64 0]) (t := 3) hsh (of_decide_eq_true (by kernel_rfl)) (by kernel_rfl) rfl (by kernel_rfl) (by kernel_rfl) Tryz.underlying3⟩
  · obtain ⟨a, s, h1, _⟩ := laid_sentinel (g := 1) (ti := 111) (tp := 236) (te := 238) (ts := 9) hs (by kernel_rfl) (by kernel_rfl) Tryz.underlying111 rowE Tryz.underlying236 Tryz.underlying238 rfl rfl Tryz.underlying9 (by kernel_rfl) (by kernel_rfl)
    exact ⟨_, _, h1⟩
  · obtain ⟨a, s, h1, _⟩ := laid_sentinel (g := 2) (ti := 111) (tp := 236) (te := 238) (ts := 9) hr (by kernel_rfl) (by kernel_rfl) Tryz.underlying111 rowE Tryz.underlying236 Tryz.underlying238 rfl rfl Tryz.underlying9 (by kernel_rfl) (by kernel_rfl)
    exact ⟨_, _, h1⟩

set_option maxRecDepth 100000 in
theorem lifted (os : Os) (started : os.Started) (H : Type) (enc : TypeId × Value → H) :
    ReturnsInHanded {} Tryz.checked os 10 .any (fun w args => (Rows.seqTogetherSpec.pre enc Tryz.prog Tryz.f10 Rows.seqTogetherRow.domain false w args ∧ laidMetH Tryz.prog Rows.seqTogetherRow.laid w) ∧ sizedMet enc Tryz.prog Tryz.f10 (OpenSpec.ofChange Rows.seqTogetherSpec) false w args) (Rows.seqTogetherSpec.post enc Tryz.prog Tryz.f10 false true false false) := by
  refine returnsInHanded_laid (C := Tryz.checked) own started (by kernel_rfl) Tryz.func10
    (ChangeSpec.witness_shaped (enc := enc) (C := Tryz.checked) (os := os) (X := fun w _ => laidMetH Tryz.prog Rows.seqTogetherRow.laid w) false (World.laidAll Tryz.prog os Rows.seqTogetherRow.laid) #[.agg (zeroOf (Ty.pair (.int .u64) (.pair (.arr 32 (.int .u64)) (.int .i64))).lks).toArray, .slice none 0 0, .int .u8 0] 8 (World.laidAll_os _ _ _) (World.shaped_of_ZipB (by kernel_rfl) (by kernel_rfl)) (by kernel_rfl) (by kernel_rfl) (by kernel_rfl) (door_met os _)) ?_
  intro W base args ds gs before hval0 hW hcnd hsz hL hsh _
  have hval : ∀ (j : Nat) t v, Tryz.f10.params[j]? = some t → args[j]? = some v → Value.okWide Tryz.prog W .any base t v := hval0
  have hW' := hW
  obtain ⟨p, q, hA0, hV, rfl, hfz, hnd⟩ := hW
  have hA : DataW.TrodAll enc Tryz.prog W 0 (fun _ => true) true Tryz.f10.params.toList args.toList ds p := hA0
  have hA1 := hA
  rw [Tryz.params10] at hA hval
  obtain ⟨v0, vs0, d0, ds0, p0, q0, hargs, rfl, rfl, h0, r0⟩ := trodAll_cons hA
  obtain ⟨v1, vs1, d1, ds1, p1, q1, rfl, rfl, rfl, h1, r1⟩ := trodAll_cons r0
  obtain ⟨v2, vs2, d2, ds2, p2, q2, rfl, rfl, rfl, h2, r2⟩ := trodAll_cons r1
  obtain ⟨rfl, rfl, rfl⟩ := trodAll_nil r2
  obtain rfl : args = #[v0, v1, v2] := by cases args; simp_all
  obtain ⟨rfl, rfl⟩ := trodVars_none hV
  letI := homeAt W
  have b0 : Base (fun _ => none) Heap.empty W := Base.empty W (Nat.le_refl _) (fun _ _ => rfl)
  have l0 := LIn.empty
  obtain ⟨a0, e0, w0⟩ := imp_row (ks := (Ty.pair (.int .u64) (.pair (.arr 32 (.int .u64)) (.int .i64))).lks) 12 (by kernel_rfl) (by kernel_rfl) (hval 0 48 v0 rfl rfl) h0
  obtain ⟨x0, rfl, g0⟩ := row_ty (Ty.pair (.int .u64) (.pair (.arr 32 (.int .u64)) (.int .i64))) a0 w0
  have l1 := l0.val (Ty.pair (.int .u64) (.pair (.arr 32 (.int .u64)) (.int .i64))) x0
  obtain ⟨j1, H1, s1, a1, len1, y1, b1, e1, w1, m1⟩ := imp_sl (ks := (Ty.int .u8).lks) 12 Tryz.underlying35 (by kernel_rfl) (by kernel_rfl) (hval 1 35 v1 rfl rfl) h1 b0
  obtain ⟨rm1, x1, n1, g1, l2⟩ := l1.sl (t := Ty.int .u8) (by decide) w1
  obtain ⟨x2, rfl, rfl, rfl, g2⟩ := open_int Tryz.underlying5 (hval 2 5 v2 rfl rfl) h2
  have l3 := l2.val (.int .u8) x2
  obtain ⟨n, hev⟩ := ev x0 x1 x2 g0 g1 n1 m1 g2 l3
  refine (law_call (w := W) (args := [v0, v1, .int .u8 x2]) (avs := [.agg ((Ty.pair (.int .u64) (.pair (.arr 32 (.int .u64)) (.int .i64))).cells x0), s1, .int .u8 x2]) (goodTabSg (fun w hw => (libOk hL hsh).congr hw)) Tryz.checked.mixed b1 ⟨_, _, rfl, (e0 _), ⟨_, _, rfl, e1, ⟨_, _, rfl, rfl, rfl⟩⟩⟩ hev).mono fun e W' ⟨he, bel⟩ => ?_
  subst he
  exact ⟨_, rfl, _, [], _, [], _, [], hW', trodAll_mk1 (shut_bool Tryz.underlying4 _), trodAll_below laidOut bel (by kernel_rfl) hA1, rfl, bel.frame _, fun h => by cases h⟩

theorem over : Rows.seqTogetherRow.holds Tryz.pinned (OpenSpec.ofChange Rows.seqTogetherSpec) :=
  OpenClaim.holds_of_wide 10 Tryz.f10 rfl rfl rfl rfl rfl rfl rfl ⟨rfl, rfl, rfl, rfl, rfl⟩ rfl rfl rfl rfl rfl (by kernel_rfl) Tryz.func10 (by kernel_rfl)
    (of_decide_eq_true (by kernel_rfl)) (by unfold Func.isWrapper; first | (rw [if_pos (by decide +kernel)]; kernel_rfl) | (rw [if_neg (by decide +kernel)]; exact ⟨rfl, rfl⟩))
    (fun os started H enc _ => lifted os started H enc)

/-- THE STATEMENT -/
theorem proved : Rows.SeqTogetherCardSaid :=
  Claim7.holds_tied_plain_at .later [] [.data, .data, .data, .data, .sentinel, .sentinel, .pinned] true (true, "9e2463d3c644127c95cf2bcac973771c29e6dc06e526da3e67b668e9618ccdfd") true
    over (fun _ h => by cases h) (by kernel_rfl) (fun _ h => by cases h) seqTogether_row_tie rfl ⟨rfl, rfl⟩ (by kernel_rfl) rfl
    (fun f fn hf hfn => by
      obtain rfl : f = 10 := Option.some.inj ((show Tryz.prog.funcNamed Rows.seqTogetherRow.func = some 10 by kernel_rfl).symm.trans hf) |>.symm
      obtain rfl : fn = Tryz.f10 := (Option.some.inj (Tryz.func10.symm.trans hfn)).symm
      exact ⟨by kernel_rfl, fun j t ht => by
        rw [Tryz.params10] at ht
        have hm : t ∈ [48, 35, 5] := by simpa using Array.mem_of_getElem? ht
        have hall : ([48, 35, 5].all fun u => !Tryz.prog.wantsStandIn u) = true := by kernel_rfl
        exact (show Tryz.prog.wantsStandIn t = false by simpa using List.all_eq_true.1 hall t hm)⟩)
    (by kernel_rfl)
#print axioms proved
end Go.Proofs.YtkcfkegkhopakaaGreatDoor.seqTogether
