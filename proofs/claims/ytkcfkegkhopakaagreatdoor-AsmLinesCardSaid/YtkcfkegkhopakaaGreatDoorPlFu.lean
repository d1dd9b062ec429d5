/- strconv.FormatUint at base 10: the decimal numeral. No condition. -/
import Derived.Test.YtkcfkegkhopakaaGreatDoorPlLib
import Derived.Test.YtkcfkegkhopakaaGreatDoorShX3
import Derived.Lib.AppendIntMem
namespace Go.Proofs.YtkcfkegkhopakaaGreatDoor
open Go Go.Ev Go.RowKit Go.Proofs Go.Sort
set_option linter.unusedVariables false
set_option maxHeartbeats 6400000
set_option maxRecDepth 100000

theorem fuint_inner (u : Nat) (hu64 : u < 18446744073709551616) (w : World) (htab : Lib.TabIs Tryz.prog w "internal/strconv.uint64pow10" .u64 Lib.pow10Tab) :
    Calls Tryz.prog 111 #[.int .u64 u, .int .i64 10] w fun e w' => e = .returned (.string ⟨(Lib.decDigits u).toArray⟩) ∧ ∃ k os, w' = grow (w.drewN k) os := by
  have L : Go.Proofs.LaysM.n246 Tryz.prog Tryz.laysM173_ren := { Tryz.laysM173 with }
  have mixed := L.mixed
  have t2 := L.t2; have a2 := L.a2; have z2 := L.z2; have v2 := L.v2
  have t3 := L.t3; have a3 := L.a3; have z3 := L.z3; have v3 := L.v3
  have t9 := L.t9; have a9 := L.a9; have z9 := L.z9; have v9 := L.v9
  have t4 := L.t4; have a4 := L.a4; have z4 := L.z4; have v4 := L.v4
  have t171 := L.t171; have a171 := L.a171; have z171 := L.z171; have v171 := L.v171
  have t0 := L.t0; have a0 := L.a0; have z0 := L.z0; have v0 := L.v0
  have t53 := L.t53; have a53 := L.a53; have z53 := L.z53; have v53 := L.v53
  have t37 := L.t37; have a37 := L.a37; have z37 := L.z37; have v37 := L.v37
  have t5 := L.t5; have a5 := L.a5; have z5 := L.z5; have v5 := L.v5
  have t173 := L.t173; have a173 := L.a173; have z173 := L.z173; have v173 := L.v173
  have e283 : ∀ args w, (callFunc 169 args).run Tryz.prog w = .ok (.enter 169 args) w := enters_of L.f283 (by kernel_rfl) rfl
  have e284 : ∀ args w, (callFunc 170 args).run Tryz.prog w = .ok (.enter 170 args) w := enters_of L.f284 (by kernel_rfl) rfl
  have e285 : ∀ args w, (callFunc 171 args).run Tryz.prog w = .ok (.enter 171 args) w := enters_of L.f285 (by kernel_rfl) rfl
  simp only [Tryz.laysM173_ren] at t2 a2 z2 v2 t3 a3 z3 v3 t9 a9 z9 v9 t4 a4 z4 v4 t171 a171 z171 v171 t0 a0 z0 v0 t53 a53 z53 v53 t37 a37 z37 v37 t5 a5 z5 v5 t173 a173 z173 v173
  by_cases hs : u < 100
  · go_enter Tryz.func111, Tryz.ntmps111
    go_wp2_with (go_at_fn 169; refine (Any.internal_strconv_small (ρ := Tryz.laysM173_ren) { L with } u hs _).mono ?_; rintro e w' ⟨rfl, rfl⟩)
    go_ret
    exact ⟨rfl, 0, #[], by simp [World.drewN_zero]⟩
  · have hu1 : 1 ≤ u := by omega
    have hnd20 : Lib.nDigits u ≤ 20 := by have := Lib.numDigits_eq u hu1 hu64; split at this <;> omega
    have hal : Tryz.prog.arrayLen 178 = 24 := by simp [Program.arrayLen, t171]
    have hsl : ∀ W, (Instr.sliceAt 178 (.pointer (some ⟨w.heap.size, 0, none⟩)) none (some (.int .i64 (Lib.nDigits u : Int))) none).run Tryz.prog W = .ok (.slice (some ⟨w.heap.size, 0, none⟩) (Lib.nDigits u) 24) W := fun W => by
      rw [run_sliceAt_array_h W 178 ⟨w.heap.size, 0, none⟩ (by simp [Program.arrayLen, Program.elem, t171]) .i64 (Lib.nDigits u : Int) (by omega) (by rw [hal]; omega)]
      go_simp
    have hH0 := Lib.holds_zero0 w 178 (Lib.nDigits u) (by omega)
    have hfmt := Any.internal_strconv_formatBase10 (ρ := Tryz.laysM173_ren) { L with } w.heap.size 0 24 u (Array.replicate (Lib.nDigits u) 0) (w.alloc (.cells Lib.zeros24 178)) hH0 (by rw [Array.size_replicate]; exact Lib.lt_pow_nDigits u) hu64 (by rw [Array.size_replicate]; omega)
    rw [Array.size_replicate] at hfmt
    have HH0 := Lib.hid hH0
    have iu : (100 : Int) ≤ (u : Int) := by omega
    clear hH0 hal
    go_enter Tryz.func111, Tryz.ntmps111
    go_wp2_with (first
      | (go_at_fn 170; refine (Any.internal_strconv_numDigits (ρ := Tryz.laysM173_ren) { L with } u hu1 hu64 _ (Lib.tabIs_alloc htab _)).mono ?_; rintro e w' ⟨rfl, rfl⟩))
    go_at_fn 171
    refine hfmt.mono ?_
    rintro e w' ⟨rfl, k, v', dk, rfl, hF⟩
    have hcv : (convert 35 9 (.slice (some ⟨w.heap.size, 0, none⟩) (Lib.nDigits u) 24)).run Tryz.prog ((putRow (fun (b : UInt8) => Value.int .u8 (b.toNat : Int)) (w.alloc (.cells Lib.zeros24 178)) w.heap.size 0 dk).drewN k) = .ok (.string ⟨(Lib.decDigits u).toArray⟩) ((putRow (fun (b : UInt8) => Value.int .u8 (b.toNat : Int)) (w.alloc (.cells Lib.zeros24 178)) w.heap.size 0 dk).drewN k) := by
      have h := run_convert_bytes_back (P := Tryz.prog) ((putRow (fun (b : UInt8) => Value.int .u8 (b.toNat : Int)) (w.alloc (.cells Lib.zeros24 178)) w.heap.size 0 dk).drewN k) 35 9 5 ⟨w.heap.size, 0, none⟩ 24 (Lib.decDigits u) t37 t5 t9 (fun j hj => by
        rw [Lib.row_is_numeral hF j hj, Lib.add_plain, World.cell?_drewN]
        exact cell?_putRow (fun (b : UInt8) => Value.int .u8 (b.toNat : Int)) _ w.heap.size 0 _ dk HH0.out (by rw [hF.size, Array.size_replicate]) j (by rw [hF.size]; rw [Lib.decDigits_length] at hj; exact hj))
      rw [Lib.decDigits_length] at h
      exact h
    go_wp2
    go_ret
    obtain ⟨os, eo⟩ := Lib.fin_at w (.cells Lib.zeros24 178) dk k 0
    exact ⟨rfl, k, os, eo⟩

theorem fuint_outer (u : Nat) (hu64 : u < 18446744073709551616) (w : World) (htab : Lib.TabIs Tryz.prog w "internal/strconv.uint64pow10" .u64 Lib.pow10Tab) :
    Calls Tryz.prog 58 #[.int .u64 u, .int .i64 10] w fun e w' => e = .returned (.string ⟨(Lib.decDigits u).toArray⟩) ∧ ∃ k os, w' = grow (w.drewN k) os := by
  have L : Go.Proofs.LaysM.n246 Tryz.prog Tryz.laysM173_ren := { Tryz.laysM173 with }
  have mixed := L.mixed
  have t3 := L.t3; have a3 := L.a3; have z3 := L.z3; have v3 := L.v3
  have t9 := L.t9; have a9 := L.a9; have z9 := L.z9; have v9 := L.v9
  have t53 := L.t53; have a53 := L.a53; have z53 := L.z53; have v53 := L.v53
  simp only [Tryz.laysM173_ren] at t3 a3 z3 v3 t9 a9 z9 v9 t53 a53 z53 v53
  have e111 : ∀ args w, (callFunc 111 args).run Tryz.prog w = .ok (.enter 111 args) w := enters_of Tryz.func111 (by kernel_rfl) rfl
  go_enter Tryz.func58, Tryz.ntmps58
  go_wp2_with (go_at_fn 111; refine (fuint_inner u hu64 _ htab).mono ?_; rintro e w' ⟨rfl, k, os, rfl⟩)
  go_ret
  exact ⟨rfl, k, os, rfl⟩

def u64B (n : Int) : Bool := decide (0 ≤ n) && decide (n ≤ 18446744073709551615)
def fuF (n : Int) : List UInt8 := digF 20 n.toNat
theorem fuF_is {n : Int} (h1 : n ≤ 18446744073709551615) : fuF n = Lib.decDigits n.toNat := by
  have hp : (10 : Nat) ^ 20 = 100000000000000000000 := by decide
  unfold fuF
  rw [digF_is 20 _ (by rw [hp]; omega) (by omega)]

/-- what is known of calls, and FormatUint -/
def spU (sp : Nat → List AV → Option AV) (f : Nat) (args : List AV) : Option AV :=
  bif f.beq 58 then (match args with
    | [.int .u64 n, .int .i64 b] => bif u64B n && decide (b = 10) then some (.str (fuF n)) else none
    | _ => none) else sp f args

theorem spU_good [Home] {sp : Nat → List AV → Option AV} (hL : ∀ w, Home.I w → LibOk Tryz.prog 3 w) (hs : GoodS Tryz.prog sp) : GoodS Tryz.prog (spU sp) := by
  intro f args v h
  unfold spU at h
  rw [cond_eq_ite] at h
  split at h
  · rename_i hf
    obtain rfl := Nat.eq_of_beq_eq_true hf
    split at h <;> (try simp at h; done)
    rename_i n b
    have hn := (bif_some h).1
    rw [hn, cond_true] at h
    obtain rfl := Option.some.inj h
    simp only [u64B, Bool.and_eq_true, decide_eq_true_eq] at hn
    obtain ⟨hn, rfl⟩ := hn
    refine ⟨enters_of Tryz.func58 (by kernel_rfl) rfl, fun j H w l hw hl => ?_⟩
    obtain ⟨c, cs, rfl, rfl, c2, cs2, rfl, rfl, rfl⟩ := hl
    obtain ⟨u, rfl⟩ : ∃ u : Nat, n = u := ⟨n.toNat, by omega⟩
    refine (fuint_outer u (by omega) w (hL w hw.inv).pow).mono ?_
    rintro e w' ⟨rfl, k, os, rfl⟩
    exact ⟨j, _, trans_below hw (below_grow w k os), by simp only [VR]; rw [fuF_is hn.2]; rfl, rfl⟩
  · exact hs f args v h

end Go.Proofs.YtkcfkegkhopakaaGreatDoor
namespace Go.Sh
open Go Go.Ev
/-- strconv.FormatUint -/
noncomputable def fuintS (_ : Nat) (x : Int × Int) : Option (List UInt8) := chk (Go.Proofs.YtkcfkegkhopakaaGreatDoor.u64B x.1 && decide (x.2 = 10)) (some (Go.Proofs.YtkcfkegkhopakaaGreatDoor.fuF x.1))
theorem good_fuint {T : Tab} {f : Nat} (h : ∀ n b, (Go.Proofs.YtkcfkegkhopakaaGreatDoor.u64B n && decide ((b : Int) = 10)) = true → T.sp f [.int .u64 n, .int .i64 b] = some (.str (Go.Proofs.YtkcfkegkhopakaaGreatDoor.fuF n))) : GoodC T f ⟨sg1 [.int .u64, iI] .str, fuintS⟩ := by
  refine good_flat rfl rfl rfl fun N x y hy r us hd => ?_
  obtain ⟨hc, hy⟩ := chk_some hy
  obtain rfl := Option.some.inj hy
  have := drs_flat hd
  subst this
  exact ⟨_, h x.1 x.2 hc, drs_one (t := .str) _⟩
end Go.Sh
