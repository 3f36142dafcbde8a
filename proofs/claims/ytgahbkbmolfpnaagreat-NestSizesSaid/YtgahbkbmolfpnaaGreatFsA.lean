/- Printed by sx.py: words over the heap alone for Go functions, and that each call does what its word says. -/
import Derived.Test.YtgahbkbmolfpnaaGreatSxSel
import Derived.Test.YtgahbkbmolfpnaaGreatSxNest
import Derived.Test.YtgahbkbmolfpnaaGreatProg
namespace Go.Proofs.YtgahbkbmolfpnaaGreat.Fs
open Go Go.RowKit Go.Proofs.YtgahbkbmolfpnaaGreat.Sx
set_option linter.unusedVariables false

/-! ### quintet/nest.Prune: function 6 -/
def nest_Prune_l7 (A338 : Option Addr) (l338 : Nat) (c338 : Nat) (A340 : Option Addr) (l340 : Nat) (c340 : Nat) (a341 : Addr) (A342 : Option Addr) (l342 : Nat) (c342 : Nat) (x343 : Int) (x344 : Int) (A345 : Option Addr) (l345 : Nat) (c345 : Nat) (x346 : Int) (x347 : Int) (A348 : Option Addr) (l348 : Nat) (c348 : Nat) (x349 : Int) (K0 : (Option Addr) → Nat → Nat → Int → (Option Addr) → Nat → Nat → (Option Addr) → Nat → Nat → Int → Int → (Option Addr) → Nat → Nat → Int → Int → Hp → Prop)  : Nat → Int → Int → Hp → Prop
  | 0, _, _, _ => False
  | k + 1, x339, x350, h =>
    br (decide (x350 < x349))
    (∃ a383 : Addr, PV Tryz.prog (Instr.indexAt 22 (.slice A348 l348 c348) (.int .i64 x350)) (.pointer (some a383)) ∧
    ∃ x384 : Int, ∃ x385 : Int, ∃ x386 : Int, ∃ x387 : Int, ∃ x388 : Int, ∃ x389 : Int, ∃ x390 : Int, ∃ x391 : Int, ∃ x392 : Int, ∃ x393 : Int, ∃ x394 : Int, ∃ x395 : Int, HV Tryz.prog (Instr.loadAt 49 (.pointer (some a383))) h (.agg #[(.int .i64 x384), (.int .u32 x385), (.int .i64 x386), (.int .u32 x387), (.int .i64 x388), (.int .u16 x389), (.int .u16 x390), (.int .u16 x391), (.int .u16 x392), (.int .u8 x393), (.int .u8 x394), (.int .i64 x395)]) ∧ 
    newC h (.cells #[(.int .i64 0), (.int .u32 0), (.int .i64 0), (.int .u32 0), (.int .i64 0), (.int .u16 0), (.int .u16 0), (.int .u16 0), (.int .u16 0), (.int .u8 0), (.int .u8 0), (.int .i64 0)] 49 (0, 0)) fun a397 h396 => 
    HU Tryz.prog (Instr.storeAt 49 (.pointer (some a397)) (.agg #[(.int .i64 x384), (.int .u32 x385), (.int .i64 x386), (.int .u32 x387), (.int .i64 x388), (.int .u16 x389), (.int .u16 x390), (.int .u16 x391), (.int .u16 x392), (.int .u8 x393), (.int .u8 x394), (.int .i64 x395)])) h396 fun h398 => 
    ∃ x399 : Int, ∃ x400 : Int, HV Tryz.prog (Instr.loadAt 45 (.pointer (some a341))) h398 (.agg #[(.int .u32 x399), (.int .i64 x400)]) ∧ 
    ∃ x401 : Int, ∃ x402 : Int, HV Tryz.prog (Instr.loadAt 45 (.pointer (some (a397.add 3)))) h398 (.agg #[(.int .u32 x401), (.int .i64 x402)]) ∧ 
    CallsH Tryz.prog 25 #[(.agg #[(.int .u32 x399), (.int .i64 x400)]), (.agg #[(.int .u32 x401), (.int .i64 x402)])] h398 fun r404 h403 =>
    ∃ b405 : Bool, r404 = (.bool b405) ∧ 
    br b405
    (nest_Prune_l7 A338 l338 c338 A340 l340 c340 a341 A342 l342 c342 x343 x344 A345 l345 c345 x346 x347 A348 l348 c348 x349 K0 k (IntKind.i64.wrap (x339 + 1)) (IntKind.i64.wrap (x350 + 1)) h403)
    (nest_Prune_l7 A338 l338 c338 A340 l340 c340 a341 A342 l342 c342 x343 x344 A345 l345 c345 x346 x347 A348 l348 c348 x349 K0 k x339 (IntKind.i64.wrap (x350 + 1)) h403))
    (K0 A338 l338 c338 x339 A340 l340 c340 A342 l342 c342 x343 x344 A345 l345 c345 x346 x347 h)
def nest_Prune_l7_L (Q : Qx) (k : Nat) (tm : Tm) (h : Hp) : Prop :=
  selS (tm 0) fun A338 l338 c338 =>
  selI .i64 (tm 5) fun x339 =>
  selS (tm 8) fun A340 l340 c340 =>
  selA (tm 10) fun a341 =>
  selS (tm 19) fun A342 l342 c342 =>
  selI .i64 (tm 20) fun x343 =>
  selI .i64 (tm 21) fun x344 =>
  selS (tm 29) fun A345 l345 c345 =>
  selI .i64 (tm 30) fun x346 =>
  selI .i64 (tm 31) fun x347 =>
  selS (tm 35) fun A348 l348 c348 =>
  selI .i64 (tm 36) fun x349 =>
  selI .i64 (tm 37) fun x350 =>
  nest_Prune_l7 A338 l338 c338 A340 l340 c340 a341 A342 l342 c342 x343 x344 A345 l345 c345 x346 x347 A348 l348 c348 x349 (fun (A374 : Option Addr) (l374 : Nat) (c374 : Nat) (x375 : Int) (A376 : Option Addr) (l376 : Nat) (c376 : Nat) (A377 : Option Addr) (l377 : Nat) (c377 : Nat) (x378 : Int) (x379 : Int) (A380 : Option Addr) (l380 : Nat) (c380 : Nat) (x381 : Int) (x382 : Int) h => Q (.exit 4) (mkTm [(0, some (.slice A374 l374 c374)), (5, some (.int .i64 x375)), (8, some (.slice A376 l376 c376)), (19, some (.slice A377 l377 c377)), (20, some (.int .i64 x378)), (21, some (.int .i64 x379)), (29, some (.slice A380 l380 c380)), (30, some (.int .i64 x381)), (31, some (.int .i64 x382))]) h) k x339 x350 h
def nest_Prune_l6 (A233 : Option Addr) (l233 : Nat) (c233 : Nat) (A235 : Option Addr) (l235 : Nat) (c235 : Nat) (A236 : Option Addr) (l236 : Nat) (c236 : Nat) (x237 : Int) (x238 : Int) (A239 : Option Addr) (l239 : Nat) (c239 : Nat) (x240 : Int) (K0 : (Option Addr) → Nat → Nat → Int → (Option Addr) → Nat → Nat → Int → Int → Hp → Prop)  : Nat → Int → Int → Hp → Prop
  | 0, _, _, _ => False
  | k + 1, x234, x241, h =>
    br (decide (x241 < x240))
    (∃ a332 : Addr, PV Tryz.prog (Instr.indexAt 53 (.slice A239 l239 c239) (.int .i64 x241)) (.pointer (some a332)) ∧
    ∃ x333 : Int, ∃ x334 : Int, HV Tryz.prog (Instr.loadAt 45 (.pointer (some a332))) h (.agg #[(.int .u32 x333), (.int .i64 x334)]) ∧ 
    newC h (.cells #[(.int .u32 0), (.int .i64 0)] 45 (0, 0)) fun a336 h335 => 
    HU Tryz.prog (Instr.storeAt 45 (.pointer (some a336)) (.agg #[(.int .u32 x333), (.int .i64 x334)])) h335 fun h337 => 
    ∃ k416, nest_Prune_l7 A233 l233 c233 A235 l235 c235 a336 A236 l236 c236 x237 x238 A239 l239 c239 x240 x241 A235 l235 c235 (l235 : Int)
    (fun (A406 : Option Addr) (l406 : Nat) (c406 : Nat) (x407 : Int) (A408 : Option Addr) (l408 : Nat) (c408 : Nat) (A409 : Option Addr) (l409 : Nat) (c409 : Nat) (x410 : Int) (x411 : Int) (A412 : Option Addr) (l412 : Nat) (c412 : Nat) (x413 : Int) (x414 : Int) (h415 : Hp) =>
    nest_Prune_l6 A233 l233 c233 A235 l235 c235 A236 l236 c236 x237 x238 A239 l239 c239 x240 K0 k x407 (IntKind.i64.wrap (x414 + 1)) h415)
    k416 x234 0 h337)
    (K0 A233 l233 c233 x234 A236 l236 c236 x237 x238 h)
def nest_Prune_l6_L (Q : Qx) (k : Nat) (tm : Tm) (h : Hp) : Prop :=
  selS (tm 0) fun A233 l233 c233 =>
  selI .i64 (tm 5) fun x234 =>
  selS (tm 8) fun A235 l235 c235 =>
  selS (tm 19) fun A236 l236 c236 =>
  selI .i64 (tm 20) fun x237 =>
  selI .i64 (tm 21) fun x238 =>
  selS (tm 29) fun A239 l239 c239 =>
  selI .i64 (tm 30) fun x240 =>
  selI .i64 (tm 31) fun x241 =>
  nest_Prune_l6 A233 l233 c233 A235 l235 c235 A236 l236 c236 x237 x238 A239 l239 c239 x240 (fun (A327 : Option Addr) (l327 : Nat) (c327 : Nat) (x328 : Int) (A329 : Option Addr) (l329 : Nat) (c329 : Nat) (x330 : Int) (x331 : Int) h => Q (.exit 2) (mkTm [(0, some (.slice A327 l327 c327)), (5, some (.int .i64 x328)), (19, some (.slice A329 l329 c329)), (20, some (.int .i64 x330)), (21, some (.int .i64 x331))]) h) k x234 x241 h
def nest_Prune_l4 (A8 : Option Addr) (l8 : Nat) (c8 : Nat) (A10 : Option Addr) (l10 : Nat) (c10 : Nat) (x11 : Int) (K0 : Int → Hp → Prop)  : Nat → Int → Int → Hp → Prop
  | 0, _, _, _ => False
  | k + 1, x9, x12, h =>
    br (decide (x12 < x11))
    (∃ a219 : Addr, PV Tryz.prog (Instr.indexAt 53 (.slice A10 l10 c10) (.int .i64 x12)) (.pointer (some a219)) ∧
    ∃ x220 : Int, ∃ x221 : Int, HV Tryz.prog (Instr.loadAt 45 (.pointer (some a219))) h (.agg #[(.int .u32 x220), (.int .i64 x221)]) ∧ 
    newC h (.cells #[(.int .u32 0), (.int .i64 0)] 45 (0, 0)) fun a223 h222 => 
    HU Tryz.prog (Instr.storeAt 45 (.pointer (some a223)) (.agg #[(.int .u32 x220), (.int .i64 x221)])) h222 fun h224 => 
    ∃ x225 : Int, ∃ x226 : Int, HV Tryz.prog (Instr.loadAt 45 (.pointer (some a223))) h224 (.agg #[(.int .u32 x225), (.int .i64 x226)]) ∧ 
    CallsH Tryz.prog 23 #[(.slice A8 l8 c8), (.agg #[(.int .u32 x225), (.int .i64 x226)])] h224 fun r228 h227 =>
    ∃ A229 : Option Addr, ∃ l229 : Nat, ∃ c229 : Nat, r228 = (.slice A229 l229 c229) ∧ 
    CallsH Tryz.prog 21 #[(.slice A229 l229 c229), (.func (.func 24) #[] #[])] h227 fun r231 h230 =>
    ∃ A232 : Option Addr, ∃ l232 : Nat, ∃ c232 : Nat, r231 = (.slice A232 l232 c232) ∧ 
    ∃ k423, nest_Prune_l6 A8 l8 c8 A229 l229 c229 A10 l10 c10 x11 x12 A232 l232 c232 (l232 : Int)
    (fun (A417 : Option Addr) (l417 : Nat) (c417 : Nat) (x418 : Int) (A419 : Option Addr) (l419 : Nat) (c419 : Nat) (x420 : Int) (x421 : Int) (h422 : Hp) =>
    nest_Prune_l4 A8 l8 c8 A10 l10 c10 x11 K0 k x418 (IntKind.i64.wrap (x421 + 1)) h422)
    k423 x9 0 h230)
    (K0 x9 h)
def nest_Prune_l4_L (Q : Qx) (k : Nat) (tm : Tm) (h : Hp) : Prop :=
  selS (tm 0) fun A8 l8 c8 =>
  selI .i64 (tm 5) fun x9 =>
  selS (tm 19) fun A10 l10 c10 =>
  selI .i64 (tm 20) fun x11 =>
  selI .i64 (tm 21) fun x12 =>
  nest_Prune_l4 A8 l8 c8 A10 l10 c10 x11 (fun (x218 : Int) h => Q (.exit 0) (mkTm [(5, some (.int .i64 x218))]) h) k x9 x12 h
def nest_Prune (A1 : Option Addr) (l1 : Nat) (c1 : Nat) (h : Hp) (K : Value → Hp → Prop) : Prop :=
  CallsH Tryz.prog 20 #[(.slice A1 l1 c1)] h fun r3 h2 =>
  ∃ x4 : Int, r3 = (.int .i64 x4) ∧ 
  br (x4 != 0)
  (K (.tuple #[(.int .i64 0), (.int .i64 x4)]) h2)
  (CallsH Tryz.prog 21 #[(.slice A1 l1 c1), (.func (.func 22) #[] #[])] h2 fun r6 h5 =>
  ∃ A7 : Option Addr, ∃ l7 : Nat, ∃ c7 : Nat, r6 = (.slice A7 l7 c7) ∧ 
  ∃ k426, nest_Prune_l4 A1 l1 c1 A7 l7 c7 (l7 : Int)
  (fun (x424 : Int) (h425 : Hp) =>
  K (.tuple #[(.int .i64 x424), (.int .i64 0)]) h425)
  k426 0 0 h5)
def nest_Prune_lp (i : Nat) (Q : Qx) (tm : Tm) (h : Hp) : Prop := match Nat.beq i 16043622 with
  | true => ∃ k, nest_Prune_l7_L Q k tm h
  | false => match Nat.beq i 62670 with
  | true => ∃ k, nest_Prune_l6_L Q k tm h
  | false => match Nat.beq i 122 with
  | true => ∃ k, nest_Prune_l4_L Q k tm h
  | false => False
def nest_Prune_cut (i : Nat) : Option (List Nat) := none
set_option maxRecDepth 100000 in
theorem nest_Prune_l7_step (Q : Qx) (k : Nat) (A338 : Option Addr) (l338 : Nat) (c338 : Nat) (x339 : Int) (A340 : Option Addr) (l340 : Nat) (c340 : Nat) (a341 : Addr) (A342 : Option Addr) (l342 : Nat) (c342 : Nat) (x343 : Int) (x344 : Int) (A345 : Option Addr) (l345 : Nat) (c345 : Nat) (x346 : Int) (x347 : Int) (A348 : Option Addr) (l348 : Nat) (c348 : Nat) (x349 : Int) (x350 : Int) (h : Hp) : nest_Prune_l7_L Q (k + 1) (mkTm [(0, some (.slice A338 l338 c338)), (5, some (.int .i64 x339)), (8, some (.slice A340 l340 c340)), (10, some (.pointer (some a341))), (19, some (.slice A342 l342 c342)), (20, some (.int .i64 x343)), (21, some (.int .i64 x344)), (29, some (.slice A345 l345 c345)), (30, some (.int .i64 x346)), (31, some (.int .i64 x347)), (35, some (.slice A348 l348 c348)), (36, some (.int .i64 x349)), (37, some (.int .i64 x350))]) h =
    codeWp Tryz.prog 51 nest_Prune_lp nest_Prune_cut (sub (bodyOf Tryz.f6) [true, true, true, false, true, false, false, true, true, false, false, true, true, true, false, false, true, true, false, false, true, true, false, false]) 32087244 (thenQ (fun tm h => nest_Prune_l7_L Q k (mask [0, 5, 8, 10, 19, 20, 21, 29, 30, 31, 35, 36, 37] tm) h) (maskQ (fun e => match e with | .exit 4 => [0, 5, 8, 19, 20, 21, 29, 30, 31] | _ => []) Q)) (mkTm [(0, some (.slice A338 l338 c338)), (5, some (.int .i64 x339)), (8, some (.slice A340 l340 c340)), (10, some (.pointer (some a341))), (19, some (.slice A342 l342 c342)), (20, some (.int .i64 x343)), (21, some (.int .i64 x344)), (29, some (.slice A345 l345 c345)), (30, some (.int .i64 x346)), (31, some (.int .i64 x347)), (35, some (.slice A348 l348 c348)), (36, some (.int .i64 x349)), (37, some (.int .i64 x350))]) h := by kernel_rfl
theorem nest_Prune_l7_mask (Q : Qx) (k : Nat) (tm : Tm) (h : Hp) : nest_Prune_l7_L Q k tm h ↔ nest_Prune_l7_L Q k (mask [0, 5, 8, 10, 19, 20, 21, 29, 30, 31, 35, 36, 37] tm) h := Iff.rfl
set_option maxRecDepth 100000 in
theorem nest_Prune_l7_snd : SndAt Tryz.prog 51 none (sub (bodyOf Tryz.f6) [true, true, true, false, true, false, false, true, true, false, false, true, true, true, false, false, true, true, false, false, true, true, false]) (nest_Prune_lp 16043622) := by
  refine loop_sound (lp := nest_Prune_lp) (cut := nest_Prune_cut) (i := 16043622) (c := (sub (bodyOf Tryz.f6) [true, true, true, false, true, false, false, true, true, false, false, true, true, true, false, false, true, true, false, false, true, true, false, false])) [0, 5, 8, 10, 19, 20, 21, 29, 30, 31, 35, 36, 37] (fun e => match e with | .exit 4 => [0, 5, 8, 19, 20, 21, 29, 30, 31] | _ => []) nest_Prune_l7_L ?_ ?_ ?_
  · exact good_by (c := (sub (bodyOf Tryz.f6) [true, true, true, false, true, false, false, true, true, false, false, true, true, true, false, false, true, true, false, false, true, true, false, false])) (i := 32087244) (l := []) (by kernel_rfl) (fun _ h => by cases h)
  · intro Q tm h H
    obtain ⟨A338, l338, c338, e0, H⟩ := selS_ex H
    obtain ⟨x339, e5, H⟩ := selI_ex H
    obtain ⟨A340, l340, c340, e8, H⟩ := selS_ex H
    obtain ⟨a341, e10, H⟩ := selA_ex H
    obtain ⟨A342, l342, c342, e19, H⟩ := selS_ex H
    obtain ⟨x343, e20, H⟩ := selI_ex H
    obtain ⟨x344, e21, H⟩ := selI_ex H
    obtain ⟨A345, l345, c345, e29, H⟩ := selS_ex H
    obtain ⟨x346, e30, H⟩ := selI_ex H
    obtain ⟨x347, e31, H⟩ := selI_ex H
    obtain ⟨A348, l348, c348, e35, H⟩ := selS_ex H
    obtain ⟨x349, e36, H⟩ := selI_ex H
    obtain ⟨x350, e37, H⟩ := selI_ex H
    exact H
  · intro Q k tm h H
    have H0 := H
    obtain ⟨A338, l338, c338, e0, H⟩ := selS_ex H
    obtain ⟨x339, e5, H⟩ := selI_ex H
    obtain ⟨A340, l340, c340, e8, H⟩ := selS_ex H
    obtain ⟨a341, e10, H⟩ := selA_ex H
    obtain ⟨A342, l342, c342, e19, H⟩ := selS_ex H
    obtain ⟨x343, e20, H⟩ := selI_ex H
    obtain ⟨x344, e21, H⟩ := selI_ex H
    obtain ⟨A345, l345, c345, e29, H⟩ := selS_ex H
    obtain ⟨x346, e30, H⟩ := selI_ex H
    obtain ⟨x347, e31, H⟩ := selI_ex H
    obtain ⟨A348, l348, c348, e35, H⟩ := selS_ex H
    obtain ⟨x349, e36, H⟩ := selI_ex H
    obtain ⟨x350, e37, H⟩ := selI_ex H
    have e : mask [0, 5, 8, 10, 19, 20, 21, 29, 30, 31, 35, 36, 37] tm = mkTm [(0, some (.slice A338 l338 c338)), (5, some (.int .i64 x339)), (8, some (.slice A340 l340 c340)), (10, some (.pointer (some a341))), (19, some (.slice A342 l342 c342)), (20, some (.int .i64 x343)), (21, some (.int .i64 x344)), (29, some (.slice A345 l345 c345)), (30, some (.int .i64 x346)), (31, some (.int .i64 x347)), (35, some (.slice A348 l348 c348)), (36, some (.int .i64 x349)), (37, some (.int .i64 x350))] := by simp only [mask, List.map_cons, List.map_nil, e0, e5, e8, e10, e19, e20, e21, e29, e30, e31, e35, e36, e37] <;> rfl
    rw [e]
    refine Eq.mp (nest_Prune_l7_step Q k A338 l338 c338 x339 A340 l340 c340 a341 A342 l342 c342 x343 x344 A345 l345 c345 x346 x347 A348 l348 c348 x349 x350 h) ?_
    rw [← e]
    exact (nest_Prune_l7_mask Q (k + 1) tm h).mp H0
set_option maxRecDepth 100000 in
theorem nest_Prune_l6_step (Q : Qx) (k : Nat) (A233 : Option Addr) (l233 : Nat) (c233 : Nat) (x234 : Int) (A235 : Option Addr) (l235 : Nat) (c235 : Nat) (A236 : Option Addr) (l236 : Nat) (c236 : Nat) (x237 : Int) (x238 : Int) (A239 : Option Addr) (l239 : Nat) (c239 : Nat) (x240 : Int) (x241 : Int) (h : Hp) : nest_Prune_l6_L Q (k + 1) (mkTm [(0, some (.slice A233 l233 c233)), (5, some (.int .i64 x234)), (8, some (.slice A235 l235 c235)), (19, some (.slice A236 l236 c236)), (20, some (.int .i64 x237)), (21, some (.int .i64 x238)), (29, some (.slice A239 l239 c239)), (30, some (.int .i64 x240)), (31, some (.int .i64 x241))]) h =
    codeWp Tryz.prog 51 nest_Prune_lp nest_Prune_cut (sub (bodyOf Tryz.f6) [true, true, true, false, true, false, false, true, true, false, false, true, true, true, false, false]) 125340 (thenQ (fun tm h => nest_Prune_l6_L Q k (mask [0, 5, 8, 19, 20, 21, 29, 30, 31] tm) h) (maskQ (fun e => match e with | .exit 2 => [0, 5, 19, 20, 21] | _ => []) Q)) (mkTm [(0, some (.slice A233 l233 c233)), (5, some (.int .i64 x234)), (8, some (.slice A235 l235 c235)), (19, some (.slice A236 l236 c236)), (20, some (.int .i64 x237)), (21, some (.int .i64 x238)), (29, some (.slice A239 l239 c239)), (30, some (.int .i64 x240)), (31, some (.int .i64 x241))]) h := by kernel_rfl
theorem nest_Prune_l6_mask (Q : Qx) (k : Nat) (tm : Tm) (h : Hp) : nest_Prune_l6_L Q k tm h ↔ nest_Prune_l6_L Q k (mask [0, 5, 8, 19, 20, 21, 29, 30, 31] tm) h := Iff.rfl
set_option maxRecDepth 100000 in
theorem nest_Prune_l6_snd : SndAt Tryz.prog 51 none (sub (bodyOf Tryz.f6) [true, true, true, false, true, false, false, true, true, false, false, true, true, true, false]) (nest_Prune_lp 62670) := by
  refine loop_sound (lp := nest_Prune_lp) (cut := nest_Prune_cut) (i := 62670) (c := (sub (bodyOf Tryz.f6) [true, true, true, false, true, false, false, true, true, false, false, true, true, true, false, false])) [0, 5, 8, 19, 20, 21, 29, 30, 31] (fun e => match e with | .exit 2 => [0, 5, 19, 20, 21] | _ => []) nest_Prune_l6_L ?_ ?_ ?_
  · exact good_by (c := (sub (bodyOf Tryz.f6) [true, true, true, false, true, false, false, true, true, false, false, true, true, true, false, false])) (i := 125340) (l := [(16043622, (sub (bodyOf Tryz.f6) [true, true, true, false, true, false, false, true, true, false, false, true, true, true, false, false, true, true, false, false, true, true, false]))]) (by kernel_rfl) (List.forall_mem_cons.2 ⟨nest_Prune_l7_snd, (fun _ h => by cases h)⟩)
  · intro Q tm h H
    obtain ⟨A233, l233, c233, e0, H⟩ := selS_ex H
    obtain ⟨x234, e5, H⟩ := selI_ex H
    obtain ⟨A235, l235, c235, e8, H⟩ := selS_ex H
    obtain ⟨A236, l236, c236, e19, H⟩ := selS_ex H
    obtain ⟨x237, e20, H⟩ := selI_ex H
    obtain ⟨x238, e21, H⟩ := selI_ex H
    obtain ⟨A239, l239, c239, e29, H⟩ := selS_ex H
    obtain ⟨x240, e30, H⟩ := selI_ex H
    obtain ⟨x241, e31, H⟩ := selI_ex H
    exact H
  · intro Q k tm h H
    have H0 := H
    obtain ⟨A233, l233, c233, e0, H⟩ := selS_ex H
    obtain ⟨x234, e5, H⟩ := selI_ex H
    obtain ⟨A235, l235, c235, e8, H⟩ := selS_ex H
    obtain ⟨A236, l236, c236, e19, H⟩ := selS_ex H
    obtain ⟨x237, e20, H⟩ := selI_ex H
    obtain ⟨x238, e21, H⟩ := selI_ex H
    obtain ⟨A239, l239, c239, e29, H⟩ := selS_ex H
    obtain ⟨x240, e30, H⟩ := selI_ex H
    obtain ⟨x241, e31, H⟩ := selI_ex H
    have e : mask [0, 5, 8, 19, 20, 21, 29, 30, 31] tm = mkTm [(0, some (.slice A233 l233 c233)), (5, some (.int .i64 x234)), (8, some (.slice A235 l235 c235)), (19, some (.slice A236 l236 c236)), (20, some (.int .i64 x237)), (21, some (.int .i64 x238)), (29, some (.slice A239 l239 c239)), (30, some (.int .i64 x240)), (31, some (.int .i64 x241))] := by simp only [mask, List.map_cons, List.map_nil, e0, e5, e8, e19, e20, e21, e29, e30, e31] <;> rfl
    rw [e]
    refine Eq.mp (nest_Prune_l6_step Q k A233 l233 c233 x234 A235 l235 c235 A236 l236 c236 x237 x238 A239 l239 c239 x240 x241 h) ?_
    rw [← e]
    exact (nest_Prune_l6_mask Q (k + 1) tm h).mp H0
set_option maxRecDepth 100000 in
theorem nest_Prune_l4_step (Q : Qx) (k : Nat) (A8 : Option Addr) (l8 : Nat) (c8 : Nat) (x9 : Int) (A10 : Option Addr) (l10 : Nat) (c10 : Nat) (x11 : Int) (x12 : Int) (h : Hp) : nest_Prune_l4_L Q (k + 1) (mkTm [(0, some (.slice A8 l8 c8)), (5, some (.int .i64 x9)), (19, some (.slice A10 l10 c10)), (20, some (.int .i64 x11)), (21, some (.int .i64 x12))]) h =
    codeWp Tryz.prog 51 nest_Prune_lp nest_Prune_cut (sub (bodyOf Tryz.f6) [true, true, true, false, true, false, false]) 244 (thenQ (fun tm h => nest_Prune_l4_L Q k (mask [0, 5, 19, 20, 21] tm) h) (maskQ (fun e => match e with | .exit 0 => [5] | _ => []) Q)) (mkTm [(0, some (.slice A8 l8 c8)), (5, some (.int .i64 x9)), (19, some (.slice A10 l10 c10)), (20, some (.int .i64 x11)), (21, some (.int .i64 x12))]) h := by kernel_rfl
theorem nest_Prune_l4_mask (Q : Qx) (k : Nat) (tm : Tm) (h : Hp) : nest_Prune_l4_L Q k tm h ↔ nest_Prune_l4_L Q k (mask [0, 5, 19, 20, 21] tm) h := Iff.rfl
set_option maxRecDepth 100000 in
theorem nest_Prune_l4_snd : SndAt Tryz.prog 51 none (sub (bodyOf Tryz.f6) [true, true, true, false, true, false]) (nest_Prune_lp 122) := by
  refine loop_sound (lp := nest_Prune_lp) (cut := nest_Prune_cut) (i := 122) (c := (sub (bodyOf Tryz.f6) [true, true, true, false, true, false, false])) [0, 5, 19, 20, 21] (fun e => match e with | .exit 0 => [5] | _ => []) nest_Prune_l4_L ?_ ?_ ?_
  · exact good_by (c := (sub (bodyOf Tryz.f6) [true, true, true, false, true, false, false])) (i := 244) (l := [(62670, (sub (bodyOf Tryz.f6) [true, true, true, false, true, false, false, true, true, false, false, true, true, true, false]))]) (by kernel_rfl) (List.forall_mem_cons.2 ⟨nest_Prune_l6_snd, (fun _ h => by cases h)⟩)
  · intro Q tm h H
    obtain ⟨A8, l8, c8, e0, H⟩ := selS_ex H
    obtain ⟨x9, e5, H⟩ := selI_ex H
    obtain ⟨A10, l10, c10, e19, H⟩ := selS_ex H
    obtain ⟨x11, e20, H⟩ := selI_ex H
    obtain ⟨x12, e21, H⟩ := selI_ex H
    exact H
  · intro Q k tm h H
    have H0 := H
    obtain ⟨A8, l8, c8, e0, H⟩ := selS_ex H
    obtain ⟨x9, e5, H⟩ := selI_ex H
    obtain ⟨A10, l10, c10, e19, H⟩ := selS_ex H
    obtain ⟨x11, e20, H⟩ := selI_ex H
    obtain ⟨x12, e21, H⟩ := selI_ex H
    have e : mask [0, 5, 19, 20, 21] tm = mkTm [(0, some (.slice A8 l8 c8)), (5, some (.int .i64 x9)), (19, some (.slice A10 l10 c10)), (20, some (.int .i64 x11)), (21, some (.int .i64 x12))] := by simp only [mask, List.map_cons, List.map_nil, e0, e5, e19, e20, e21] <;> rfl
    rw [e]
    refine Eq.mp (nest_Prune_l4_step Q k A8 l8 c8 x9 A10 l10 c10 x11 x12 h) ?_
    rw [← e]
    exact (nest_Prune_l4_mask Q (k + 1) tm h).mp H0
set_option maxRecDepth 100000 in
theorem nest_Prune_eq (A1 : Option Addr) (l1 : Nat) (c1 : Nat) (h : Hp) (K : Value → Hp → Prop) : nest_Prune A1 l1 c1 h K =
    codeWp Tryz.prog 51 nest_Prune_lp nest_Prune_cut (bodyOf Tryz.f6) 1 (endQ Tryz.prog Tryz.f6.results.toList K) (argTm [(.slice A1 l1 c1)]) h := by kernel_rfl
set_option maxRecDepth 100000 in
theorem nest_Prune_ok (A1 : Option Addr) (l1 : Nat) (c1 : Nat) {h : Hp} {K : Value → Hp → Prop} (H : nest_Prune A1 l1 c1 h K) : CallsH Tryz.prog 6 #[(.slice A1 l1 c1)] h K :=
  calls_of (args := [(.slice A1 l1 c1)]) (n := 51) (lp := nest_Prune_lp) (cut := nest_Prune_cut) Tryz.func6 (c := bodyOf Tryz.f6) (by kernel_rfl) (by kernel_rfl) (by kernel_rfl) (good_by (c := (bodyOf Tryz.f6)) (i := 1) (l := [(122, (sub (bodyOf Tryz.f6) [true, true, true, false, true, false]))]) (by kernel_rfl) (List.forall_mem_cons.2 ⟨nest_Prune_l4_snd, (fun _ h => by cases h)⟩))
    (Eq.mp (nest_Prune_eq A1 l1 c1 h K) H)

/-! ### quintet/nest.Grid: function 8 -/
def nest_Grid_l1 (A8 : Option Addr) (l8 : Nat) (c8 : Nat) (A10 : Option Addr) (l10 : Nat) (c10 : Nat) (x11 : Int) (K0 : Int → Hp → Prop)  : Nat → Int → Int → Hp → Prop
  | 0, _, _, _ => False
  | k + 1, x9, x12, h =>
    br (decide (x12 < x11))
    (∃ a25 : Addr, PV Tryz.prog (Instr.indexAt 53 (.slice A10 l10 c10) (.int .i64 x12)) (.pointer (some a25)) ∧
    ∃ x26 : Int, ∃ x27 : Int, HV Tryz.prog (Instr.loadAt 45 (.pointer (some a25))) h (.agg #[(.int .u32 x26), (.int .i64 x27)]) ∧ 
    newC h (.cells #[(.int .u32 0), (.int .i64 0)] 45 (0, 0)) fun a29 h28 => 
    HU Tryz.prog (Instr.storeAt 45 (.pointer (some a29)) (.agg #[(.int .u32 x26), (.int .i64 x27)])) h28 fun h30 => 
    ∃ x31 : Int, ∃ x32 : Int, HV Tryz.prog (Instr.loadAt 45 (.pointer (some a29))) h30 (.agg #[(.int .u32 x31), (.int .i64 x32)]) ∧ 
    CallsH Tryz.prog 23 #[(.slice A8 l8 c8), (.agg #[(.int .u32 x31), (.int .i64 x32)])] h30 fun r34 h33 =>
    ∃ A35 : Option Addr, ∃ l35 : Nat, ∃ c35 : Nat, r34 = (.slice A35 l35 c35) ∧ 
    nest_Grid_l1 A8 l8 c8 A10 l10 c10 x11 K0 k (IntKind.i64.wrap (x9 + (l35 : Int))) (IntKind.i64.wrap (x12 + 1)) h33)
    (K0 x9 h)
def nest_Grid_l1_L (Q : Qx) (k : Nat) (tm : Tm) (h : Hp) : Prop :=
  selS (tm 0) fun A8 l8 c8 =>
  selI .i64 (tm 5) fun x9 =>
  selS (tm 14) fun A10 l10 c10 =>
  selI .i64 (tm 15) fun x11 =>
  selI .i64 (tm 16) fun x12 =>
  nest_Grid_l1 A8 l8 c8 A10 l10 c10 x11 (fun (x24 : Int) h => Q (.exit 0) (mkTm [(5, some (.int .i64 x24))]) h) k x9 x12 h
def nest_Grid (A1 : Option Addr) (l1 : Nat) (c1 : Nat) (h : Hp) (K : Value → Hp → Prop) : Prop :=
  CallsH Tryz.prog 20 #[(.slice A1 l1 c1)] h fun r3 h2 =>
  ∃ x4 : Int, r3 = (.int .i64 x4) ∧ 
  br (x4 != 0)
  (K (.tuple #[(.int .i64 0), (.int .i64 x4)]) h2)
  (CallsH Tryz.prog 21 #[(.slice A1 l1 c1), (.func (.func 22) #[] #[])] h2 fun r6 h5 =>
  ∃ A7 : Option Addr, ∃ l7 : Nat, ∃ c7 : Nat, r6 = (.slice A7 l7 c7) ∧ 
  ∃ k38, nest_Grid_l1 A1 l1 c1 A7 l7 c7 (l7 : Int)
  (fun (x36 : Int) (h37 : Hp) =>
  K (.tuple #[(.int .i64 x36), (.int .i64 0)]) h37)
  k38 0 0 h5)
def nest_Grid_lp (i : Nat) (Q : Qx) (tm : Tm) (h : Hp) : Prop := match Nat.beq i 122 with
  | true => ∃ k, nest_Grid_l1_L Q k tm h
  | false => False
def nest_Grid_cut (i : Nat) : Option (List Nat) := none
set_option maxRecDepth 100000 in
theorem nest_Grid_l1_step (Q : Qx) (k : Nat) (A8 : Option Addr) (l8 : Nat) (c8 : Nat) (x9 : Int) (A10 : Option Addr) (l10 : Nat) (c10 : Nat) (x11 : Int) (x12 : Int) (h : Hp) : nest_Grid_l1_L Q (k + 1) (mkTm [(0, some (.slice A8 l8 c8)), (5, some (.int .i64 x9)), (14, some (.slice A10 l10 c10)), (15, some (.int .i64 x11)), (16, some (.int .i64 x12))]) h =
    codeWp Tryz.prog 28 nest_Grid_lp nest_Grid_cut (sub (bodyOf Tryz.f8) [true, true, true, false, true, false, false]) 244 (thenQ (fun tm h => nest_Grid_l1_L Q k (mask [0, 5, 14, 15, 16] tm) h) (maskQ (fun e => match e with | .exit 0 => [5] | _ => []) Q)) (mkTm [(0, some (.slice A8 l8 c8)), (5, some (.int .i64 x9)), (14, some (.slice A10 l10 c10)), (15, some (.int .i64 x11)), (16, some (.int .i64 x12))]) h := by kernel_rfl
theorem nest_Grid_l1_mask (Q : Qx) (k : Nat) (tm : Tm) (h : Hp) : nest_Grid_l1_L Q k tm h ↔ nest_Grid_l1_L Q k (mask [0, 5, 14, 15, 16] tm) h := Iff.rfl
set_option maxRecDepth 100000 in
theorem nest_Grid_l1_snd : SndAt Tryz.prog 28 none (sub (bodyOf Tryz.f8) [true, true, true, false, true, false]) (nest_Grid_lp 122) := by
  refine loop_sound (lp := nest_Grid_lp) (cut := nest_Grid_cut) (i := 122) (c := (sub (bodyOf Tryz.f8) [true, true, true, false, true, false, false])) [0, 5, 14, 15, 16] (fun e => match e with | .exit 0 => [5] | _ => []) nest_Grid_l1_L ?_ ?_ ?_
  · exact good_by (c := (sub (bodyOf Tryz.f8) [true, true, true, false, true, false, false])) (i := 244) (l := []) (by kernel_rfl) (fun _ h => by cases h)
  · intro Q tm h H
    obtain ⟨A8, l8, c8, e0, H⟩ := selS_ex H
    obtain ⟨x9, e5, H⟩ := selI_ex H
    obtain ⟨A10, l10, c10, e14, H⟩ := selS_ex H
    obtain ⟨x11, e15, H⟩ := selI_ex H
    obtain ⟨x12, e16, H⟩ := selI_ex H
    exact H
  · intro Q k tm h H
    have H0 := H
    obtain ⟨A8, l8, c8, e0, H⟩ := selS_ex H
    obtain ⟨x9, e5, H⟩ := selI_ex H
    obtain ⟨A10, l10, c10, e14, H⟩ := selS_ex H
    obtain ⟨x11, e15, H⟩ := selI_ex H
    obtain ⟨x12, e16, H⟩ := selI_ex H
    have e : mask [0, 5, 14, 15, 16] tm = mkTm [(0, some (.slice A8 l8 c8)), (5, some (.int .i64 x9)), (14, some (.slice A10 l10 c10)), (15, some (.int .i64 x11)), (16, some (.int .i64 x12))] := by simp only [mask, List.map_cons, List.map_nil, e0, e5, e14, e15, e16] <;> rfl
    rw [e]
    refine Eq.mp (nest_Grid_l1_step Q k A8 l8 c8 x9 A10 l10 c10 x11 x12 h) ?_
    rw [← e]
    exact (nest_Grid_l1_mask Q (k + 1) tm h).mp H0
set_option maxRecDepth 100000 in
theorem nest_Grid_eq (A1 : Option Addr) (l1 : Nat) (c1 : Nat) (h : Hp) (K : Value → Hp → Prop) : nest_Grid A1 l1 c1 h K =
    codeWp Tryz.prog 28 nest_Grid_lp nest_Grid_cut (bodyOf Tryz.f8) 1 (endQ Tryz.prog Tryz.f8.results.toList K) (argTm [(.slice A1 l1 c1)]) h := by kernel_rfl
set_option maxRecDepth 100000 in
theorem nest_Grid_ok (A1 : Option Addr) (l1 : Nat) (c1 : Nat) {h : Hp} {K : Value → Hp → Prop} (H : nest_Grid A1 l1 c1 h K) : CallsH Tryz.prog 8 #[(.slice A1 l1 c1)] h K :=
  calls_of (args := [(.slice A1 l1 c1)]) (n := 28) (lp := nest_Grid_lp) (cut := nest_Grid_cut) Tryz.func8 (c := bodyOf Tryz.f8) (by kernel_rfl) (by kernel_rfl) (by kernel_rfl) (good_by (c := (bodyOf Tryz.f8)) (i := 1) (l := [(122, (sub (bodyOf Tryz.f8) [true, true, true, false, true, false]))]) (by kernel_rfl) (List.forall_mem_cons.2 ⟨nest_Grid_l1_snd, (fun _ h => by cases h)⟩))
    (Eq.mp (nest_Grid_eq A1 l1 c1 h K) H)

/-! ### quintet/nest.Tuple: function 10 -/
def nest_Tuple_l1 (A6 : Option Addr) (l6 : Nat) (c6 : Nat) (x7 : Int) (K0 : Int → Hp → Prop)  : Nat → Int → Int → Hp → Prop
  | 0, _, _, _ => False
  | k + 1, x5, x8, h =>
    br (decide (x8 < x7))
    (∃ a38 : Addr, PV Tryz.prog (Instr.indexAt 22 (.slice A6 l6 c6) (.int .i64 x8)) (.pointer (some a38)) ∧
    ∃ x39 : Int, ∃ x40 : Int, ∃ x41 : Int, ∃ x42 : Int, ∃ x43 : Int, ∃ x44 : Int, ∃ x45 : Int, ∃ x46 : Int, ∃ x47 : Int, ∃ x48 : Int, ∃ x49 : Int, ∃ x50 : Int, HV Tryz.prog (Instr.loadAt 49 (.pointer (some a38))) h (.agg #[(.int .i64 x39), (.int .u32 x40), (.int .i64 x41), (.int .u32 x42), (.int .i64 x43), (.int .u16 x44), (.int .u16 x45), (.int .u16 x46), (.int .u16 x47), (.int .u8 x48), (.int .u8 x49), (.int .i64 x50)]) ∧ 
    newC h (.cells #[(.int .i64 0), (.int .u32 0), (.int .i64 0), (.int .u32 0), (.int .i64 0), (.int .u16 0), (.int .u16 0), (.int .u16 0), (.int .u16 0), (.int .u8 0), (.int .u8 0), (.int .i64 0)] 49 (0, 0)) fun a52 h51 => 
    HU Tryz.prog (Instr.storeAt 49 (.pointer (some a52)) (.agg #[(.int .i64 x39), (.int .u32 x40), (.int .i64 x41), (.int .u32 x42), (.int .i64 x43), (.int .u16 x44), (.int .u16 x45), (.int .u16 x46), (.int .u16 x47), (.int .u8 x48), (.int .u8 x49), (.int .i64 x50)])) h51 fun h53 => 
    ∃ x54 : Int, ∃ x55 : Int, HV Tryz.prog (Instr.loadAt 36 (.pointer (some (a52.add 5)))) h53 (.agg #[(.int .u16 x54), (.int .u16 x55)]) ∧ 
    CallsH Tryz.prog 29 #[(.agg #[(.int .u16 x54), (.int .u16 x55)])] h53 fun r57 h56 =>
    ∃ x58 : Int, ∃ x59 : Int, r57 = (.tuple #[(.int .i64 x58), (.int .i64 x59)]) ∧ 
    ∃ x60 : Int, ∃ x61 : Int, HV Tryz.prog (Instr.loadAt 36 (.pointer (some (a52.add 7)))) h56 (.agg #[(.int .u16 x60), (.int .u16 x61)]) ∧ 
    CallsH Tryz.prog 29 #[(.agg #[(.int .u16 x60), (.int .u16 x61)])] h56 fun r63 h62 =>
    ∃ x64 : Int, ∃ x65 : Int, r63 = (.tuple #[(.int .i64 x64), (.int .i64 x65)]) ∧ 
    nest_Tuple_l1 A6 l6 c6 x7 K0 k (IntKind.i64.wrap (x5 + (IntKind.i64.wrap (x58 * x64)))) (IntKind.i64.wrap (x8 + 1)) h62)
    (K0 x5 h)
def nest_Tuple_l1_L (Q : Qx) (k : Nat) (tm : Tm) (h : Hp) : Prop :=
  selI .i64 (tm 5) fun x5 =>
  selS (tm 17) fun A6 l6 c6 =>
  selI .i64 (tm 18) fun x7 =>
  selI .i64 (tm 19) fun x8 =>
  nest_Tuple_l1 A6 l6 c6 x7 (fun (x37 : Int) h => Q (.exit 0) (mkTm [(5, some (.int .i64 x37))]) h) k x5 x8 h
def nest_Tuple (A1 : Option Addr) (l1 : Nat) (c1 : Nat) (h : Hp) (K : Value → Hp → Prop) : Prop :=
  CallsH Tryz.prog 20 #[(.slice A1 l1 c1)] h fun r3 h2 =>
  ∃ x4 : Int, r3 = (.int .i64 x4) ∧ 
  br (x4 != 0)
  (K (.tuple #[(.int .i64 0), (.int .i64 x4)]) h2)
  (∃ k68, nest_Tuple_l1 A1 l1 c1 (l1 : Int)
  (fun (x66 : Int) (h67 : Hp) =>
  K (.tuple #[(.int .i64 x66), (.int .i64 0)]) h67)
  k68 0 0 h2)
def nest_Tuple_lp (i : Nat) (Q : Qx) (tm : Tm) (h : Hp) : Prop := match Nat.beq i 122 with
  | true => ∃ k, nest_Tuple_l1_L Q k tm h
  | false => False
def nest_Tuple_cut (i : Nat) : Option (List Nat) := none
set_option maxRecDepth 100000 in
theorem nest_Tuple_l1_step (Q : Qx) (k : Nat) (x5 : Int) (A6 : Option Addr) (l6 : Nat) (c6 : Nat) (x7 : Int) (x8 : Int) (h : Hp) : nest_Tuple_l1_L Q (k + 1) (mkTm [(5, some (.int .i64 x5)), (17, some (.slice A6 l6 c6)), (18, some (.int .i64 x7)), (19, some (.int .i64 x8))]) h =
    codeWp Tryz.prog 42 nest_Tuple_lp nest_Tuple_cut (sub (bodyOf Tryz.f10) [true, true, true, false, true, false, false]) 244 (thenQ (fun tm h => nest_Tuple_l1_L Q k (mask [5, 17, 18, 19] tm) h) (maskQ (fun e => match e with | .exit 0 => [5] | _ => []) Q)) (mkTm [(5, some (.int .i64 x5)), (17, some (.slice A6 l6 c6)), (18, some (.int .i64 x7)), (19, some (.int .i64 x8))]) h := by kernel_rfl
theorem nest_Tuple_l1_mask (Q : Qx) (k : Nat) (tm : Tm) (h : Hp) : nest_Tuple_l1_L Q k tm h ↔ nest_Tuple_l1_L Q k (mask [5, 17, 18, 19] tm) h := Iff.rfl
set_option maxRecDepth 100000 in
theorem nest_Tuple_l1_snd : SndAt Tryz.prog 42 none (sub (bodyOf Tryz.f10) [true, true, true, false, true, false]) (nest_Tuple_lp 122) := by
  refine loop_sound (lp := nest_Tuple_lp) (cut := nest_Tuple_cut) (i := 122) (c := (sub (bodyOf Tryz.f10) [true, true, true, false, true, false, false])) [5, 17, 18, 19] (fun e => match e with | .exit 0 => [5] | _ => []) nest_Tuple_l1_L ?_ ?_ ?_
  · exact good_by (c := (sub (bodyOf Tryz.f10) [true, true, true, false, true, false, false])) (i := 244) (l := []) (by kernel_rfl) (fun _ h => by cases h)
  · intro Q tm h H
    obtain ⟨x5, e5, H⟩ := selI_ex H
    obtain ⟨A6, l6, c6, e17, H⟩ := selS_ex H
    obtain ⟨x7, e18, H⟩ := selI_ex H
    obtain ⟨x8, e19, H⟩ := selI_ex H
    exact H
  · intro Q k tm h H
    have H0 := H
    obtain ⟨x5, e5, H⟩ := selI_ex H
    obtain ⟨A6, l6, c6, e17, H⟩ := selS_ex H
    obtain ⟨x7, e18, H⟩ := selI_ex H
    obtain ⟨x8, e19, H⟩ := selI_ex H
    have e : mask [5, 17, 18, 19] tm = mkTm [(5, some (.int .i64 x5)), (17, some (.slice A6 l6 c6)), (18, some (.int .i64 x7)), (19, some (.int .i64 x8))] := by simp only [mask, List.map_cons, List.map_nil, e5, e17, e18, e19] <;> rfl
    rw [e]
    refine Eq.mp (nest_Tuple_l1_step Q k x5 A6 l6 c6 x7 x8 h) ?_
    rw [← e]
    exact (nest_Tuple_l1_mask Q (k + 1) tm h).mp H0
set_option maxRecDepth 100000 in
theorem nest_Tuple_eq (A1 : Option Addr) (l1 : Nat) (c1 : Nat) (h : Hp) (K : Value → Hp → Prop) : nest_Tuple A1 l1 c1 h K =
    codeWp Tryz.prog 42 nest_Tuple_lp nest_Tuple_cut (bodyOf Tryz.f10) 1 (endQ Tryz.prog Tryz.f10.results.toList K) (argTm [(.slice A1 l1 c1)]) h := by kernel_rfl
set_option maxRecDepth 100000 in
theorem nest_Tuple_ok (A1 : Option Addr) (l1 : Nat) (c1 : Nat) {h : Hp} {K : Value → Hp → Prop} (H : nest_Tuple A1 l1 c1 h K) : CallsH Tryz.prog 10 #[(.slice A1 l1 c1)] h K :=
  calls_of (args := [(.slice A1 l1 c1)]) (n := 42) (lp := nest_Tuple_lp) (cut := nest_Tuple_cut) Tryz.func10 (c := bodyOf Tryz.f10) (by kernel_rfl) (by kernel_rfl) (by kernel_rfl) (good_by (c := (bodyOf Tryz.f10)) (i := 1) (l := [(122, (sub (bodyOf Tryz.f10) [true, true, true, false, true, false]))]) (by kernel_rfl) (List.forall_mem_cons.2 ⟨nest_Tuple_l1_snd, (fun _ h => by cases h)⟩))
    (Eq.mp (nest_Tuple_eq A1 l1 c1 h K) H)

/-! ### quintet/nest.Pairs: function 12 -/
def nest_Pairs_l1 (a9 : Addr) (A11 : Option Addr) (l11 : Nat) (c11 : Nat) (x12 : Int) (K0 : Int → Hp → Prop)  : Nat → Int → Int → Hp → Prop
  | 0, _, _, _ => False
  | k + 1, x10, x13, h =>
    br (decide (x13 < x12))
    (∃ a59 : Addr, PV Tryz.prog (Instr.indexAt 22 (.slice A11 l11 c11) (.int .i64 x13)) (.pointer (some a59)) ∧
    ∃ x60 : Int, ∃ x61 : Int, ∃ x62 : Int, ∃ x63 : Int, ∃ x64 : Int, ∃ x65 : Int, ∃ x66 : Int, ∃ x67 : Int, ∃ x68 : Int, ∃ x69 : Int, ∃ x70 : Int, ∃ x71 : Int, HV Tryz.prog (Instr.loadAt 49 (.pointer (some a59))) h (.agg #[(.int .i64 x60), (.int .u32 x61), (.int .i64 x62), (.int .u32 x63), (.int .i64 x64), (.int .u16 x65), (.int .u16 x66), (.int .u16 x67), (.int .u16 x68), (.int .u8 x69), (.int .u8 x70), (.int .i64 x71)]) ∧ 
    newC h (.cells #[(.int .i64 0), (.int .u32 0), (.int .i64 0), (.int .u32 0), (.int .i64 0), (.int .u16 0), (.int .u16 0), (.int .u16 0), (.int .u16 0), (.int .u8 0), (.int .u8 0), (.int .i64 0)] 49 (0, 0)) fun a73 h72 => 
    HU Tryz.prog (Instr.storeAt 49 (.pointer (some a73)) (.agg #[(.int .i64 x60), (.int .u32 x61), (.int .i64 x62), (.int .u32 x63), (.int .i64 x64), (.int .u16 x65), (.int .u16 x66), (.int .u16 x67), (.int .u16 x68), (.int .u8 x69), (.int .u8 x70), (.int .i64 x71)])) h72 fun h74 => 
    ∃ x75 : Int, ∃ x76 : Int, ∃ x77 : Int, ∃ x78 : Int, ∃ x79 : Int, ∃ x80 : Int, ∃ x81 : Int, ∃ x82 : Int, ∃ x83 : Int, ∃ x84 : Int, ∃ x85 : Int, ∃ x86 : Int, HV Tryz.prog (Instr.loadAt 49 (.pointer (some a73))) h74 (.agg #[(.int .i64 x75), (.int .u32 x76), (.int .i64 x77), (.int .u32 x78), (.int .i64 x79), (.int .u16 x80), (.int .u16 x81), (.int .u16 x82), (.int .u16 x83), (.int .u8 x84), (.int .u8 x85), (.int .i64 x86)]) ∧ 
    CallsH Tryz.prog 31 #[(.agg #[(.int .i64 x75), (.int .u32 x76), (.int .i64 x77), (.int .u32 x78), (.int .i64 x79), (.int .u16 x80), (.int .u16 x81), (.int .u16 x82), (.int .u16 x83), (.int .u8 x84), (.int .u8 x85), (.int .i64 x86)])] h74 fun r88 h87 =>
    ∃ x89 : Int, ∃ x90 : Int, r88 = (.tuple #[(.int .i64 x89), (.int .i64 x90)]) ∧ 
    br (x89 == 0)
    (∃ x91 : Int, ∃ x92 : Int, HV Tryz.prog (Instr.loadAt 45 (.pointer (some (a73.add 1)))) h87 (.agg #[(.int .u32 x91), (.int .i64 x92)]) ∧ 
    ∃ x93 : Int, HV Tryz.prog (Instr.loadAt 23 (.pointer (some a9))) h87 (.int .u32 x93) ∧ 
    CallsH Tryz.prog 32 #[(.agg #[(.int .u32 x91), (.int .i64 x92)]), (.int .u32 x93)] h87 fun r95 h94 =>
    ∃ b96 : Bool, r95 = (.bool b96) ∧ 
    br b96
    (∃ x97 : Int, ∃ x98 : Int, HV Tryz.prog (Instr.loadAt 45 (.pointer (some (a73.add 3)))) h94 (.agg #[(.int .u32 x97), (.int .i64 x98)]) ∧ 
    ∃ x99 : Int, HV Tryz.prog (Instr.loadAt 23 (.pointer (some (a9.add 1)))) h94 (.int .u32 x99) ∧ 
    CallsH Tryz.prog 32 #[(.agg #[(.int .u32 x97), (.int .i64 x98)]), (.int .u32 x99)] h94 fun r101 h100 =>
    ∃ b102 : Bool, r101 = (.bool b102) ∧ 
    br b102
    (nest_Pairs_l1 a9 A11 l11 c11 x12 K0 k (IntKind.i64.wrap (x10 + 1)) (IntKind.i64.wrap (x13 + 1)) h100)
    (nest_Pairs_l1 a9 A11 l11 c11 x12 K0 k x10 (IntKind.i64.wrap (x13 + 1)) h100))
    (nest_Pairs_l1 a9 A11 l11 c11 x12 K0 k x10 (IntKind.i64.wrap (x13 + 1)) h94))
    (nest_Pairs_l1 a9 A11 l11 c11 x12 K0 k x10 (IntKind.i64.wrap (x13 + 1)) h87))
    (K0 x10 h)
def nest_Pairs_l1_L (Q : Qx) (k : Nat) (tm : Tm) (h : Hp) : Prop :=
  selA (tm 3) fun a9 =>
  selI .i64 (tm 5) fun x10 =>
  selS (tm 10) fun A11 l11 c11 =>
  selI .i64 (tm 11) fun x12 =>
  selI .i64 (tm 12) fun x13 =>
  nest_Pairs_l1 a9 A11 l11 c11 x12 (fun (x58 : Int) h => Q (.exit 0) (mkTm [(5, some (.int .i64 x58))]) h) k x10 x13 h
def nest_Pairs (A1 : Option Addr) (l1 : Nat) (c1 : Nat) (x2 : Int) (x3 : Int) (x4 : Int) (x5 : Int) (x6 : Int) (h : Hp) (K : Value → Hp → Prop) : Prop :=
  newC h (.cells #[(.int .u32 x2), (.int .u32 x3), (.int .u16 x4), (.int .u16 x5), (.int .u8 x6)] 26 (0, 0)) fun a8 h7 => 
  ∃ k105, nest_Pairs_l1 a8 A1 l1 c1 (l1 : Int)
  (fun (x103 : Int) (h104 : Hp) =>
  K (.int .i64 x103) h104)
  k105 0 0 h7
def nest_Pairs_lp (i : Nat) (Q : Qx) (tm : Tm) (h : Hp) : Prop := match Nat.beq i 58 with
  | true => ∃ k, nest_Pairs_l1_L Q k tm h
  | false => False
def nest_Pairs_cut (i : Nat) : Option (List Nat) := none
set_option maxRecDepth 100000 in
theorem nest_Pairs_l1_step (Q : Qx) (k : Nat) (a9 : Addr) (x10 : Int) (A11 : Option Addr) (l11 : Nat) (c11 : Nat) (x12 : Int) (x13 : Int) (h : Hp) : nest_Pairs_l1_L Q (k + 1) (mkTm [(3, some (.pointer (some a9))), (5, some (.int .i64 x10)), (10, some (.slice A11 l11 c11)), (11, some (.int .i64 x12)), (12, some (.int .i64 x13))]) h =
    codeWp Tryz.prog 41 nest_Pairs_lp nest_Pairs_cut (sub (bodyOf Tryz.f12) [true, true, false, true, false, false]) 116 (thenQ (fun tm h => nest_Pairs_l1_L Q k (mask [3, 5, 10, 11, 12] tm) h) (maskQ (fun e => match e with | .exit 0 => [5] | _ => []) Q)) (mkTm [(3, some (.pointer (some a9))), (5, some (.int .i64 x10)), (10, some (.slice A11 l11 c11)), (11, some (.int .i64 x12)), (12, some (.int .i64 x13))]) h := by kernel_rfl
theorem nest_Pairs_l1_mask (Q : Qx) (k : Nat) (tm : Tm) (h : Hp) : nest_Pairs_l1_L Q k tm h ↔ nest_Pairs_l1_L Q k (mask [3, 5, 10, 11, 12] tm) h := Iff.rfl
set_option maxRecDepth 100000 in
theorem nest_Pairs_l1_snd : SndAt Tryz.prog 41 none (sub (bodyOf Tryz.f12) [true, true, false, true, false]) (nest_Pairs_lp 58) := by
  refine loop_sound (lp := nest_Pairs_lp) (cut := nest_Pairs_cut) (i := 58) (c := (sub (bodyOf Tryz.f12) [true, true, false, true, false, false])) [3, 5, 10, 11, 12] (fun e => match e with | .exit 0 => [5] | _ => []) nest_Pairs_l1_L ?_ ?_ ?_
  · exact good_by (c := (sub (bodyOf Tryz.f12) [true, true, false, true, false, false])) (i := 116) (l := []) (by kernel_rfl) (fun _ h => by cases h)
  · intro Q tm h H
    obtain ⟨a9, e3, H⟩ := selA_ex H
    obtain ⟨x10, e5, H⟩ := selI_ex H
    obtain ⟨A11, l11, c11, e10, H⟩ := selS_ex H
    obtain ⟨x12, e11, H⟩ := selI_ex H
    obtain ⟨x13, e12, H⟩ := selI_ex H
    exact H
  · intro Q k tm h H
    have H0 := H
    obtain ⟨a9, e3, H⟩ := selA_ex H
    obtain ⟨x10, e5, H⟩ := selI_ex H
    obtain ⟨A11, l11, c11, e10, H⟩ := selS_ex H
    obtain ⟨x12, e11, H⟩ := selI_ex H
    obtain ⟨x13, e12, H⟩ := selI_ex H
    have e : mask [3, 5, 10, 11, 12] tm = mkTm [(3, some (.pointer (some a9))), (5, some (.int .i64 x10)), (10, some (.slice A11 l11 c11)), (11, some (.int .i64 x12)), (12, some (.int .i64 x13))] := by simp only [mask, List.map_cons, List.map_nil, e3, e5, e10, e11, e12] <;> rfl
    rw [e]
    refine Eq.mp (nest_Pairs_l1_step Q k a9 x10 A11 l11 c11 x12 x13 h) ?_
    rw [← e]
    exact (nest_Pairs_l1_mask Q (k + 1) tm h).mp H0
set_option maxRecDepth 100000 in
theorem nest_Pairs_eq (A1 : Option Addr) (l1 : Nat) (c1 : Nat) (x2 : Int) (x3 : Int) (x4 : Int) (x5 : Int) (x6 : Int) (h : Hp) (K : Value → Hp → Prop) : nest_Pairs A1 l1 c1 x2 x3 x4 x5 x6 h K =
    codeWp Tryz.prog 41 nest_Pairs_lp nest_Pairs_cut (bodyOf Tryz.f12) 1 (endQ Tryz.prog Tryz.f12.results.toList K) (argTm [(.slice A1 l1 c1), (.agg #[(.int .u32 x2), (.int .u32 x3), (.int .u16 x4), (.int .u16 x5), (.int .u8 x6)])]) h := by kernel_rfl
set_option maxRecDepth 100000 in
theorem nest_Pairs_ok (A1 : Option Addr) (l1 : Nat) (c1 : Nat) (x2 : Int) (x3 : Int) (x4 : Int) (x5 : Int) (x6 : Int) {h : Hp} {K : Value → Hp → Prop} (H : nest_Pairs A1 l1 c1 x2 x3 x4 x5 x6 h K) : CallsH Tryz.prog 12 #[(.slice A1 l1 c1), (.agg #[(.int .u32 x2), (.int .u32 x3), (.int .u16 x4), (.int .u16 x5), (.int .u8 x6)])] h K :=
  calls_of (args := [(.slice A1 l1 c1), (.agg #[(.int .u32 x2), (.int .u32 x3), (.int .u16 x4), (.int .u16 x5), (.int .u8 x6)])]) (n := 41) (lp := nest_Pairs_lp) (cut := nest_Pairs_cut) Tryz.func12 (c := bodyOf Tryz.f12) (by kernel_rfl) (by kernel_rfl) (by kernel_rfl) (good_by (c := (bodyOf Tryz.f12)) (i := 1) (l := [(58, (sub (bodyOf Tryz.f12) [true, true, false, true, false]))]) (by kernel_rfl) (List.forall_mem_cons.2 ⟨nest_Pairs_l1_snd, (fun _ h => by cases h)⟩))
    (Eq.mp (nest_Pairs_eq A1 l1 c1 x2 x3 x4 x5 x6 h K) H)

/-! ### quintet/nest.Levels: function 15 -/
def nest_Levels (A1 : Option Addr) (l1 : Nat) (c1 : Nat) (h : Hp) (K : Value → Hp → Prop) : Prop :=
  CallsH Tryz.prog 36 #[(.slice A1 l1 c1)] h fun r3 h2 =>
  ∃ x4 : Int, r3 = (.int .i64 x4) ∧ 
  br (x4 != 0)
  (K (.tuple #[(.slice none 0 0), (.int .i64 x4)]) h2)
  (CallsH Tryz.prog 37 #[(.slice A1 l1 c1)] h2 fun r6 h5 =>
  ∃ A7 : Option Addr, ∃ l7 : Nat, ∃ c7 : Nat, ∃ x8 : Int, r6 = (.tuple #[(.slice A7 l7 c7), (.int .i64 x8)]) ∧ 
  K (.tuple #[(.slice A7 l7 c7), (.int .i64 0)]) h5)
def nest_Levels_lp (i : Nat) (Q : Qx) (tm : Tm) (h : Hp) : Prop := False
def nest_Levels_cut (i : Nat) : Option (List Nat) := none
set_option maxRecDepth 100000 in
theorem nest_Levels_eq (A1 : Option Addr) (l1 : Nat) (c1 : Nat) (h : Hp) (K : Value → Hp → Prop) : nest_Levels A1 l1 c1 h K =
    codeWp Tryz.prog 18 nest_Levels_lp nest_Levels_cut (bodyOf Tryz.f15) 1 (endQ Tryz.prog Tryz.f15.results.toList K) (argTm [(.slice A1 l1 c1)]) h := by kernel_rfl
set_option maxRecDepth 100000 in
theorem nest_Levels_ok (A1 : Option Addr) (l1 : Nat) (c1 : Nat) {h : Hp} {K : Value → Hp → Prop} (H : nest_Levels A1 l1 c1 h K) : CallsH Tryz.prog 15 #[(.slice A1 l1 c1)] h K :=
  calls_of (args := [(.slice A1 l1 c1)]) (n := 18) (lp := nest_Levels_lp) (cut := nest_Levels_cut) Tryz.func15 (c := bodyOf Tryz.f15) (by kernel_rfl) (by kernel_rfl) (by kernel_rfl) (good_by (c := (bodyOf Tryz.f15)) (i := 1) (l := []) (by kernel_rfl) (fun _ h => by cases h))
    (Eq.mp (nest_Levels_eq A1 l1 c1 h K) H)

/-! ### quintet/nest.Depth: function 16 -/
def nest_Depth (A1 : Option Addr) (l1 : Nat) (c1 : Nat) (h : Hp) (K : Value → Hp → Prop) : Prop :=
  CallsH Tryz.prog 36 #[(.slice A1 l1 c1)] h fun r3 h2 =>
  ∃ x4 : Int, r3 = (.int .i64 x4) ∧ 
  br (x4 != 0)
  (K (.tuple #[(.int .i64 0), (.int .i64 x4)]) h2)
  (CallsH Tryz.prog 37 #[(.slice A1 l1 c1)] h2 fun r6 h5 =>
  ∃ A7 : Option Addr, ∃ l7 : Nat, ∃ c7 : Nat, ∃ x8 : Int, r6 = (.tuple #[(.slice A7 l7 c7), (.int .i64 x8)]) ∧ 
  K (.tuple #[(.int .i64 x8), (.int .i64 0)]) h5)
def nest_Depth_lp (i : Nat) (Q : Qx) (tm : Tm) (h : Hp) : Prop := False
def nest_Depth_cut (i : Nat) : Option (List Nat) := none
set_option maxRecDepth 100000 in
theorem nest_Depth_eq (A1 : Option Addr) (l1 : Nat) (c1 : Nat) (h : Hp) (K : Value → Hp → Prop) : nest_Depth A1 l1 c1 h K =
    codeWp Tryz.prog 18 nest_Depth_lp nest_Depth_cut (bodyOf Tryz.f16) 1 (endQ Tryz.prog Tryz.f16.results.toList K) (argTm [(.slice A1 l1 c1)]) h := by kernel_rfl
set_option maxRecDepth 100000 in
theorem nest_Depth_ok (A1 : Option Addr) (l1 : Nat) (c1 : Nat) {h : Hp} {K : Value → Hp → Prop} (H : nest_Depth A1 l1 c1 h K) : CallsH Tryz.prog 16 #[(.slice A1 l1 c1)] h K :=
  calls_of (args := [(.slice A1 l1 c1)]) (n := 18) (lp := nest_Depth_lp) (cut := nest_Depth_cut) Tryz.func16 (c := bodyOf Tryz.f16) (by kernel_rfl) (by kernel_rfl) (by kernel_rfl) (good_by (c := (bodyOf Tryz.f16)) (i := 1) (l := []) (by kernel_rfl) (fun _ h => by cases h))
    (Eq.mp (nest_Depth_eq A1 l1 c1 h K) H)

/-! ### quintet/nest.Find: function 17 -/
def nest_Find_l1 (x15 : Int) (A16 : Option Addr) (l16 : Nat) (c16 : Nat) (A17 : Option Addr) (l17 : Nat) (c17 : Nat) (A18 : Option Addr) (l18 : Nat) (c18 : Nat) (x19 : Int) (K0 : (Option Addr) → Nat → Nat → Hp → Prop)  : Nat → Int → Hp → Prop
  | 0, _, _ => False
  | k + 1, x20, h =>
    br (decide (x20 < x19))
    (∃ a39 : Addr, PV Tryz.prog (Instr.indexAt 37 (.slice A18 l18 c18) (.int .i64 x20)) (.pointer (some a39)) ∧
    ∃ x40 : Int, ∃ x41 : Int, HV Tryz.prog (Instr.loadAt 36 (.pointer (some a39))) h (.agg #[(.int .u16 x40), (.int .u16 x41)]) ∧ 
    newC h (.cells #[(.int .u16 0), (.int .u16 0)] 36 (0, 0)) fun a43 h42 => 
    HU Tryz.prog (Instr.storeAt 36 (.pointer (some a43)) (.agg #[(.int .u16 x40), (.int .u16 x41)])) h42 fun h44 => 
    ∃ a45 : Addr, PV Tryz.prog (Instr.indexAt 38 (.slice A16 l16 c16) (.int .i64 x20)) (.pointer (some a45)) ∧
    ∃ x46 : Int, HV Tryz.prog (Instr.loadAt 3 (.pointer (some a45))) h44 (.int .i64 x46) ∧ 
    ∃ a47 : Addr, PV Tryz.prog (Instr.indexAt 38 (.slice A17 l17 c17) (.int .i64 x46)) (.pointer (some a47)) ∧
    ∃ x48 : Int, HV Tryz.prog (Instr.loadAt 3 (.pointer (some a47))) h44 (.int .i64 x48) ∧ 
    br (decide (x48 < 0))
    (∃ x49 : Int, ∃ x50 : Int, HV Tryz.prog (Instr.loadAt 36 (.pointer (some a43))) h44 (.agg #[(.int .u16 x49), (.int .u16 x50)]) ∧ 
    CallsH Tryz.prog 39 #[(.agg #[(.int .u16 x49), (.int .u16 x50)]), (.int .u16 x15)] h44 fun r52 h51 =>
    ∃ b53 : Bool, r52 = (.bool b53) ∧ 
    br b53
    (∃ a54 : Addr, PV Tryz.prog (Instr.indexAt 38 (.slice A17 l17 c17) (.int .i64 x46)) (.pointer (some a54)) ∧
    HU Tryz.prog (Instr.storeAt 3 (.pointer (some a54)) (.int .i64 x20)) h51 fun h55 => 
    nest_Find_l1 x15 A16 l16 c16 A17 l17 c17 A18 l18 c18 x19 K0 k (IntKind.i64.wrap (x20 + 1)) h55)
    (nest_Find_l1 x15 A16 l16 c16 A17 l17 c17 A18 l18 c18 x19 K0 k (IntKind.i64.wrap (x20 + 1)) h51))
    (nest_Find_l1 x15 A16 l16 c16 A17 l17 c17 A18 l18 c18 x19 K0 k (IntKind.i64.wrap (x20 + 1)) h44))
    (K0 A17 l17 c17 h)
def nest_Find_l1_L (Q : Qx) (k : Nat) (tm : Tm) (h : Hp) : Prop :=
  selI .u16 (tm 1) fun x15 =>
  selS (tm 7) fun A16 l16 c16 =>
  selS (tm 9) fun A17 l17 c17 =>
  selS (tm 26) fun A18 l18 c18 =>
  selI .i64 (tm 27) fun x19 =>
  selI .i64 (tm 28) fun x20 =>
  nest_Find_l1 x15 A16 l16 c16 A17 l17 c17 A18 l18 c18 x19 (fun (A38 : Option Addr) (l38 : Nat) (c38 : Nat) h => Q (.exit 0) (mkTm [(9, some (.slice A38 l38 c38))]) h) k x20 h
def nest_Find (A1 : Option Addr) (l1 : Nat) (c1 : Nat) (x2 : Int) (h : Hp) (K : Value → Hp → Prop) : Prop :=
  CallsH Tryz.prog 36 #[(.slice A1 l1 c1)] h fun r4 h3 =>
  ∃ x5 : Int, r4 = (.int .i64 x5) ∧ 
  br (x5 != 0)
  (K (.tuple #[(.slice none 0 0), (.int .i64 x5)]) h3)
  (CallsH Tryz.prog 37 #[(.slice A1 l1 c1)] h3 fun r7 h6 =>
  ∃ A8 : Option Addr, ∃ l8 : Nat, ∃ c8 : Nat, ∃ x9 : Int, r7 = (.tuple #[(.slice A8 l8 c8), (.int .i64 x9)]) ∧ 
  newC h6 (.cells #[(.int .i64 (-1))] 3 (0, 0)) fun a11 h10 => 
  CallsH Tryz.prog 38 #[(.slice (some a11) 1 1), (.int .i64 x9)] h10 fun r13 h12 =>
  ∃ A14 : Option Addr, ∃ l14 : Nat, ∃ c14 : Nat, r13 = (.slice A14 l14 c14) ∧ 
  ∃ k58, nest_Find_l1 x2 A8 l8 c8 A14 l14 c14 A1 l1 c1 (l1 : Int)
  (fun (A56 : Option Addr) (l56 : Nat) (c56 : Nat) (h57 : Hp) =>
  K (.tuple #[(.slice A56 l56 c56), (.int .i64 0)]) h57)
  k58 0 h12)
def nest_Find_lp (i : Nat) (Q : Qx) (tm : Tm) (h : Hp) : Prop := match Nat.beq i 250 with
  | true => ∃ k, nest_Find_l1_L Q k tm h
  | false => False
def nest_Find_cut (i : Nat) : Option (List Nat) := none
set_option maxRecDepth 100000 in
theorem nest_Find_l1_step (Q : Qx) (k : Nat) (x15 : Int) (A16 : Option Addr) (l16 : Nat) (c16 : Nat) (A17 : Option Addr) (l17 : Nat) (c17 : Nat) (A18 : Option Addr) (l18 : Nat) (c18 : Nat) (x19 : Int) (x20 : Int) (h : Hp) : nest_Find_l1_L Q (k + 1) (mkTm [(1, some (.int .u16 x15)), (7, some (.slice A16 l16 c16)), (9, some (.slice A17 l17 c17)), (26, some (.slice A18 l18 c18)), (27, some (.int .i64 x19)), (28, some (.int .i64 x20))]) h =
    codeWp Tryz.prog 53 nest_Find_lp nest_Find_cut (sub (bodyOf Tryz.f17) [true, true, true, true, false, true, false, false]) 500 (thenQ (fun tm h => nest_Find_l1_L Q k (mask [1, 7, 9, 26, 27, 28] tm) h) (maskQ (fun e => match e with | .exit 0 => [9] | _ => []) Q)) (mkTm [(1, some (.int .u16 x15)), (7, some (.slice A16 l16 c16)), (9, some (.slice A17 l17 c17)), (26, some (.slice A18 l18 c18)), (27, some (.int .i64 x19)), (28, some (.int .i64 x20))]) h := by kernel_rfl
theorem nest_Find_l1_mask (Q : Qx) (k : Nat) (tm : Tm) (h : Hp) : nest_Find_l1_L Q k tm h ↔ nest_Find_l1_L Q k (mask [1, 7, 9, 26, 27, 28] tm) h := Iff.rfl
set_option maxRecDepth 100000 in
theorem nest_Find_l1_snd : SndAt Tryz.prog 53 none (sub (bodyOf Tryz.f17) [true, true, true, true, false, true, false]) (nest_Find_lp 250) := by
  refine loop_sound (lp := nest_Find_lp) (cut := nest_Find_cut) (i := 250) (c := (sub (bodyOf Tryz.f17) [true, true, true, true, false, true, false, false])) [1, 7, 9, 26, 27, 28] (fun e => match e with | .exit 0 => [9] | _ => []) nest_Find_l1_L ?_ ?_ ?_
  · exact good_by (c := (sub (bodyOf Tryz.f17) [true, true, true, true, false, true, false, false])) (i := 500) (l := []) (by kernel_rfl) (fun _ h => by cases h)
  · intro Q tm h H
    obtain ⟨x15, e1, H⟩ := selI_ex H
    obtain ⟨A16, l16, c16, e7, H⟩ := selS_ex H
    obtain ⟨A17, l17, c17, e9, H⟩ := selS_ex H
    obtain ⟨A18, l18, c18, e26, H⟩ := selS_ex H
    obtain ⟨x19, e27, H⟩ := selI_ex H
    obtain ⟨x20, e28, H⟩ := selI_ex H
    exact H
  · intro Q k tm h H
    have H0 := H
    obtain ⟨x15, e1, H⟩ := selI_ex H
    obtain ⟨A16, l16, c16, e7, H⟩ := selS_ex H
    obtain ⟨A17, l17, c17, e9, H⟩ := selS_ex H
    obtain ⟨A18, l18, c18, e26, H⟩ := selS_ex H
    obtain ⟨x19, e27, H⟩ := selI_ex H
    obtain ⟨x20, e28, H⟩ := selI_ex H
    have e : mask [1, 7, 9, 26, 27, 28] tm = mkTm [(1, some (.int .u16 x15)), (7, some (.slice A16 l16 c16)), (9, some (.slice A17 l17 c17)), (26, some (.slice A18 l18 c18)), (27, some (.int .i64 x19)), (28, some (.int .i64 x20))] := by simp only [mask, List.map_cons, List.map_nil, e1, e7, e9, e26, e27, e28] <;> rfl
    rw [e]
    refine Eq.mp (nest_Find_l1_step Q k x15 A16 l16 c16 A17 l17 c17 A18 l18 c18 x19 x20 h) ?_
    rw [← e]
    exact (nest_Find_l1_mask Q (k + 1) tm h).mp H0
set_option maxRecDepth 100000 in
theorem nest_Find_eq (A1 : Option Addr) (l1 : Nat) (c1 : Nat) (x2 : Int) (h : Hp) (K : Value → Hp → Prop) : nest_Find A1 l1 c1 x2 h K =
    codeWp Tryz.prog 53 nest_Find_lp nest_Find_cut (bodyOf Tryz.f17) 1 (endQ Tryz.prog Tryz.f17.results.toList K) (argTm [(.slice A1 l1 c1), (.int .u16 x2)]) h := by kernel_rfl
set_option maxRecDepth 100000 in
theorem nest_Find_ok (A1 : Option Addr) (l1 : Nat) (c1 : Nat) (x2 : Int) {h : Hp} {K : Value → Hp → Prop} (H : nest_Find A1 l1 c1 x2 h K) : CallsH Tryz.prog 17 #[(.slice A1 l1 c1), (.int .u16 x2)] h K :=
  calls_of (args := [(.slice A1 l1 c1), (.int .u16 x2)]) (n := 53) (lp := nest_Find_lp) (cut := nest_Find_cut) Tryz.func17 (c := bodyOf Tryz.f17) (by kernel_rfl) (by kernel_rfl) (by kernel_rfl) (good_by (c := (bodyOf Tryz.f17)) (i := 1) (l := [(250, (sub (bodyOf Tryz.f17) [true, true, true, true, false, true, false]))]) (by kernel_rfl) (List.forall_mem_cons.2 ⟨nest_Find_l1_snd, (fun _ h => by cases h)⟩))
    (Eq.mp (nest_Find_eq A1 l1 c1 x2 h K) H)

/-! ### quintet/nest.list: function 20 -/
def nest_list_l1 (A2 : Option Addr) (l2 : Nat) (c2 : Nat) (A3 : Option Addr) (l3 : Nat) (c3 : Nat) (x4 : Int) (K0 : Int → Hp → Prop) (K1 : Hp → Prop)  : Nat → Int → Hp → Prop
  | 0, _, _ => False
  | k + 1, x5, h =>
    br (decide (x5 < x4))
    (∃ a43 : Addr, PV Tryz.prog (Instr.indexAt 22 (.slice A3 l3 c3) (.int .i64 x5)) (.pointer (some a43)) ∧
    ∃ x44 : Int, ∃ x45 : Int, ∃ x46 : Int, ∃ x47 : Int, ∃ x48 : Int, ∃ x49 : Int, ∃ x50 : Int, ∃ x51 : Int, ∃ x52 : Int, ∃ x53 : Int, ∃ x54 : Int, ∃ x55 : Int, HV Tryz.prog (Instr.loadAt 49 (.pointer (some a43))) h (.agg #[(.int .i64 x44), (.int .u32 x45), (.int .i64 x46), (.int .u32 x47), (.int .i64 x48), (.int .u16 x49), (.int .u16 x50), (.int .u16 x51), (.int .u16 x52), (.int .u8 x53), (.int .u8 x54), (.int .i64 x55)]) ∧ 
    newC h (.cells #[(.int .i64 0), (.int .u32 0), (.int .i64 0), (.int .u32 0), (.int .i64 0), (.int .u16 0), (.int .u16 0), (.int .u16 0), (.int .u16 0), (.int .u8 0), (.int .u8 0), (.int .i64 0)] 49 (0, 0)) fun a57 h56 => 
    HU Tryz.prog (Instr.storeAt 49 (.pointer (some a57)) (.agg #[(.int .i64 x44), (.int .u32 x45), (.int .i64 x46), (.int .u32 x47), (.int .i64 x48), (.int .u16 x49), (.int .u16 x50), (.int .u16 x51), (.int .u16 x52), (.int .u8 x53), (.int .u8 x54), (.int .i64 x55)])) h56 fun h58 => 
    ∃ x59 : Int, ∃ x60 : Int, ∃ x61 : Int, ∃ x62 : Int, ∃ x63 : Int, ∃ x64 : Int, ∃ x65 : Int, ∃ x66 : Int, ∃ x67 : Int, ∃ x68 : Int, ∃ x69 : Int, ∃ x70 : Int, HV Tryz.prog (Instr.loadAt 49 (.pointer (some a57))) h58 (.agg #[(.int .i64 x59), (.int .u32 x60), (.int .i64 x61), (.int .u32 x62), (.int .i64 x63), (.int .u16 x64), (.int .u16 x65), (.int .u16 x66), (.int .u16 x67), (.int .u8 x68), (.int .u8 x69), (.int .i64 x70)]) ∧ 
    CallsH Tryz.prog 31 #[(.agg #[(.int .i64 x59), (.int .u32 x60), (.int .i64 x61), (.int .u32 x62), (.int .i64 x63), (.int .u16 x64), (.int .u16 x65), (.int .u16 x66), (.int .u16 x67), (.int .u8 x68), (.int .u8 x69), (.int .i64 x70)])] h58 fun r72 h71 =>
    ∃ x73 : Int, ∃ x74 : Int, r72 = (.tuple #[(.int .i64 x73), (.int .i64 x74)]) ∧ 
    br (x73 != 0)
    (K0 x73 h71)
    (∃ A75 : Option Addr, ∃ l75 : Nat, ∃ c75 : Nat, PV Tryz.prog (Instr.sliceAt 22 (.slice A2 l2 c2) none (some (.int .i64 x5)) none) (.slice A75 l75 c75) ∧
    CallsH Tryz.prog 40 #[(.slice A75 l75 c75), (.func (.func 41) #[] #[(.pointer (some a57))])] h71 fun r77 h76 =>
    ∃ b78 : Bool, r77 = (.bool b78) ∧ 
    br b78
    (K0 111 h76)
    (br (x5 == 64)
    (K0 113 h76)
    (nest_list_l1 A2 l2 c2 A3 l3 c3 x4 K0 K1 k (IntKind.i64.wrap (x5 + 1)) h76))))
    (K1 h)
def nest_list_l1_L (Q : Qx) (k : Nat) (tm : Tm) (h : Hp) : Prop :=
  selS (tm 0) fun A2 l2 c2 =>
  selS (tm 7) fun A3 l3 c3 =>
  selI .i64 (tm 8) fun x4 =>
  selI .i64 (tm 9) fun x5 =>
  nest_list_l1 A2 l2 c2 A3 l3 c3 x4 (fun (x42 : Int) h => Q (.ret) (mkTm [(2, some (.int .i64 x42))]) h) (fun  h => Q (.exit 0) (mkTm []) h) k x5 h
def nest_list (A1 : Option Addr) (l1 : Nat) (c1 : Nat) (h : Hp) (K : Value → Hp → Prop) : Prop :=
  ∃ k82, nest_list_l1 A1 l1 c1 A1 l1 c1 (l1 : Int)
  (fun (x79 : Int) (h80 : Hp) =>
  K (.int .i64 x79) h80)
  (fun  (h81 : Hp) =>
  K (.int .i64 0) h81)
  k82 0 h
def nest_list_lp (i : Nat) (Q : Qx) (tm : Tm) (h : Hp) : Prop := match Nat.beq i 26 with
  | true => ∃ k, nest_list_l1_L Q k tm h
  | false => False
def nest_list_cut (i : Nat) : Option (List Nat) := none
set_option maxRecDepth 100000 in
theorem nest_list_l1_step (Q : Qx) (k : Nat) (A2 : Option Addr) (l2 : Nat) (c2 : Nat) (A3 : Option Addr) (l3 : Nat) (c3 : Nat) (x4 : Int) (x5 : Int) (h : Hp) : nest_list_l1_L Q (k + 1) (mkTm [(0, some (.slice A2 l2 c2)), (7, some (.slice A3 l3 c3)), (8, some (.int .i64 x4)), (9, some (.int .i64 x5))]) h =
    codeWp Tryz.prog 30 nest_list_lp nest_list_cut (sub (bodyOf Tryz.f20) [true, false, true, false, false]) 52 (thenQ (fun tm h => nest_list_l1_L Q k (mask [0, 7, 8, 9] tm) h) (maskQ (fun e => match e with | .ret => [2] | .exit 0 => [] | _ => []) Q)) (mkTm [(0, some (.slice A2 l2 c2)), (7, some (.slice A3 l3 c3)), (8, some (.int .i64 x4)), (9, some (.int .i64 x5))]) h := by kernel_rfl
theorem nest_list_l1_mask (Q : Qx) (k : Nat) (tm : Tm) (h : Hp) : nest_list_l1_L Q k tm h ↔ nest_list_l1_L Q k (mask [0, 7, 8, 9] tm) h := Iff.rfl
set_option maxRecDepth 100000 in
theorem nest_list_l1_snd : SndAt Tryz.prog 30 none (sub (bodyOf Tryz.f20) [true, false, true, false]) (nest_list_lp 26) := by
  refine loop_sound (lp := nest_list_lp) (cut := nest_list_cut) (i := 26) (c := (sub (bodyOf Tryz.f20) [true, false, true, false, false])) [0, 7, 8, 9] (fun e => match e with | .ret => [2] | .exit 0 => [] | _ => []) nest_list_l1_L ?_ ?_ ?_
  · exact good_by (c := (sub (bodyOf Tryz.f20) [true, false, true, false, false])) (i := 52) (l := []) (by kernel_rfl) (fun _ h => by cases h)
  · intro Q tm h H
    obtain ⟨A2, l2, c2, e0, H⟩ := selS_ex H
    obtain ⟨A3, l3, c3, e7, H⟩ := selS_ex H
    obtain ⟨x4, e8, H⟩ := selI_ex H
    obtain ⟨x5, e9, H⟩ := selI_ex H
    exact H
  · intro Q k tm h H
    have H0 := H
    obtain ⟨A2, l2, c2, e0, H⟩ := selS_ex H
    obtain ⟨A3, l3, c3, e7, H⟩ := selS_ex H
    obtain ⟨x4, e8, H⟩ := selI_ex H
    obtain ⟨x5, e9, H⟩ := selI_ex H
    have e : mask [0, 7, 8, 9] tm = mkTm [(0, some (.slice A2 l2 c2)), (7, some (.slice A3 l3 c3)), (8, some (.int .i64 x4)), (9, some (.int .i64 x5))] := by simp only [mask, List.map_cons, List.map_nil, e0, e7, e8, e9] <;> rfl
    rw [e]
    refine Eq.mp (nest_list_l1_step Q k A2 l2 c2 A3 l3 c3 x4 x5 h) ?_
    rw [← e]
    exact (nest_list_l1_mask Q (k + 1) tm h).mp H0
set_option maxRecDepth 100000 in
theorem nest_list_eq (A1 : Option Addr) (l1 : Nat) (c1 : Nat) (h : Hp) (K : Value → Hp → Prop) : nest_list A1 l1 c1 h K =
    codeWp Tryz.prog 30 nest_list_lp nest_list_cut (bodyOf Tryz.f20) 1 (endQ Tryz.prog Tryz.f20.results.toList K) (argTm [(.slice A1 l1 c1)]) h := by kernel_rfl
set_option maxRecDepth 100000 in
theorem nest_list_ok (A1 : Option Addr) (l1 : Nat) (c1 : Nat) {h : Hp} {K : Value → Hp → Prop} (H : nest_list A1 l1 c1 h K) : CallsH Tryz.prog 20 #[(.slice A1 l1 c1)] h K :=
  calls_of (args := [(.slice A1 l1 c1)]) (n := 30) (lp := nest_list_lp) (cut := nest_list_cut) Tryz.func20 (c := bodyOf Tryz.f20) (by kernel_rfl) (by kernel_rfl) (by kernel_rfl) (good_by (c := (bodyOf Tryz.f20)) (i := 1) (l := [(26, (sub (bodyOf Tryz.f20) [true, false, true, false]))]) (by kernel_rfl) (List.forall_mem_cons.2 ⟨nest_list_l1_snd, (fun _ h => by cases h)⟩))
    (Eq.mp (nest_list_eq A1 l1 c1 h K) H)

/-! ### quintet/nest.unlike: function 21 -/
def nest_unlike_l1 (v3 : Value) (A5 : Option Addr) (l5 : Nat) (c5 : Nat) (x6 : Int) (K0 : (Option Addr) → Nat → Nat → Hp → Prop)  : Nat → (Option Addr) → Nat → Nat → Int → Hp → Prop
  | 0, _, _, _, _, _ => False
  | k + 1, A4, l4, c4, x7, h =>
    br (decide (x7 < x6))
    (∃ a46 : Addr, PV Tryz.prog (Instr.indexAt 22 (.slice A5 l5 c5) (.int .i64 x7)) (.pointer (some a46)) ∧
    ∃ x47 : Int, ∃ x48 : Int, ∃ x49 : Int, ∃ x50 : Int, ∃ x51 : Int, ∃ x52 : Int, ∃ x53 : Int, ∃ x54 : Int, ∃ x55 : Int, ∃ x56 : Int, ∃ x57 : Int, ∃ x58 : Int, HV Tryz.prog (Instr.loadAt 49 (.pointer (some a46))) h (.agg #[(.int .i64 x47), (.int .u32 x48), (.int .i64 x49), (.int .u32 x50), (.int .i64 x51), (.int .u16 x52), (.int .u16 x53), (.int .u16 x54), (.int .u16 x55), (.int .u8 x56), (.int .u8 x57), (.int .i64 x58)]) ∧ 
    newC h (.cells #[(.int .i64 0), (.int .u32 0), (.int .i64 0), (.int .u32 0), (.int .i64 0), (.int .u16 0), (.int .u16 0), (.int .u16 0), (.int .u16 0), (.int .u8 0), (.int .u8 0), (.int .i64 0)] 49 (0, 0)) fun a60 h59 => 
    HU Tryz.prog (Instr.storeAt 49 (.pointer (some a60)) (.agg #[(.int .i64 x47), (.int .u32 x48), (.int .i64 x49), (.int .u32 x50), (.int .i64 x51), (.int .u16 x52), (.int .u16 x53), (.int .u16 x54), (.int .u16 x55), (.int .u8 x56), (.int .u8 x57), (.int .i64 x58)])) h59 fun h61 => 
    ∃ x62 : Int, ∃ x63 : Int, ∃ x64 : Int, ∃ x65 : Int, ∃ x66 : Int, ∃ x67 : Int, ∃ x68 : Int, ∃ x69 : Int, ∃ x70 : Int, ∃ x71 : Int, ∃ x72 : Int, ∃ x73 : Int, HV Tryz.prog (Instr.loadAt 49 (.pointer (some a60))) h61 (.agg #[(.int .i64 x62), (.int .u32 x63), (.int .i64 x64), (.int .u32 x65), (.int .i64 x66), (.int .u16 x67), (.int .u16 x68), (.int .u16 x69), (.int .u16 x70), (.int .u8 x71), (.int .u8 x72), (.int .i64 x73)]) ∧ 
    HN Tryz.prog (callS v3 #[(.agg #[(.int .i64 x62), (.int .u32 x63), (.int .i64 x64), (.int .u32 x65), (.int .i64 x66), (.int .u16 x67), (.int .u16 x68), (.int .u16 x69), (.int .u16 x70), (.int .u8 x71), (.int .u8 x72), (.int .i64 x73)])]) h61 fun r75 h74 =>
    ∃ x76 : Int, ∃ x77 : Int, r75 = (.agg #[(.int .u32 x76), (.int .i64 x77)]) ∧ 
    newC h74 (.cells #[(.int .u32 x76), (.int .i64 x77)] 45 (0, 0)) fun a79 h78 => 
    HW Tryz.prog (Builtin.append_ #[53, 53] 53 #[(.slice A4 l4 c4), (.slice (some a79) 1 1)]) h78 fun r81 h80 =>
    ∃ A82 : Option Addr, ∃ l82 : Nat, ∃ c82 : Nat, r81 = (.slice A82 l82 c82) ∧ 
    nest_unlike_l1 v3 A5 l5 c5 x6 K0 k A82 l82 c82 (IntKind.i64.wrap (x7 + 1)) h80)
    (K0 A4 l4 c4 h)
def nest_unlike_l1_L (Q : Qx) (k : Nat) (tm : Tm) (h : Hp) : Prop :=
  selV (tm 1) fun v3 =>
  selS (tm 5) fun A4 l4 c4 =>
  selS (tm 8) fun A5 l5 c5 =>
  selI .i64 (tm 9) fun x6 =>
  selI .i64 (tm 10) fun x7 =>
  nest_unlike_l1 v3 A5 l5 c5 x6 (fun (A45 : Option Addr) (l45 : Nat) (c45 : Nat) h => Q (.exit 0) (mkTm [(5, some (.slice A45 l45 c45))]) h) k A4 l4 c4 x7 h
def nest_unlike (A1 : Option Addr) (l1 : Nat) (c1 : Nat) (f2 : Fn) (f2r : Array Value) (f2c : Array Value) (h : Hp) (K : Value → Hp → Prop) : Prop :=
  ∃ k90, nest_unlike_l1 (.func f2 f2r f2c) A1 l1 c1 (l1 : Int)
  (fun (A83 : Option Addr) (l83 : Nat) (c83 : Nat) (h84 : Hp) =>
  CallsH Tryz.prog 42 #[(.slice A83 l83 c83), (.func (.func 43) #[] #[])] h84 fun r86 h85 =>
  r86 = (.tuple #[]) ∧ 
  CallsH Tryz.prog 44 #[(.slice A83 l83 c83)] h85 fun r88 h87 =>
  ∃ A89 : Option Addr, ∃ l89 : Nat, ∃ c89 : Nat, r88 = (.slice A89 l89 c89) ∧ 
  K (.slice A89 l89 c89) h87)
  k90 none 0 0 0 h
def nest_unlike_lp (i : Nat) (Q : Qx) (tm : Tm) (h : Hp) : Prop := match Nat.beq i 58 with
  | true => ∃ k, nest_unlike_l1_L Q k tm h
  | false => False
def nest_unlike_cut (i : Nat) : Option (List Nat) := none
set_option maxRecDepth 100000 in
theorem nest_unlike_l1_step (Q : Qx) (k : Nat) (v3 : Value) (A4 : Option Addr) (l4 : Nat) (c4 : Nat) (A5 : Option Addr) (l5 : Nat) (c5 : Nat) (x6 : Int) (x7 : Int) (h : Hp) : nest_unlike_l1_L Q (k + 1) (mkTm [(1, some v3), (5, some (.slice A4 l4 c4)), (8, some (.slice A5 l5 c5)), (9, some (.int .i64 x6)), (10, some (.int .i64 x7))]) h =
    codeWp Tryz.prog 25 nest_unlike_lp nest_unlike_cut (sub (bodyOf Tryz.f21) [true, true, false, true, false, false]) 116 (thenQ (fun tm h => nest_unlike_l1_L Q k (mask [1, 5, 8, 9, 10] tm) h) (maskQ (fun e => match e with | .exit 0 => [5] | _ => []) Q)) (mkTm [(1, some v3), (5, some (.slice A4 l4 c4)), (8, some (.slice A5 l5 c5)), (9, some (.int .i64 x6)), (10, some (.int .i64 x7))]) h := by kernel_rfl
theorem nest_unlike_l1_mask (Q : Qx) (k : Nat) (tm : Tm) (h : Hp) : nest_unlike_l1_L Q k tm h ↔ nest_unlike_l1_L Q k (mask [1, 5, 8, 9, 10] tm) h := Iff.rfl
set_option maxRecDepth 100000 in
theorem nest_unlike_l1_snd : SndAt Tryz.prog 25 none (sub (bodyOf Tryz.f21) [true, true, false, true, false]) (nest_unlike_lp 58) := by
  refine loop_sound (lp := nest_unlike_lp) (cut := nest_unlike_cut) (i := 58) (c := (sub (bodyOf Tryz.f21) [true, true, false, true, false, false])) [1, 5, 8, 9, 10] (fun e => match e with | .exit 0 => [5] | _ => []) nest_unlike_l1_L ?_ ?_ ?_
  · exact good_by (c := (sub (bodyOf Tryz.f21) [true, true, false, true, false, false])) (i := 116) (l := []) (by kernel_rfl) (fun _ h => by cases h)
  · intro Q tm h H
    obtain ⟨v3, e1, H⟩ := selV_ex H
    obtain ⟨A4, l4, c4, e5, H⟩ := selS_ex H
    obtain ⟨A5, l5, c5, e8, H⟩ := selS_ex H
    obtain ⟨x6, e9, H⟩ := selI_ex H
    obtain ⟨x7, e10, H⟩ := selI_ex H
    exact H
  · intro Q k tm h H
    have H0 := H
    obtain ⟨v3, e1, H⟩ := selV_ex H
    obtain ⟨A4, l4, c4, e5, H⟩ := selS_ex H
    obtain ⟨A5, l5, c5, e8, H⟩ := selS_ex H
    obtain ⟨x6, e9, H⟩ := selI_ex H
    obtain ⟨x7, e10, H⟩ := selI_ex H
    have e : mask [1, 5, 8, 9, 10] tm = mkTm [(1, some v3), (5, some (.slice A4 l4 c4)), (8, some (.slice A5 l5 c5)), (9, some (.int .i64 x6)), (10, some (.int .i64 x7))] := by simp only [mask, List.map_cons, List.map_nil, e1, e5, e8, e9, e10] <;> rfl
    rw [e]
    refine Eq.mp (nest_unlike_l1_step Q k v3 A4 l4 c4 A5 l5 c5 x6 x7 h) ?_
    rw [← e]
    exact (nest_unlike_l1_mask Q (k + 1) tm h).mp H0
set_option maxRecDepth 100000 in
theorem nest_unlike_eq (A1 : Option Addr) (l1 : Nat) (c1 : Nat) (f2 : Fn) (f2r : Array Value) (f2c : Array Value) (h : Hp) (K : Value → Hp → Prop) : nest_unlike A1 l1 c1 f2 f2r f2c h K =
    codeWp Tryz.prog 25 nest_unlike_lp nest_unlike_cut (bodyOf Tryz.f21) 1 (endQ Tryz.prog Tryz.f21.results.toList K) (argTm [(.slice A1 l1 c1), (.func f2 f2r f2c)]) h := by kernel_rfl
set_option maxRecDepth 100000 in
theorem nest_unlike_ok (A1 : Option Addr) (l1 : Nat) (c1 : Nat) (f2 : Fn) (f2r : Array Value) (f2c : Array Value) {h : Hp} {K : Value → Hp → Prop} (H : nest_unlike A1 l1 c1 f2 f2r f2c h K) : CallsH Tryz.prog 21 #[(.slice A1 l1 c1), (.func f2 f2r f2c)] h K :=
  calls_of (args := [(.slice A1 l1 c1), (.func f2 f2r f2c)]) (n := 25) (lp := nest_unlike_lp) (cut := nest_unlike_cut) Tryz.func21 (c := bodyOf Tryz.f21) (by kernel_rfl) (by kernel_rfl) (by kernel_rfl) (good_by (c := (bodyOf Tryz.f21)) (i := 1) (l := [(58, (sub (bodyOf Tryz.f21) [true, true, false, true, false]))]) (by kernel_rfl) (List.forall_mem_cons.2 ⟨nest_unlike_l1_snd, (fun _ h => by cases h)⟩))
    (Eq.mp (nest_unlike_eq A1 l1 c1 f2 f2r f2c h K) H)

/-! ### quintet/nest.src: function 22 -/
def nest_src (x1 : Int) (x2 : Int) (x3 : Int) (x4 : Int) (x5 : Int) (x6 : Int) (x7 : Int) (x8 : Int) (x9 : Int) (x10 : Int) (x11 : Int) (x12 : Int) (h : Hp) (K : Value → Hp → Prop) : Prop :=
  newC h (.cells #[(.int .i64 x1), (.int .u32 x2), (.int .i64 x3), (.int .u32 x4), (.int .i64 x5), (.int .u16 x6), (.int .u16 x7), (.int .u16 x8), (.int .u16 x9), (.int .u8 x10), (.int .u8 x11), (.int .i64 x12)] 49 (0, 0)) fun a14 h13 => 
  newC h13 (.cells #[(.int .u32 0), (.int .i64 0)] 45 (0, 0)) fun a16 h15 => 
  ∃ x17 : Int, ∃ x18 : Int, HV Tryz.prog (Instr.loadAt 45 (.pointer (some (a14.add 1)))) h15 (.agg #[(.int .u32 x17), (.int .i64 x18)]) ∧ 
  HU Tryz.prog (Instr.storeAt 45 (.pointer (some a16)) (.agg #[(.int .u32 x17), (.int .i64 x18)])) h15 fun h19 => 
  ∃ x20 : Int, ∃ x21 : Int, HV Tryz.prog (Instr.loadAt 45 (.pointer (some a16))) h19 (.agg #[(.int .u32 x20), (.int .i64 x21)]) ∧ K (.agg #[(.int .u32 x20), (.int .i64 x21)]) h19
def nest_src_lp (i : Nat) (Q : Qx) (tm : Tm) (h : Hp) : Prop := False
def nest_src_cut (i : Nat) : Option (List Nat) := none
set_option maxRecDepth 100000 in
theorem nest_src_eq (x1 : Int) (x2 : Int) (x3 : Int) (x4 : Int) (x5 : Int) (x6 : Int) (x7 : Int) (x8 : Int) (x9 : Int) (x10 : Int) (x11 : Int) (x12 : Int) (h : Hp) (K : Value → Hp → Prop) : nest_src x1 x2 x3 x4 x5 x6 x7 x8 x9 x10 x11 x12 h K =
    codeWp Tryz.prog 5 nest_src_lp nest_src_cut (bodyOf Tryz.f22) 1 (endQ Tryz.prog Tryz.f22.results.toList K) (argTm [(.agg #[(.int .i64 x1), (.int .u32 x2), (.int .i64 x3), (.int .u32 x4), (.int .i64 x5), (.int .u16 x6), (.int .u16 x7), (.int .u16 x8), (.int .u16 x9), (.int .u8 x10), (.int .u8 x11), (.int .i64 x12)])]) h := by kernel_rfl
set_option maxRecDepth 100000 in
theorem nest_src_ok (x1 : Int) (x2 : Int) (x3 : Int) (x4 : Int) (x5 : Int) (x6 : Int) (x7 : Int) (x8 : Int) (x9 : Int) (x10 : Int) (x11 : Int) (x12 : Int) {h : Hp} {K : Value → Hp → Prop} (H : nest_src x1 x2 x3 x4 x5 x6 x7 x8 x9 x10 x11 x12 h K) : CallsH Tryz.prog 22 #[(.agg #[(.int .i64 x1), (.int .u32 x2), (.int .i64 x3), (.int .u32 x4), (.int .i64 x5), (.int .u16 x6), (.int .u16 x7), (.int .u16 x8), (.int .u16 x9), (.int .u8 x10), (.int .u8 x11), (.int .i64 x12)])] h K :=
  calls_of (args := [(.agg #[(.int .i64 x1), (.int .u32 x2), (.int .i64 x3), (.int .u32 x4), (.int .i64 x5), (.int .u16 x6), (.int .u16 x7), (.int .u16 x8), (.int .u16 x9), (.int .u8 x10), (.int .u8 x11), (.int .i64 x12)])]) (n := 5) (lp := nest_src_lp) (cut := nest_src_cut) Tryz.func22 (c := bodyOf Tryz.f22) (by kernel_rfl) (by kernel_rfl) (by kernel_rfl) (good_by (c := (bodyOf Tryz.f22)) (i := 1) (l := []) (by kernel_rfl) (fun _ h => by cases h))
    (Eq.mp (nest_src_eq x1 x2 x3 x4 x5 x6 x7 x8 x9 x10 x11 x12 h K) H)

/-! ### quintet/nest.holders: function 23 -/
def nest_holders_l1 (a6 : Addr) (A8 : Option Addr) (l8 : Nat) (c8 : Nat) (x9 : Int) (K0 : (Option Addr) → Nat → Nat → Hp → Prop)  : Nat → (Option Addr) → Nat → Nat → Int → Hp → Prop
  | 0, _, _, _, _, _ => False
  | k + 1, A7, l7, c7, x10, h =>
    br (decide (x10 < x9))
    (∃ a52 : Addr, PV Tryz.prog (Instr.indexAt 22 (.slice A8 l8 c8) (.int .i64 x10)) (.pointer (some a52)) ∧
    ∃ x53 : Int, ∃ x54 : Int, ∃ x55 : Int, ∃ x56 : Int, ∃ x57 : Int, ∃ x58 : Int, ∃ x59 : Int, ∃ x60 : Int, ∃ x61 : Int, ∃ x62 : Int, ∃ x63 : Int, ∃ x64 : Int, HV Tryz.prog (Instr.loadAt 49 (.pointer (some a52))) h (.agg #[(.int .i64 x53), (.int .u32 x54), (.int .i64 x55), (.int .u32 x56), (.int .i64 x57), (.int .u16 x58), (.int .u16 x59), (.int .u16 x60), (.int .u16 x61), (.int .u8 x62), (.int .u8 x63), (.int .i64 x64)]) ∧ 
    newC h (.cells #[(.int .i64 0), (.int .u32 0), (.int .i64 0), (.int .u32 0), (.int .i64 0), (.int .u16 0), (.int .u16 0), (.int .u16 0), (.int .u16 0), (.int .u8 0), (.int .u8 0), (.int .i64 0)] 49 (0, 0)) fun a66 h65 => 
    HU Tryz.prog (Instr.storeAt 49 (.pointer (some a66)) (.agg #[(.int .i64 x53), (.int .u32 x54), (.int .i64 x55), (.int .u32 x56), (.int .i64 x57), (.int .u16 x58), (.int .u16 x59), (.int .u16 x60), (.int .u16 x61), (.int .u8 x62), (.int .u8 x63), (.int .i64 x64)])) h65 fun h67 => 
    ∃ x68 : Int, ∃ x69 : Int, HV Tryz.prog (Instr.loadAt 45 (.pointer (some a6))) h67 (.agg #[(.int .u32 x68), (.int .i64 x69)]) ∧ 
    ∃ x70 : Int, ∃ x71 : Int, HV Tryz.prog (Instr.loadAt 45 (.pointer (some (a66.add 1)))) h67 (.agg #[(.int .u32 x70), (.int .i64 x71)]) ∧ 
    CallsH Tryz.prog 25 #[(.agg #[(.int .u32 x68), (.int .i64 x69)]), (.agg #[(.int .u32 x70), (.int .i64 x71)])] h67 fun r73 h72 =>
    ∃ b74 : Bool, r73 = (.bool b74) ∧ 
    br b74
    (∃ x75 : Int, ∃ x76 : Int, ∃ x77 : Int, ∃ x78 : Int, ∃ x79 : Int, ∃ x80 : Int, ∃ x81 : Int, ∃ x82 : Int, ∃ x83 : Int, ∃ x84 : Int, ∃ x85 : Int, ∃ x86 : Int, HV Tryz.prog (Instr.loadAt 49 (.pointer (some a66))) h72 (.agg #[(.int .i64 x75), (.int .u32 x76), (.int .i64 x77), (.int .u32 x78), (.int .i64 x79), (.int .u16 x80), (.int .u16 x81), (.int .u16 x82), (.int .u16 x83), (.int .u8 x84), (.int .u8 x85), (.int .i64 x86)]) ∧ 
    newC h72 (.cells #[(.int .i64 x75), (.int .u32 x76), (.int .i64 x77), (.int .u32 x78), (.int .i64 x79), (.int .u16 x80), (.int .u16 x81), (.int .u16 x82), (.int .u16 x83), (.int .u8 x84), (.int .u8 x85), (.int .i64 x86)] 49 (0, 0)) fun a88 h87 => 
    HW Tryz.prog (Builtin.append_ #[22, 22] 22 #[(.slice A7 l7 c7), (.slice (some a88) 1 1)]) h87 fun r90 h89 =>
    ∃ A91 : Option Addr, ∃ l91 : Nat, ∃ c91 : Nat, r90 = (.slice A91 l91 c91) ∧ 
    nest_holders_l1 a6 A8 l8 c8 x9 K0 k A91 l91 c91 (IntKind.i64.wrap (x10 + 1)) h89)
    (nest_holders_l1 a6 A8 l8 c8 x9 K0 k A7 l7 c7 (IntKind.i64.wrap (x10 + 1)) h72))
    (K0 A7 l7 c7 h)
def nest_holders_l1_L (Q : Qx) (k : Nat) (tm : Tm) (h : Hp) : Prop :=
  selA (tm 3) fun a6 =>
  selS (tm 5) fun A7 l7 c7 =>
  selS (tm 8) fun A8 l8 c8 =>
  selI .i64 (tm 9) fun x9 =>
  selI .i64 (tm 10) fun x10 =>
  nest_holders_l1 a6 A8 l8 c8 x9 (fun (A51 : Option Addr) (l51 : Nat) (c51 : Nat) h => Q (.exit 0) (mkTm [(5, some (.slice A51 l51 c51))]) h) k A7 l7 c7 x10 h
def nest_holders (A1 : Option Addr) (l1 : Nat) (c1 : Nat) (x2 : Int) (x3 : Int) (h : Hp) (K : Value → Hp → Prop) : Prop :=
  newC h (.cells #[(.int .u32 x2), (.int .i64 x3)] 45 (0, 0)) fun a5 h4 => 
  ∃ k94, nest_holders_l1 a5 A1 l1 c1 (l1 : Int)
  (fun (A92 : Option Addr) (l92 : Nat) (c92 : Nat) (h93 : Hp) =>
  K (.slice A92 l92 c92) h93)
  k94 none 0 0 0 h4
def nest_holders_lp (i : Nat) (Q : Qx) (tm : Tm) (h : Hp) : Prop := match Nat.beq i 58 with
  | true => ∃ k, nest_holders_l1_L Q k tm h
  | false => False
def nest_holders_cut (i : Nat) : Option (List Nat) := none
set_option maxRecDepth 100000 in
theorem nest_holders_l1_step (Q : Qx) (k : Nat) (a6 : Addr) (A7 : Option Addr) (l7 : Nat) (c7 : Nat) (A8 : Option Addr) (l8 : Nat) (c8 : Nat) (x9 : Int) (x10 : Int) (h : Hp) : nest_holders_l1_L Q (k + 1) (mkTm [(3, some (.pointer (some a6))), (5, some (.slice A7 l7 c7)), (8, some (.slice A8 l8 c8)), (9, some (.int .i64 x9)), (10, some (.int .i64 x10))]) h =
    codeWp Tryz.prog 24 nest_holders_lp nest_holders_cut (sub (bodyOf Tryz.f23) [true, true, false, true, false, false]) 116 (thenQ (fun tm h => nest_holders_l1_L Q k (mask [3, 5, 8, 9, 10] tm) h) (maskQ (fun e => match e with | .exit 0 => [5] | _ => []) Q)) (mkTm [(3, some (.pointer (some a6))), (5, some (.slice A7 l7 c7)), (8, some (.slice A8 l8 c8)), (9, some (.int .i64 x9)), (10, some (.int .i64 x10))]) h := by kernel_rfl
theorem nest_holders_l1_mask (Q : Qx) (k : Nat) (tm : Tm) (h : Hp) : nest_holders_l1_L Q k tm h ↔ nest_holders_l1_L Q k (mask [3, 5, 8, 9, 10] tm) h := Iff.rfl
set_option maxRecDepth 100000 in
theorem nest_holders_l1_snd : SndAt Tryz.prog 24 none (sub (bodyOf Tryz.f23) [true, true, false, true, false]) (nest_holders_lp 58) := by
  refine loop_sound (lp := nest_holders_lp) (cut := nest_holders_cut) (i := 58) (c := (sub (bodyOf Tryz.f23) [true, true, false, true, false, false])) [3, 5, 8, 9, 10] (fun e => match e with | .exit 0 => [5] | _ => []) nest_holders_l1_L ?_ ?_ ?_
  · exact good_by (c := (sub (bodyOf Tryz.f23) [true, true, false, true, false, false])) (i := 116) (l := []) (by kernel_rfl) (fun _ h => by cases h)
  · intro Q tm h H
    obtain ⟨a6, e3, H⟩ := selA_ex H
    obtain ⟨A7, l7, c7, e5, H⟩ := selS_ex H
    obtain ⟨A8, l8, c8, e8, H⟩ := selS_ex H
    obtain ⟨x9, e9, H⟩ := selI_ex H
    obtain ⟨x10, e10, H⟩ := selI_ex H
    exact H
  · intro Q k tm h H
    have H0 := H
    obtain ⟨a6, e3, H⟩ := selA_ex H
    obtain ⟨A7, l7, c7, e5, H⟩ := selS_ex H
    obtain ⟨A8, l8, c8, e8, H⟩ := selS_ex H
    obtain ⟨x9, e9, H⟩ := selI_ex H
    obtain ⟨x10, e10, H⟩ := selI_ex H
    have e : mask [3, 5, 8, 9, 10] tm = mkTm [(3, some (.pointer (some a6))), (5, some (.slice A7 l7 c7)), (8, some (.slice A8 l8 c8)), (9, some (.int .i64 x9)), (10, some (.int .i64 x10))] := by simp only [mask, List.map_cons, List.map_nil, e3, e5, e8, e9, e10] <;> rfl
    rw [e]
    refine Eq.mp (nest_holders_l1_step Q k a6 A7 l7 c7 A8 l8 c8 x9 x10 h) ?_
    rw [← e]
    exact (nest_holders_l1_mask Q (k + 1) tm h).mp H0
set_option maxRecDepth 100000 in
theorem nest_holders_eq (A1 : Option Addr) (l1 : Nat) (c1 : Nat) (x2 : Int) (x3 : Int) (h : Hp) (K : Value → Hp → Prop) : nest_holders A1 l1 c1 x2 x3 h K =
    codeWp Tryz.prog 24 nest_holders_lp nest_holders_cut (bodyOf Tryz.f23) 1 (endQ Tryz.prog Tryz.f23.results.toList K) (argTm [(.slice A1 l1 c1), (.agg #[(.int .u32 x2), (.int .i64 x3)])]) h := by kernel_rfl
set_option maxRecDepth 100000 in
theorem nest_holders_ok (A1 : Option Addr) (l1 : Nat) (c1 : Nat) (x2 : Int) (x3 : Int) {h : Hp} {K : Value → Hp → Prop} (H : nest_holders A1 l1 c1 x2 x3 h K) : CallsH Tryz.prog 23 #[(.slice A1 l1 c1), (.agg #[(.int .u32 x2), (.int .i64 x3)])] h K :=
  calls_of (args := [(.slice A1 l1 c1), (.agg #[(.int .u32 x2), (.int .i64 x3)])]) (n := 24) (lp := nest_holders_lp) (cut := nest_holders_cut) Tryz.func23 (c := bodyOf Tryz.f23) (by kernel_rfl) (by kernel_rfl) (by kernel_rfl) (good_by (c := (bodyOf Tryz.f23)) (i := 1) (l := [(58, (sub (bodyOf Tryz.f23) [true, true, false, true, false]))]) (by kernel_rfl) (List.forall_mem_cons.2 ⟨nest_holders_l1_snd, (fun _ h => by cases h)⟩))
    (Eq.mp (nest_holders_eq A1 l1 c1 x2 x3 h K) H)

/-! ### quintet/nest.dst: function 24 -/
def nest_dst (x1 : Int) (x2 : Int) (x3 : Int) (x4 : Int) (x5 : Int) (x6 : Int) (x7 : Int) (x8 : Int) (x9 : Int) (x10 : Int) (x11 : Int) (x12 : Int) (h : Hp) (K : Value → Hp → Prop) : Prop :=
  newC h (.cells #[(.int .i64 x1), (.int .u32 x2), (.int .i64 x3), (.int .u32 x4), (.int .i64 x5), (.int .u16 x6), (.int .u16 x7), (.int .u16 x8), (.int .u16 x9), (.int .u8 x10), (.int .u8 x11), (.int .i64 x12)] 49 (0, 0)) fun a14 h13 => 
  newC h13 (.cells #[(.int .u32 0), (.int .i64 0)] 45 (0, 0)) fun a16 h15 => 
  ∃ x17 : Int, ∃ x18 : Int, HV Tryz.prog (Instr.loadAt 45 (.pointer (some (a14.add 3)))) h15 (.agg #[(.int .u32 x17), (.int .i64 x18)]) ∧ 
  HU Tryz.prog (Instr.storeAt 45 (.pointer (some a16)) (.agg #[(.int .u32 x17), (.int .i64 x18)])) h15 fun h19 => 
  ∃ x20 : Int, ∃ x21 : Int, HV Tryz.prog (Instr.loadAt 45 (.pointer (some a16))) h19 (.agg #[(.int .u32 x20), (.int .i64 x21)]) ∧ K (.agg #[(.int .u32 x20), (.int .i64 x21)]) h19
def nest_dst_lp (i : Nat) (Q : Qx) (tm : Tm) (h : Hp) : Prop := False
def nest_dst_cut (i : Nat) : Option (List Nat) := none
set_option maxRecDepth 100000 in
theorem nest_dst_eq (x1 : Int) (x2 : Int) (x3 : Int) (x4 : Int) (x5 : Int) (x6 : Int) (x7 : Int) (x8 : Int) (x9 : Int) (x10 : Int) (x11 : Int) (x12 : Int) (h : Hp) (K : Value → Hp → Prop) : nest_dst x1 x2 x3 x4 x5 x6 x7 x8 x9 x10 x11 x12 h K =
    codeWp Tryz.prog 5 nest_dst_lp nest_dst_cut (bodyOf Tryz.f24) 1 (endQ Tryz.prog Tryz.f24.results.toList K) (argTm [(.agg #[(.int .i64 x1), (.int .u32 x2), (.int .i64 x3), (.int .u32 x4), (.int .i64 x5), (.int .u16 x6), (.int .u16 x7), (.int .u16 x8), (.int .u16 x9), (.int .u8 x10), (.int .u8 x11), (.int .i64 x12)])]) h := by kernel_rfl
set_option maxRecDepth 100000 in
theorem nest_dst_ok (x1 : Int) (x2 : Int) (x3 : Int) (x4 : Int) (x5 : Int) (x6 : Int) (x7 : Int) (x8 : Int) (x9 : Int) (x10 : Int) (x11 : Int) (x12 : Int) {h : Hp} {K : Value → Hp → Prop} (H : nest_dst x1 x2 x3 x4 x5 x6 x7 x8 x9 x10 x11 x12 h K) : CallsH Tryz.prog 24 #[(.agg #[(.int .i64 x1), (.int .u32 x2), (.int .i64 x3), (.int .u32 x4), (.int .i64 x5), (.int .u16 x6), (.int .u16 x7), (.int .u16 x8), (.int .u16 x9), (.int .u8 x10), (.int .u8 x11), (.int .i64 x12)])] h K :=
  calls_of (args := [(.agg #[(.int .i64 x1), (.int .u32 x2), (.int .i64 x3), (.int .u32 x4), (.int .i64 x5), (.int .u16 x6), (.int .u16 x7), (.int .u16 x8), (.int .u16 x9), (.int .u8 x10), (.int .u8 x11), (.int .i64 x12)])]) (n := 5) (lp := nest_dst_lp) (cut := nest_dst_cut) Tryz.func24 (c := bodyOf Tryz.f24) (by kernel_rfl) (by kernel_rfl) (by kernel_rfl) (good_by (c := (bodyOf Tryz.f24)) (i := 1) (l := []) (by kernel_rfl) (fun _ h => by cases h))
    (Eq.mp (nest_dst_eq x1 x2 x3 x4 x5 x6 x7 x8 x9 x10 x11 x12 h K) H)

/-! ### quintet/nest.check: function 36 -/
def nest_check_l1 (A2 : Option Addr) (l2 : Nat) (c2 : Nat) (x3 : Int) (K0 : Int → Hp → Prop) (K1 : Hp → Prop)  : Nat → Int → Hp → Prop
  | 0, _, _ => False
  | k + 1, x4, h =>
    br (decide (x4 < x3))
    (∃ a17 : Addr, PV Tryz.prog (Instr.indexAt 37 (.slice A2 l2 c2) (.int .i64 x4)) (.pointer (some a17)) ∧
    ∃ x18 : Int, ∃ x19 : Int, HV Tryz.prog (Instr.loadAt 36 (.pointer (some a17))) h (.agg #[(.int .u16 x18), (.int .u16 x19)]) ∧ 
    newC h (.cells #[(.int .u16 0), (.int .u16 0)] 36 (0, 0)) fun a21 h20 => 
    HU Tryz.prog (Instr.storeAt 36 (.pointer (some a21)) (.agg #[(.int .u16 x18), (.int .u16 x19)])) h20 fun h22 => 
    ∃ x23 : Int, ∃ x24 : Int, HV Tryz.prog (Instr.loadAt 36 (.pointer (some a21))) h22 (.agg #[(.int .u16 x23), (.int .u16 x24)]) ∧ 
    CallsH Tryz.prog 50 #[(.agg #[(.int .u16 x23), (.int .u16 x24)])] h22 fun r26 h25 =>
    ∃ x27 : Int, r26 = (.int .i64 x27) ∧ 
    br (x27 != 0)
    (K0 x27 h25)
    (nest_check_l1 A2 l2 c2 x3 K0 K1 k (IntKind.i64.wrap (x4 + 1)) h25))
    (K1 h)
def nest_check_l1_L (Q : Qx) (k : Nat) (tm : Tm) (h : Hp) : Prop :=
  selS (tm 6) fun A2 l2 c2 =>
  selI .i64 (tm 7) fun x3 =>
  selI .i64 (tm 8) fun x4 =>
  nest_check_l1 A2 l2 c2 x3 (fun (x16 : Int) h => Q (.ret) (mkTm [(2, some (.int .i64 x16))]) h) (fun  h => Q (.exit 0) (mkTm []) h) k x4 h
def nest_check (A1 : Option Addr) (l1 : Nat) (c1 : Nat) (h : Hp) (K : Value → Hp → Prop) : Prop :=
  ∃ k31, nest_check_l1 A1 l1 c1 (l1 : Int)
  (fun (x28 : Int) (h29 : Hp) =>
  K (.int .i64 x28) h29)
  (fun  (h30 : Hp) =>
  K (.int .i64 0) h30)
  k31 0 h
def nest_check_lp (i : Nat) (Q : Qx) (tm : Tm) (h : Hp) : Prop := match Nat.beq i 26 with
  | true => ∃ k, nest_check_l1_L Q k tm h
  | false => False
def nest_check_cut (i : Nat) : Option (List Nat) := none
set_option maxRecDepth 100000 in
theorem nest_check_l1_step (Q : Qx) (k : Nat) (A2 : Option Addr) (l2 : Nat) (c2 : Nat) (x3 : Int) (x4 : Int) (h : Hp) : nest_check_l1_L Q (k + 1) (mkTm [(6, some (.slice A2 l2 c2)), (7, some (.int .i64 x3)), (8, some (.int .i64 x4))]) h =
    codeWp Tryz.prog 18 nest_check_lp nest_check_cut (sub (bodyOf Tryz.f36) [true, false, true, false, false]) 52 (thenQ (fun tm h => nest_check_l1_L Q k (mask [6, 7, 8] tm) h) (maskQ (fun e => match e with | .ret => [2] | .exit 0 => [] | _ => []) Q)) (mkTm [(6, some (.slice A2 l2 c2)), (7, some (.int .i64 x3)), (8, some (.int .i64 x4))]) h := by kernel_rfl
theorem nest_check_l1_mask (Q : Qx) (k : Nat) (tm : Tm) (h : Hp) : nest_check_l1_L Q k tm h ↔ nest_check_l1_L Q k (mask [6, 7, 8] tm) h := Iff.rfl
set_option maxRecDepth 100000 in
theorem nest_check_l1_snd : SndAt Tryz.prog 18 none (sub (bodyOf Tryz.f36) [true, false, true, false]) (nest_check_lp 26) := by
  refine loop_sound (lp := nest_check_lp) (cut := nest_check_cut) (i := 26) (c := (sub (bodyOf Tryz.f36) [true, false, true, false, false])) [6, 7, 8] (fun e => match e with | .ret => [2] | .exit 0 => [] | _ => []) nest_check_l1_L ?_ ?_ ?_
  · exact good_by (c := (sub (bodyOf Tryz.f36) [true, false, true, false, false])) (i := 52) (l := []) (by kernel_rfl) (fun _ h => by cases h)
  · intro Q tm h H
    obtain ⟨A2, l2, c2, e6, H⟩ := selS_ex H
    obtain ⟨x3, e7, H⟩ := selI_ex H
    obtain ⟨x4, e8, H⟩ := selI_ex H
    exact H
  · intro Q k tm h H
    have H0 := H
    obtain ⟨A2, l2, c2, e6, H⟩ := selS_ex H
    obtain ⟨x3, e7, H⟩ := selI_ex H
    obtain ⟨x4, e8, H⟩ := selI_ex H
    have e : mask [6, 7, 8] tm = mkTm [(6, some (.slice A2 l2 c2)), (7, some (.int .i64 x3)), (8, some (.int .i64 x4))] := by simp only [mask, List.map_cons, List.map_nil, e6, e7, e8] <;> rfl
    rw [e]
    refine Eq.mp (nest_check_l1_step Q k A2 l2 c2 x3 x4 h) ?_
    rw [← e]
    exact (nest_check_l1_mask Q (k + 1) tm h).mp H0
set_option maxRecDepth 100000 in
theorem nest_check_eq (A1 : Option Addr) (l1 : Nat) (c1 : Nat) (h : Hp) (K : Value → Hp → Prop) : nest_check A1 l1 c1 h K =
    codeWp Tryz.prog 18 nest_check_lp nest_check_cut (bodyOf Tryz.f36) 1 (endQ Tryz.prog Tryz.f36.results.toList K) (argTm [(.slice A1 l1 c1)]) h := by kernel_rfl
set_option maxRecDepth 100000 in
theorem nest_check_ok (A1 : Option Addr) (l1 : Nat) (c1 : Nat) {h : Hp} {K : Value → Hp → Prop} (H : nest_check A1 l1 c1 h K) : CallsH Tryz.prog 36 #[(.slice A1 l1 c1)] h K :=
  calls_of (args := [(.slice A1 l1 c1)]) (n := 18) (lp := nest_check_lp) (cut := nest_check_cut) Tryz.func36 (c := bodyOf Tryz.f36) (by kernel_rfl) (by kernel_rfl) (by kernel_rfl) (good_by (c := (bodyOf Tryz.f36)) (i := 1) (l := [(26, (sub (bodyOf Tryz.f36) [true, false, true, false]))]) (by kernel_rfl) (List.forall_mem_cons.2 ⟨nest_check_l1_snd, (fun _ h => by cases h)⟩))
    (Eq.mp (nest_check_eq A1 l1 c1 h K) H)

/-! ### quintet/nest.levelled: function 37 -/
def nest_levelled_l1 (a8 : Addr) (A9 : Option Addr) (l9 : Nat) (c9 : Nat) (x10 : Int) (K0 : Addr → (Option Addr) → Nat → Nat → Hp → Prop)  : Nat → Int → Hp → Prop
  | 0, _, _ => False
  | k + 1, x11, h =>
    br (decide (x11 < x10))
    (∃ a16 : Addr, PV Tryz.prog (Instr.indexAt 38 (.slice A9 l9 c9) (.int .i64 x11)) (.pointer (some a16)) ∧
    HU Tryz.prog (Instr.storeAt 3 (.pointer (some a16)) (.int .i64 x11)) h fun h17 => 
    nest_levelled_l1 a8 A9 l9 c9 x10 K0 k (IntKind.i64.wrap (x11 + 1)) h17)
    (K0 a8 A9 l9 c9 h)
def nest_levelled_l1_L (Q : Qx) (k : Nat) (tm : Tm) (h : Hp) : Prop :=
  selA (tm 1) fun a8 =>
  selS (tm 4) fun A9 l9 c9 =>
  selI .i64 (tm 15) fun x10 =>
  selI .i64 (tm 16) fun x11 =>
  nest_levelled_l1 a8 A9 l9 c9 x10 (fun (a14 : Addr) (A15 : Option Addr) (l15 : Nat) (c15 : Nat) h => Q (.exit 0) (mkTm [(1, some (.pointer (some a14))), (4, some (.slice A15 l15 c15))]) h) k x11 h
def nest_levelled_j8 (K0 : Addr → (Option Addr) → Nat → Nat → (Option Addr) → Nat → Nat → (Option Addr) → Nat → Nat → (Option Addr) → Nat → Nat → Int → Int → Hp → Prop) (a346 : Addr) (A347 : Option Addr) (l347 : Nat) (c347 : Nat) (A348 : Option Addr) (l348 : Nat) (c348 : Nat) (A349 : Option Addr) (l349 : Nat) (c349 : Nat) (a350 : Addr) (x351 : Int) (A352 : Option Addr) (l352 : Nat) (c352 : Nat) (x353 : Int) (x354 : Int) (h : Hp) : Prop :=
  ∃ A371 : Option Addr, ∃ l371 : Nat, ∃ c371 : Nat, HV Tryz.prog (Instr.loadAt 37 (.pointer (some a346))) h (.slice A371 l371 c371) ∧ 
  ∃ x372 : Int, HV Tryz.prog (Instr.loadAt 3 (.pointer (some a350))) h (.int .i64 x372) ∧ 
  ∃ a373 : Addr, PV Tryz.prog (Instr.indexAt 37 (.slice A371 l371 c371) (.int .i64 x372)) (.pointer (some a373)) ∧
  ∃ x374 : Int, HV Tryz.prog (Instr.loadAt 24 (.pointer (some (a373.add 1)))) h (.int .u16 x374) ∧ 
  ∃ a375 : Addr, PV Tryz.prog (Instr.indexAt 86 (.slice A349 l349 c349) (.int .i64 x351)) (.pointer (some a375)) ∧
  HU Tryz.prog (Instr.storeAt 24 (.pointer (some a375)) (.int .u16 x374)) h fun h376 => 
  ∃ x377 : Int, HV Tryz.prog (Instr.loadAt 3 (.pointer (some a350))) h376 (.int .i64 x377) ∧ 
  ∃ a378 : Addr, PV Tryz.prog (Instr.indexAt 38 (.slice A348 l348 c348) (.int .i64 x377)) (.pointer (some a378)) ∧
  HU Tryz.prog (Instr.storeAt 3 (.pointer (some a378)) (.int .i64 x351)) h376 fun h379 => 
  K0 a346 A347 l347 c347 A348 l348 c348 A349 l349 c349 A352 l352 c352 x353 x354 h379
def nest_levelled_j8_L (Q : Qx) (tm : Tm) (h : Hp) : Prop :=
  selA (tm 1) fun a346 =>
  selS (tm 4) fun A347 l347 c347 =>
  selS (tm 6) fun A348 l348 c348 =>
  selS (tm 7) fun A349 l349 c349 =>
  selA (tm 9) fun a350 =>
  selI .i64 (tm 10) fun x351 =>
  selS (tm 30) fun A352 l352 c352 =>
  selI .i64 (tm 31) fun x353 =>
  selI .i64 (tm 32) fun x354 =>
  nest_levelled_j8 (fun (a364 : Addr) (A365 : Option Addr) (l365 : Nat) (c365 : Nat) (A366 : Option Addr) (l366 : Nat) (c366 : Nat) (A367 : Option Addr) (l367 : Nat) (c367 : Nat) (A368 : Option Addr) (l368 : Nat) (c368 : Nat) (x369 : Int) (x370 : Int) h => Q (.normal) (mkTm [(1, some (.pointer (some a364))), (4, some (.slice A365 l365 c365)), (6, some (.slice A366 l366 c366)), (7, some (.slice A367 l367 c367)), (30, some (.slice A368 l368 c368)), (31, some (.int .i64 x369)), (32, some (.int .i64 x370))]) h) a346 A347 l347 c347 A348 l348 c348 A349 l349 c349 a350 x351 A352 l352 c352 x353 x354 h
def nest_levelled_j7 (K0 : Addr → (Option Addr) → Nat → Nat → (Option Addr) → Nat → Nat → (Option Addr) → Nat → Nat → (Option Addr) → Nat → Nat → Int → Int → Hp → Prop) (a260 : Addr) (A261 : Option Addr) (l261 : Nat) (c261 : Nat) (A262 : Option Addr) (l262 : Nat) (c262 : Nat) (A263 : Option Addr) (l263 : Nat) (c263 : Nat) (a264 : Addr) (A265 : Option Addr) (l265 : Nat) (c265 : Nat) (x266 : Int) (x267 : Int) (h : Hp) : Prop :=
  CallsH Tryz.prog 58 #[(.slice A263 l263 c263), (.func (.func 59) #[] #[(.pointer (some a260)), (.pointer (some a264))])] h fun r339 h338 =>
  ∃ x340 : Int, r339 = (.int .i64 x340) ∧ 
  br (decide (x340 < 0))
  (newC h338 (.cells #[(.int .u16 0)] 24 (0, 0)) fun a381 h380 => 
  HW Tryz.prog (Builtin.append_ #[86, 86] 86 #[(.slice A263 l263 c263), (.slice (some a381) 1 1)]) h380 fun r383 h382 =>
  ∃ A384 : Option Addr, ∃ l384 : Nat, ∃ c384 : Nat, r383 = (.slice A384 l384 c384) ∧ 
  nest_levelled_j8
  (fun (a385 : Addr) (A386 : Option Addr) (l386 : Nat) (c386 : Nat) (A387 : Option Addr) (l387 : Nat) (c387 : Nat) (A388 : Option Addr) (l388 : Nat) (c388 : Nat) (A389 : Option Addr) (l389 : Nat) (c389 : Nat) (x390 : Int) (x391 : Int) (h392 : Hp) =>
  K0 a385 A386 l386 c386 A387 l387 c387 A388 l388 c388 A389 l389 c389 x390 x391 h392)
  a260 A261 l261 c261 A262 l262 c262 A384 l384 c384 a264 (l263 : Int) A265 l265 c265 x266 x267 h382)
  (nest_levelled_j8
  (fun (a393 : Addr) (A394 : Option Addr) (l394 : Nat) (c394 : Nat) (A395 : Option Addr) (l395 : Nat) (c395 : Nat) (A396 : Option Addr) (l396 : Nat) (c396 : Nat) (A397 : Option Addr) (l397 : Nat) (c397 : Nat) (x398 : Int) (x399 : Int) (h400 : Hp) =>
  K0 a393 A394 l394 c394 A395 l395 c395 A396 l396 c396 A397 l397 c397 x398 x399 h400)
  a260 A261 l261 c261 A262 l262 c262 A263 l263 c263 a264 x340 A265 l265 c265 x266 x267 h338)
def nest_levelled_j7_L (Q : Qx) (tm : Tm) (h : Hp) : Prop :=
  selA (tm 1) fun a260 =>
  selS (tm 4) fun A261 l261 c261 =>
  selS (tm 6) fun A262 l262 c262 =>
  selS (tm 7) fun A263 l263 c263 =>
  selA (tm 9) fun a264 =>
  selS (tm 30) fun A265 l265 c265 =>
  selI .i64 (tm 31) fun x266 =>
  selI .i64 (tm 32) fun x267 =>
  nest_levelled_j7 (fun (a331 : Addr) (A332 : Option Addr) (l332 : Nat) (c332 : Nat) (A333 : Option Addr) (l333 : Nat) (c333 : Nat) (A334 : Option Addr) (l334 : Nat) (c334 : Nat) (A335 : Option Addr) (l335 : Nat) (c335 : Nat) (x336 : Int) (x337 : Int) h => Q (.normal) (mkTm [(1, some (.pointer (some a331))), (4, some (.slice A332 l332 c332)), (6, some (.slice A333 l333 c333)), (7, some (.slice A334 l334 c334)), (30, some (.slice A335 l335 c335)), (31, some (.int .i64 x336)), (32, some (.int .i64 x337))]) h) a260 A261 l261 c261 A262 l262 c262 A263 l263 c263 a264 A265 l265 c265 x266 x267 h
def nest_levelled_l5 (a27 : Addr) (A28 : Option Addr) (l28 : Nat) (c28 : Nat) (A29 : Option Addr) (l29 : Nat) (c29 : Nat) (A31 : Option Addr) (l31 : Nat) (c31 : Nat) (x32 : Int) (K0 : (Option Addr) → Nat → Nat → (Option Addr) → Nat → Nat → Hp → Prop)  : Nat → (Option Addr) → Nat → Nat → Int → Hp → Prop
  | 0, _, _, _, _, _ => False
  | k + 1, A30, l30, c30, x33, h =>
    br (decide (x33 < x32))
    (∃ a236 : Addr, PV Tryz.prog (Instr.indexAt 38 (.slice A31 l31 c31) (.int .i64 x33)) (.pointer (some a236)) ∧
    ∃ x237 : Int, HV Tryz.prog (Instr.loadAt 3 (.pointer (some a236))) h (.int .i64 x237) ∧ 
    newC h (.cells #[(.int .i64 0)] 3 (0, 0)) fun a239 h238 => 
    HU Tryz.prog (Instr.storeAt 3 (.pointer (some a239)) (.int .i64 x237)) h238 fun h240 => 
    br (decide (x33 > 0))
    (∃ A401 : Option Addr, ∃ l401 : Nat, ∃ c401 : Nat, HV Tryz.prog (Instr.loadAt 37 (.pointer (some a27))) h240 (.slice A401 l401 c401) ∧ 
    ∃ a402 : Addr, PV Tryz.prog (Instr.indexAt 38 (.slice A28 l28 c28) (.int .i64 (IntKind.i64.wrap (x33 - 1)))) (.pointer (some a402)) ∧
    ∃ x403 : Int, HV Tryz.prog (Instr.loadAt 3 (.pointer (some a402))) h240 (.int .i64 x403) ∧ 
    ∃ a404 : Addr, PV Tryz.prog (Instr.indexAt 37 (.slice A401 l401 c401) (.int .i64 x403)) (.pointer (some a404)) ∧
    ∃ x405 : Int, ∃ x406 : Int, HV Tryz.prog (Instr.loadAt 36 (.pointer (some a404))) h240 (.agg #[(.int .u16 x405), (.int .u16 x406)]) ∧ 
    ∃ A407 : Option Addr, ∃ l407 : Nat, ∃ c407 : Nat, HV Tryz.prog (Instr.loadAt 37 (.pointer (some a27))) h240 (.slice A407 l407 c407) ∧ 
    ∃ x408 : Int, HV Tryz.prog (Instr.loadAt 3 (.pointer (some a239))) h240 (.int .i64 x408) ∧ 
    ∃ a409 : Addr, PV Tryz.prog (Instr.indexAt 37 (.slice A407 l407 c407) (.int .i64 x408)) (.pointer (some a409)) ∧
    ∃ x410 : Int, ∃ x411 : Int, HV Tryz.prog (Instr.loadAt 36 (.pointer (some a409))) h240 (.agg #[(.int .u16 x410), (.int .u16 x411)]) ∧ 
    ∃ b412 : Bool, PV Tryz.prog (binOp .eql 36 (.agg #[(.int .u16 x405), (.int .u16 x406)]) (.agg #[(.int .u16 x410), (.int .u16 x411)])) (.bool b412) ∧
    br b412
    (∃ x413 : Int, HV Tryz.prog (Instr.loadAt 3 (.pointer (some a239))) h240 (.int .i64 x413) ∧ 
    ∃ a414 : Addr, PV Tryz.prog (Instr.indexAt 38 (.slice A28 l28 c28) (.int .i64 (IntKind.i64.wrap (x33 - 1)))) (.pointer (some a414)) ∧
    ∃ x415 : Int, HV Tryz.prog (Instr.loadAt 3 (.pointer (some a414))) h240 (.int .i64 x415) ∧ 
    ∃ a416 : Addr, PV Tryz.prog (Instr.indexAt 38 (.slice A29 l29 c29) (.int .i64 x415)) (.pointer (some a416)) ∧
    ∃ x417 : Int, HV Tryz.prog (Instr.loadAt 3 (.pointer (some a416))) h240 (.int .i64 x417) ∧ 
    ∃ a418 : Addr, PV Tryz.prog (Instr.indexAt 38 (.slice A29 l29 c29) (.int .i64 x413)) (.pointer (some a418)) ∧
    HU Tryz.prog (Instr.storeAt 3 (.pointer (some a418)) (.int .i64 x417)) h240 fun h419 => 
    nest_levelled_l5 a27 A28 l28 c28 A29 l29 c29 A31 l31 c31 x32 K0 k A30 l30 c30 (IntKind.i64.wrap (x33 + 1)) h419)
    (nest_levelled_j7
    (fun (a420 : Addr) (A421 : Option Addr) (l421 : Nat) (c421 : Nat) (A422 : Option Addr) (l422 : Nat) (c422 : Nat) (A423 : Option Addr) (l423 : Nat) (c423 : Nat) (A424 : Option Addr) (l424 : Nat) (c424 : Nat) (x425 : Int) (x426 : Int) (h427 : Hp) =>
    nest_levelled_l5 a27 A28 l28 c28 A29 l29 c29 A31 l31 c31 x32 K0 k A423 l423 c423 (IntKind.i64.wrap (x426 + 1)) h427)
    a27 A28 l28 c28 A29 l29 c29 A30 l30 c30 a239 A31 l31 c31 x32 x33 h240))
    (nest_levelled_j7
    (fun (a428 : Addr) (A429 : Option Addr) (l429 : Nat) (c429 : Nat) (A430 : Option Addr) (l430 : Nat) (c430 : Nat) (A431 : Option Addr) (l431 : Nat) (c431 : Nat) (A432 : Option Addr) (l432 : Nat) (c432 : Nat) (x433 : Int) (x434 : Int) (h435 : Hp) =>
    nest_levelled_l5 a27 A28 l28 c28 A29 l29 c29 A31 l31 c31 x32 K0 k A431 l431 c431 (IntKind.i64.wrap (x434 + 1)) h435)
    a27 A28 l28 c28 A29 l29 c29 A30 l30 c30 a239 A31 l31 c31 x32 x33 h240))
    (K0 A29 l29 c29 A30 l30 c30 h)
def nest_levelled_l5_L (Q : Qx) (k : Nat) (tm : Tm) (h : Hp) : Prop :=
  selA (tm 1) fun a27 =>
  selS (tm 4) fun A28 l28 c28 =>
  selS (tm 6) fun A29 l29 c29 =>
  selS (tm 7) fun A30 l30 c30 =>
  selS (tm 30) fun A31 l31 c31 =>
  selI .i64 (tm 31) fun x32 =>
  selI .i64 (tm 32) fun x33 =>
  nest_levelled_l5 a27 A28 l28 c28 A29 l29 c29 A31 l31 c31 x32 (fun (A234 : Option Addr) (l234 : Nat) (c234 : Nat) (A235 : Option Addr) (l235 : Nat) (c235 : Nat) h => Q (.exit 2) (mkTm [(6, some (.slice A234 l234 c234)), (7, some (.slice A235 l235 c235))]) h) k A30 l30 c30 x33 h
def nest_levelled (A1 : Option Addr) (l1 : Nat) (c1 : Nat) (h : Hp) (K : Value → Hp → Prop) : Prop :=
  newC h (.cells #[(.slice A1 l1 c1)] 37 (0, 0)) fun a3 h2 => 
  ∃ A4 : Option Addr, ∃ l4 : Nat, ∃ c4 : Nat, HV Tryz.prog (Instr.loadAt 37 (.pointer (some a3))) h2 (.slice A4 l4 c4) ∧ 
  HW Tryz.prog (Instr.makeSlice 38 (.int .i64 (l4 : Int)) (.int .i64 (l4 : Int))) h2 fun r6 h5 =>
  ∃ A7 : Option Addr, ∃ l7 : Nat, ∃ c7 : Nat, r6 = (.slice A7 l7 c7) ∧ 
  ∃ k440, nest_levelled_l1 a3 A7 l7 c7 (l7 : Int)
  (fun (a18 : Addr) (A19 : Option Addr) (l19 : Nat) (c19 : Nat) (h20 : Hp) =>
  CallsH Tryz.prog 54 #[(.slice A19 l19 c19), (.func (.func 55) #[] #[(.pointer (some a18))])] h20 fun r22 h21 =>
  r22 = (.tuple #[]) ∧ 
  ∃ A23 : Option Addr, ∃ l23 : Nat, ∃ c23 : Nat, HV Tryz.prog (Instr.loadAt 37 (.pointer (some a18))) h21 (.slice A23 l23 c23) ∧ 
  HW Tryz.prog (Instr.makeSlice 38 (.int .i64 (l23 : Int)) (.int .i64 (l23 : Int))) h21 fun r25 h24 =>
  ∃ A26 : Option Addr, ∃ l26 : Nat, ∃ c26 : Nat, r25 = (.slice A26 l26 c26) ∧ 
  ∃ k439, nest_levelled_l5 a18 A19 l19 c19 A26 l26 c26 A19 l19 c19 (l19 : Int)
  (fun (A436 : Option Addr) (l436 : Nat) (c436 : Nat) (A437 : Option Addr) (l437 : Nat) (c437 : Nat) (h438 : Hp) =>
  K (.tuple #[(.slice A436 l436 c436), (.int .i64 (l437 : Int))]) h438)
  k439 none 0 0 0 h24)
  k440 0 h5
def nest_levelled_lp (i : Nat) (Q : Qx) (tm : Tm) (h : Hp) : Prop := match Nat.beq i 58 with
  | true => ∃ k, nest_levelled_l1_L Q k tm h
  | false => match Nat.beq i 260711 with
  | true => nest_levelled_j8_L Q tm h
  | false => match Nat.beq i 65177 with
  | true => nest_levelled_j7_L Q tm h
  | false => match Nat.beq i 1018 with
  | true => ∃ k, nest_levelled_l5_L Q k tm h
  | false => False
def nest_levelled_cut (i : Nat) : Option (List Nat) := match Nat.beq i 65177 with
  | true => some [1, 4, 6, 7, 9, 30, 31, 32]
  | false => match Nat.beq i 260711 with
  | true => some [1, 4, 6, 7, 9, 10, 30, 31, 32]
  | false => none
set_option maxRecDepth 100000 in
theorem nest_levelled_l1_step (Q : Qx) (k : Nat) (a8 : Addr) (A9 : Option Addr) (l9 : Nat) (c9 : Nat) (x10 : Int) (x11 : Int) (h : Hp) : nest_levelled_l1_L Q (k + 1) (mkTm [(1, some (.pointer (some a8))), (4, some (.slice A9 l9 c9)), (15, some (.int .i64 x10)), (16, some (.int .i64 x11))]) h =
    codeWp Tryz.prog 91 nest_levelled_lp nest_levelled_cut (sub (bodyOf Tryz.f37) [true, true, false, true, false, false]) 116 (thenQ (fun tm h => nest_levelled_l1_L Q k (mask [1, 4, 15, 16] tm) h) (maskQ (fun e => match e with | .exit 0 => [1, 4] | _ => []) Q)) (mkTm [(1, some (.pointer (some a8))), (4, some (.slice A9 l9 c9)), (15, some (.int .i64 x10)), (16, some (.int .i64 x11))]) h := by kernel_rfl
theorem nest_levelled_l1_mask (Q : Qx) (k : Nat) (tm : Tm) (h : Hp) : nest_levelled_l1_L Q k tm h ↔ nest_levelled_l1_L Q k (mask [1, 4, 15, 16] tm) h := Iff.rfl
set_option maxRecDepth 100000 in
theorem nest_levelled_l1_snd : SndAt Tryz.prog 91 none (sub (bodyOf Tryz.f37) [true, true, false, true, false]) (nest_levelled_lp 58) := by
  refine loop_sound (lp := nest_levelled_lp) (cut := nest_levelled_cut) (i := 58) (c := (sub (bodyOf Tryz.f37) [true, true, false, true, false, false])) [1, 4, 15, 16] (fun e => match e with | .exit 0 => [1, 4] | _ => []) nest_levelled_l1_L ?_ ?_ ?_
  · exact good_by (c := (sub (bodyOf Tryz.f37) [true, true, false, true, false, false])) (i := 116) (l := []) (by kernel_rfl) (fun _ h => by cases h)
  · intro Q tm h H
    obtain ⟨a8, e1, H⟩ := selA_ex H
    obtain ⟨A9, l9, c9, e4, H⟩ := selS_ex H
    obtain ⟨x10, e15, H⟩ := selI_ex H
    obtain ⟨x11, e16, H⟩ := selI_ex H
    exact H
  · intro Q k tm h H
    have H0 := H
    obtain ⟨a8, e1, H⟩ := selA_ex H
    obtain ⟨A9, l9, c9, e4, H⟩ := selS_ex H
    obtain ⟨x10, e15, H⟩ := selI_ex H
    obtain ⟨x11, e16, H⟩ := selI_ex H
    have e : mask [1, 4, 15, 16] tm = mkTm [(1, some (.pointer (some a8))), (4, some (.slice A9 l9 c9)), (15, some (.int .i64 x10)), (16, some (.int .i64 x11))] := by simp only [mask, List.map_cons, List.map_nil, e1, e4, e15, e16] <;> rfl
    rw [e]
    refine Eq.mp (nest_levelled_l1_step Q k a8 A9 l9 c9 x10 x11 h) ?_
    rw [← e]
    exact (nest_levelled_l1_mask Q (k + 1) tm h).mp H0
set_option maxRecDepth 100000 in
theorem nest_levelled_j8_step (Q : Qx) (a346 : Addr) (A347 : Option Addr) (l347 : Nat) (c347 : Nat) (A348 : Option Addr) (l348 : Nat) (c348 : Nat) (A349 : Option Addr) (l349 : Nat) (c349 : Nat) (a350 : Addr) (x351 : Int) (A352 : Option Addr) (l352 : Nat) (c352 : Nat) (x353 : Int) (x354 : Int) (h : Hp) : nest_levelled_j8_L Q (mkTm [(1, some (.pointer (some a346))), (4, some (.slice A347 l347 c347)), (6, some (.slice A348 l348 c348)), (7, some (.slice A349 l349 c349)), (9, some (.pointer (some a350))), (10, some (.int .i64 x351)), (30, some (.slice A352 l352 c352)), (31, some (.int .i64 x353)), (32, some (.int .i64 x354))]) h =
    codeWp Tryz.prog 91 nest_levelled_lp nest_levelled_cut (sub (bodyOf Tryz.f37) [true, true, true, true, true, true, false, true, false, false, true, true, false, false, true, true, true, true]) 521423 (maskQ (fun e => match e with | .normal => [1, 4, 6, 7, 30, 31, 32] | _ => []) Q) (mkTm [(1, some (.pointer (some a346))), (4, some (.slice A347 l347 c347)), (6, some (.slice A348 l348 c348)), (7, some (.slice A349 l349 c349)), (9, some (.pointer (some a350))), (10, some (.int .i64 x351)), (30, some (.slice A352 l352 c352)), (31, some (.int .i64 x353)), (32, some (.int .i64 x354))]) h := by kernel_rfl
theorem nest_levelled_j8_mask (Q : Qx) (tm : Tm) (h : Hp) : nest_levelled_j8_L Q tm h ↔ nest_levelled_j8_L Q (mask [1, 4, 6, 7, 9, 10, 30, 31, 32] tm) h := Iff.rfl
set_option maxRecDepth 100000 in
theorem nest_levelled_j8_snd : SndAt Tryz.prog 91 none (sub (bodyOf Tryz.f37) [true, true, true, true, true, true, false, true, false, false, true, true, false, false, true, true, true, true]) (nest_levelled_lp 260711) := by
  refine join_sound (lp := nest_levelled_lp) (cut := nest_levelled_cut) (i := 260711) (c := (sub (bodyOf Tryz.f37) [true, true, true, true, true, true, false, true, false, false, true, true, false, false, true, true, true, true])) [1, 4, 6, 7, 9, 10, 30, 31, 32] (fun e => match e with | .normal => [1, 4, 6, 7, 30, 31, 32] | _ => []) nest_levelled_j8_L ?_ ?_
  · exact good_by (c := (sub (bodyOf Tryz.f37) [true, true, true, true, true, true, false, true, false, false, true, true, false, false, true, true, true, true])) (i := 521423) (l := []) (by kernel_rfl) (fun _ h => by cases h)
  · intro Q tm h H
    have H0 := H
    obtain ⟨a346, e1, H⟩ := selA_ex H
    obtain ⟨A347, l347, c347, e4, H⟩ := selS_ex H
    obtain ⟨A348, l348, c348, e6, H⟩ := selS_ex H
    obtain ⟨A349, l349, c349, e7, H⟩ := selS_ex H
    obtain ⟨a350, e9, H⟩ := selA_ex H
    obtain ⟨x351, e10, H⟩ := selI_ex H
    obtain ⟨A352, l352, c352, e30, H⟩ := selS_ex H
    obtain ⟨x353, e31, H⟩ := selI_ex H
    obtain ⟨x354, e32, H⟩ := selI_ex H
    have e : mask [1, 4, 6, 7, 9, 10, 30, 31, 32] tm = mkTm [(1, some (.pointer (some a346))), (4, some (.slice A347 l347 c347)), (6, some (.slice A348 l348 c348)), (7, some (.slice A349 l349 c349)), (9, some (.pointer (some a350))), (10, some (.int .i64 x351)), (30, some (.slice A352 l352 c352)), (31, some (.int .i64 x353)), (32, some (.int .i64 x354))] := by simp only [mask, List.map_cons, List.map_nil, e1, e4, e6, e7, e9, e10, e30, e31, e32] <;> rfl
    rw [e]
    refine Eq.mp (nest_levelled_j8_step Q a346 A347 l347 c347 A348 l348 c348 A349 l349 c349 a350 x351 A352 l352 c352 x353 x354 h) ?_
    rw [← e]
    exact (nest_levelled_j8_mask Q tm h).mp H0
set_option maxRecDepth 100000 in
theorem nest_levelled_j7_step (Q : Qx) (a260 : Addr) (A261 : Option Addr) (l261 : Nat) (c261 : Nat) (A262 : Option Addr) (l262 : Nat) (c262 : Nat) (A263 : Option Addr) (l263 : Nat) (c263 : Nat) (a264 : Addr) (A265 : Option Addr) (l265 : Nat) (c265 : Nat) (x266 : Int) (x267 : Int) (h : Hp) : nest_levelled_j7_L Q (mkTm [(1, some (.pointer (some a260))), (4, some (.slice A261 l261 c261)), (6, some (.slice A262 l262 c262)), (7, some (.slice A263 l263 c263)), (9, some (.pointer (some a264))), (30, some (.slice A265 l265 c265)), (31, some (.int .i64 x266)), (32, some (.int .i64 x267))]) h =
    codeWp Tryz.prog 91 nest_levelled_lp nest_levelled_cut (sub (bodyOf Tryz.f37) [true, true, true, true, true, true, false, true, false, false, true, true, false, false, true, true]) 130355 (maskQ (fun e => match e with | .normal => [1, 4, 6, 7, 30, 31, 32] | _ => []) Q) (mkTm [(1, some (.pointer (some a260))), (4, some (.slice A261 l261 c261)), (6, some (.slice A262 l262 c262)), (7, some (.slice A263 l263 c263)), (9, some (.pointer (some a264))), (30, some (.slice A265 l265 c265)), (31, some (.int .i64 x266)), (32, some (.int .i64 x267))]) h := by kernel_rfl
theorem nest_levelled_j7_mask (Q : Qx) (tm : Tm) (h : Hp) : nest_levelled_j7_L Q tm h ↔ nest_levelled_j7_L Q (mask [1, 4, 6, 7, 9, 30, 31, 32] tm) h := Iff.rfl
set_option maxRecDepth 100000 in
theorem nest_levelled_j7_snd : SndAt Tryz.prog 91 none (sub (bodyOf Tryz.f37) [true, true, true, true, true, true, false, true, false, false, true, true, false, false, true, true]) (nest_levelled_lp 65177) := by
  refine join_sound (lp := nest_levelled_lp) (cut := nest_levelled_cut) (i := 65177) (c := (sub (bodyOf Tryz.f37) [true, true, true, true, true, true, false, true, false, false, true, true, false, false, true, true])) [1, 4, 6, 7, 9, 30, 31, 32] (fun e => match e with | .normal => [1, 4, 6, 7, 30, 31, 32] | _ => []) nest_levelled_j7_L ?_ ?_
  · exact good_by (c := (sub (bodyOf Tryz.f37) [true, true, true, true, true, true, false, true, false, false, true, true, false, false, true, true])) (i := 130355) (l := [(260711, (sub (bodyOf Tryz.f37) [true, true, true, true, true, true, false, true, false, false, true, true, false, false, true, true, true, true]))]) (by kernel_rfl) (List.forall_mem_cons.2 ⟨nest_levelled_j8_snd, (fun _ h => by cases h)⟩)
  · intro Q tm h H
    have H0 := H
    obtain ⟨a260, e1, H⟩ := selA_ex H
    obtain ⟨A261, l261, c261, e4, H⟩ := selS_ex H
    obtain ⟨A262, l262, c262, e6, H⟩ := selS_ex H
    obtain ⟨A263, l263, c263, e7, H⟩ := selS_ex H
    obtain ⟨a264, e9, H⟩ := selA_ex H
    obtain ⟨A265, l265, c265, e30, H⟩ := selS_ex H
    obtain ⟨x266, e31, H⟩ := selI_ex H
    obtain ⟨x267, e32, H⟩ := selI_ex H
    have e : mask [1, 4, 6, 7, 9, 30, 31, 32] tm = mkTm [(1, some (.pointer (some a260))), (4, some (.slice A261 l261 c261)), (6, some (.slice A262 l262 c262)), (7, some (.slice A263 l263 c263)), (9, some (.pointer (some a264))), (30, some (.slice A265 l265 c265)), (31, some (.int .i64 x266)), (32, some (.int .i64 x267))] := by simp only [mask, List.map_cons, List.map_nil, e1, e4, e6, e7, e9, e30, e31, e32] <;> rfl
    rw [e]
    refine Eq.mp (nest_levelled_j7_step Q a260 A261 l261 c261 A262 l262 c262 A263 l263 c263 a264 A265 l265 c265 x266 x267 h) ?_
    rw [← e]
    exact (nest_levelled_j7_mask Q tm h).mp H0
set_option maxRecDepth 100000 in
theorem nest_levelled_l5_step (Q : Qx) (k : Nat) (a27 : Addr) (A28 : Option Addr) (l28 : Nat) (c28 : Nat) (A29 : Option Addr) (l29 : Nat) (c29 : Nat) (A30 : Option Addr) (l30 : Nat) (c30 : Nat) (A31 : Option Addr) (l31 : Nat) (c31 : Nat) (x32 : Int) (x33 : Int) (h : Hp) : nest_levelled_l5_L Q (k + 1) (mkTm [(1, some (.pointer (some a27))), (4, some (.slice A28 l28 c28)), (6, some (.slice A29 l29 c29)), (7, some (.slice A30 l30 c30)), (30, some (.slice A31 l31 c31)), (31, some (.int .i64 x32)), (32, some (.int .i64 x33))]) h =
    codeWp Tryz.prog 91 nest_levelled_lp nest_levelled_cut (sub (bodyOf Tryz.f37) [true, true, true, true, true, true, false, true, false, false]) 2036 (thenQ (fun tm h => nest_levelled_l5_L Q k (mask [1, 4, 6, 7, 30, 31, 32] tm) h) (maskQ (fun e => match e with | .exit 2 => [6, 7] | _ => []) Q)) (mkTm [(1, some (.pointer (some a27))), (4, some (.slice A28 l28 c28)), (6, some (.slice A29 l29 c29)), (7, some (.slice A30 l30 c30)), (30, some (.slice A31 l31 c31)), (31, some (.int .i64 x32)), (32, some (.int .i64 x33))]) h := by kernel_rfl
theorem nest_levelled_l5_mask (Q : Qx) (k : Nat) (tm : Tm) (h : Hp) : nest_levelled_l5_L Q k tm h ↔ nest_levelled_l5_L Q k (mask [1, 4, 6, 7, 30, 31, 32] tm) h := Iff.rfl
set_option maxRecDepth 100000 in
theorem nest_levelled_l5_snd : SndAt Tryz.prog 91 none (sub (bodyOf Tryz.f37) [true, true, true, true, true, true, false, true, false]) (nest_levelled_lp 1018) := by
  refine loop_sound (lp := nest_levelled_lp) (cut := nest_levelled_cut) (i := 1018) (c := (sub (bodyOf Tryz.f37) [true, true, true, true, true, true, false, true, false, false])) [1, 4, 6, 7, 30, 31, 32] (fun e => match e with | .exit 2 => [6, 7] | _ => []) nest_levelled_l5_L ?_ ?_ ?_
  · exact good_by (c := (sub (bodyOf Tryz.f37) [true, true, true, true, true, true, false, true, false, false])) (i := 2036) (l := [(65177, (sub (bodyOf Tryz.f37) [true, true, true, true, true, true, false, true, false, false, true, true, false, false, true, true]))]) (by kernel_rfl) (List.forall_mem_cons.2 ⟨nest_levelled_j7_snd, (fun _ h => by cases h)⟩)
  · intro Q tm h H
    obtain ⟨a27, e1, H⟩ := selA_ex H
    obtain ⟨A28, l28, c28, e4, H⟩ := selS_ex H
    obtain ⟨A29, l29, c29, e6, H⟩ := selS_ex H
    obtain ⟨A30, l30, c30, e7, H⟩ := selS_ex H
    obtain ⟨A31, l31, c31, e30, H⟩ := selS_ex H
    obtain ⟨x32, e31, H⟩ := selI_ex H
    obtain ⟨x33, e32, H⟩ := selI_ex H
    exact H
  · intro Q k tm h H
    have H0 := H
    obtain ⟨a27, e1, H⟩ := selA_ex H
    obtain ⟨A28, l28, c28, e4, H⟩ := selS_ex H
    obtain ⟨A29, l29, c29, e6, H⟩ := selS_ex H
    obtain ⟨A30, l30, c30, e7, H⟩ := selS_ex H
    obtain ⟨A31, l31, c31, e30, H⟩ := selS_ex H
    obtain ⟨x32, e31, H⟩ := selI_ex H
    obtain ⟨x33, e32, H⟩ := selI_ex H
    have e : mask [1, 4, 6, 7, 30, 31, 32] tm = mkTm [(1, some (.pointer (some a27))), (4, some (.slice A28 l28 c28)), (6, some (.slice A29 l29 c29)), (7, some (.slice A30 l30 c30)), (30, some (.slice A31 l31 c31)), (31, some (.int .i64 x32)), (32, some (.int .i64 x33))] := by simp only [mask, List.map_cons, List.map_nil, e1, e4, e6, e7, e30, e31, e32] <;> rfl
    rw [e]
    refine Eq.mp (nest_levelled_l5_step Q k a27 A28 l28 c28 A29 l29 c29 A30 l30 c30 A31 l31 c31 x32 x33 h) ?_
    rw [← e]
    exact (nest_levelled_l5_mask Q (k + 1) tm h).mp H0
set_option maxRecDepth 100000 in
theorem nest_levelled_eq (A1 : Option Addr) (l1 : Nat) (c1 : Nat) (h : Hp) (K : Value → Hp → Prop) : nest_levelled A1 l1 c1 h K =
    codeWp Tryz.prog 91 nest_levelled_lp nest_levelled_cut (bodyOf Tryz.f37) 1 (endQ Tryz.prog Tryz.f37.results.toList K) (argTm [(.slice A1 l1 c1)]) h := by kernel_rfl
set_option maxRecDepth 100000 in
theorem nest_levelled_ok (A1 : Option Addr) (l1 : Nat) (c1 : Nat) {h : Hp} {K : Value → Hp → Prop} (H : nest_levelled A1 l1 c1 h K) : CallsH Tryz.prog 37 #[(.slice A1 l1 c1)] h K :=
  calls_of (args := [(.slice A1 l1 c1)]) (n := 91) (lp := nest_levelled_lp) (cut := nest_levelled_cut) Tryz.func37 (c := bodyOf Tryz.f37) (by kernel_rfl) (by kernel_rfl) (by kernel_rfl) (good_by (c := (bodyOf Tryz.f37)) (i := 1) (l := [(58, (sub (bodyOf Tryz.f37) [true, true, false, true, false])), (1018, (sub (bodyOf Tryz.f37) [true, true, true, true, true, true, false, true, false]))]) (by kernel_rfl) (List.forall_mem_cons.2 ⟨nest_levelled_l1_snd, (List.forall_mem_cons.2 ⟨nest_levelled_l5_snd, (fun _ h => by cases h)⟩)⟩))
    (Eq.mp (nest_levelled_eq A1 l1 c1 h K) H)

/-! ### quintet/nest.list$1: function 41 -/
def nest_list_1 (x1 : Int) (x2 : Int) (x3 : Int) (x4 : Int) (x5 : Int) (x6 : Int) (x7 : Int) (x8 : Int) (x9 : Int) (x10 : Int) (x11 : Int) (x12 : Int) (a13 : Addr) (h : Hp) (K : Value → Hp → Prop) : Prop :=
  newC h (.cells #[(.int .i64 x1), (.int .u32 x2), (.int .i64 x3), (.int .u32 x4), (.int .i64 x5), (.int .u16 x6), (.int .u16 x7), (.int .u16 x8), (.int .u16 x9), (.int .u8 x10), (.int .u8 x11), (.int .i64 x12)] 49 (0, 0)) fun a15 h14 => 
  ∃ x16 : Int, HV Tryz.prog (Instr.loadAt 3 (.pointer (some a15))) h14 (.int .i64 x16) ∧ 
  ∃ x17 : Int, HV Tryz.prog (Instr.loadAt 3 (.pointer (some a13))) h14 (.int .i64 x17) ∧ 
  K (.bool (x16 == x17)) h14
def nest_list_1_lp (i : Nat) (Q : Qx) (tm : Tm) (h : Hp) : Prop := False
def nest_list_1_cut (i : Nat) : Option (List Nat) := none
set_option maxRecDepth 100000 in
theorem nest_list_1_eq (x1 : Int) (x2 : Int) (x3 : Int) (x4 : Int) (x5 : Int) (x6 : Int) (x7 : Int) (x8 : Int) (x9 : Int) (x10 : Int) (x11 : Int) (x12 : Int) (a13 : Addr) (h : Hp) (K : Value → Hp → Prop) : nest_list_1 x1 x2 x3 x4 x5 x6 x7 x8 x9 x10 x11 x12 a13 h K =
    codeWp Tryz.prog 9 nest_list_1_lp nest_list_1_cut (bodyOf Tryz.f41) 1 (endQ Tryz.prog Tryz.f41.results.toList K) (argTm [(.agg #[(.int .i64 x1), (.int .u32 x2), (.int .i64 x3), (.int .u32 x4), (.int .i64 x5), (.int .u16 x6), (.int .u16 x7), (.int .u16 x8), (.int .u16 x9), (.int .u8 x10), (.int .u8 x11), (.int .i64 x12)]), (.pointer (some a13))]) h := by kernel_rfl
set_option maxRecDepth 100000 in
theorem nest_list_1_ok (x1 : Int) (x2 : Int) (x3 : Int) (x4 : Int) (x5 : Int) (x6 : Int) (x7 : Int) (x8 : Int) (x9 : Int) (x10 : Int) (x11 : Int) (x12 : Int) (a13 : Addr) {h : Hp} {K : Value → Hp → Prop} (H : nest_list_1 x1 x2 x3 x4 x5 x6 x7 x8 x9 x10 x11 x12 a13 h K) : CallsH Tryz.prog 41 #[(.agg #[(.int .i64 x1), (.int .u32 x2), (.int .i64 x3), (.int .u32 x4), (.int .i64 x5), (.int .u16 x6), (.int .u16 x7), (.int .u16 x8), (.int .u16 x9), (.int .u8 x10), (.int .u8 x11), (.int .i64 x12)]), (.pointer (some a13))] h K :=
  calls_of (args := [(.agg #[(.int .i64 x1), (.int .u32 x2), (.int .i64 x3), (.int .u32 x4), (.int .i64 x5), (.int .u16 x6), (.int .u16 x7), (.int .u16 x8), (.int .u16 x9), (.int .u8 x10), (.int .u8 x11), (.int .i64 x12)]), (.pointer (some a13))]) (n := 9) (lp := nest_list_1_lp) (cut := nest_list_1_cut) Tryz.func41 (c := bodyOf Tryz.f41) (by kernel_rfl) (by kernel_rfl) (by kernel_rfl) (good_by (c := (bodyOf Tryz.f41)) (i := 1) (l := []) (by kernel_rfl) (fun _ h => by cases h))
    (Eq.mp (nest_list_1_eq x1 x2 x3 x4 x5 x6 x7 x8 x9 x10 x11 x12 a13 h K) H)

/-! ### quintet/nest.levelled$1: function 55 -/
def nest_levelled_1 (x1 : Int) (x2 : Int) (a3 : Addr) (h : Hp) (K : Value → Hp → Prop) : Prop :=
  ∃ A4 : Option Addr, ∃ l4 : Nat, ∃ c4 : Nat, HV Tryz.prog (Instr.loadAt 37 (.pointer (some a3))) h (.slice A4 l4 c4) ∧ 
  ∃ a5 : Addr, PV Tryz.prog (Instr.indexAt 37 (.slice A4 l4 c4) (.int .i64 x1)) (.pointer (some a5)) ∧
  ∃ x6 : Int, HV Tryz.prog (Instr.loadAt 24 (.pointer (some a5))) h (.int .u16 x6) ∧ 
  ∃ A7 : Option Addr, ∃ l7 : Nat, ∃ c7 : Nat, HV Tryz.prog (Instr.loadAt 37 (.pointer (some a3))) h (.slice A7 l7 c7) ∧ 
  ∃ a8 : Addr, PV Tryz.prog (Instr.indexAt 37 (.slice A7 l7 c7) (.int .i64 x2)) (.pointer (some a8)) ∧
  ∃ x9 : Int, HV Tryz.prog (Instr.loadAt 24 (.pointer (some a8))) h (.int .u16 x9) ∧ 
  CallsH Tryz.prog 57 #[(.int .u16 x6), (.int .u16 x9)] h fun r11 h10 =>
  ∃ x12 : Int, r11 = (.int .i64 x12) ∧ 
  ∃ A13 : Option Addr, ∃ l13 : Nat, ∃ c13 : Nat, HV Tryz.prog (Instr.loadAt 37 (.pointer (some a3))) h10 (.slice A13 l13 c13) ∧ HV Tryz.prog (Instr.loadAt 37 (.pointer (some a3))) h (.slice A13 l13 c13) ∧ 
  ∃ a14 : Addr, PV Tryz.prog (Instr.indexAt 37 (.slice A13 l13 c13) (.int .i64 x2)) (.pointer (some a14)) ∧
  ∃ x15 : Int, HV Tryz.prog (Instr.loadAt 24 (.pointer (some (a14.add 1)))) h10 (.int .u16 x15) ∧ HV Tryz.prog (Instr.loadAt 24 (.pointer (some (a14.add 1)))) h (.int .u16 x15) ∧ 
  ∃ A16 : Option Addr, ∃ l16 : Nat, ∃ c16 : Nat, HV Tryz.prog (Instr.loadAt 37 (.pointer (some a3))) h10 (.slice A16 l16 c16) ∧ HV Tryz.prog (Instr.loadAt 37 (.pointer (some a3))) h (.slice A16 l16 c16) ∧ 
  ∃ a17 : Addr, PV Tryz.prog (Instr.indexAt 37 (.slice A16 l16 c16) (.int .i64 x1)) (.pointer (some a17)) ∧
  ∃ x18 : Int, HV Tryz.prog (Instr.loadAt 24 (.pointer (some (a17.add 1)))) h10 (.int .u16 x18) ∧ HV Tryz.prog (Instr.loadAt 24 (.pointer (some (a17.add 1)))) h (.int .u16 x18) ∧ 
  CallsH Tryz.prog 57 #[(.int .u16 x15), (.int .u16 x18)] h10 fun r20 h19 =>
  ∃ x21 : Int, r20 = (.int .i64 x21) ∧ 
  newC h19 (.cells #[(.int .i64 x12), (.int .i64 x21)] 3 (0, 0)) fun a23 h22 => 
  CallsH Tryz.prog 56 #[(.slice (some a23) 2 2)] h22 fun r25 h24 =>
  ∃ x26 : Int, r25 = (.int .i64 x26) ∧ 
  K (.int .i64 x26) h24
def nest_levelled_1_lp (i : Nat) (Q : Qx) (tm : Tm) (h : Hp) : Prop := False
def nest_levelled_1_cut (i : Nat) : Option (List Nat) := none
set_option maxRecDepth 100000 in
theorem nest_levelled_1_eq (x1 : Int) (x2 : Int) (a3 : Addr) (h : Hp) (K : Value → Hp → Prop) : nest_levelled_1 x1 x2 a3 h K =
    codeWp Tryz.prog 30 nest_levelled_1_lp nest_levelled_1_cut (bodyOf Tryz.f55) 1 (endQ Tryz.prog Tryz.f55.results.toList K) (argTm [(.int .i64 x1), (.int .i64 x2), (.pointer (some a3))]) h := by kernel_rfl
set_option maxRecDepth 100000 in
theorem nest_levelled_1_ok (x1 : Int) (x2 : Int) (a3 : Addr) {h : Hp} {K : Value → Hp → Prop} (H : nest_levelled_1 x1 x2 a3 h K) : CallsH Tryz.prog 55 #[(.int .i64 x1), (.int .i64 x2), (.pointer (some a3))] h K :=
  calls_of (args := [(.int .i64 x1), (.int .i64 x2), (.pointer (some a3))]) (n := 30) (lp := nest_levelled_1_lp) (cut := nest_levelled_1_cut) Tryz.func55 (c := bodyOf Tryz.f55) (by kernel_rfl) (by kernel_rfl) (by kernel_rfl) (good_by (c := (bodyOf Tryz.f55)) (i := 1) (l := []) (by kernel_rfl) (fun _ h => by cases h))
    (Eq.mp (nest_levelled_1_eq x1 x2 a3 h K) H)

/-! ### quintet/nest.levelled$2: function 59 -/
def nest_levelled_2 (x1 : Int) (a2 : Addr) (a3 : Addr) (h : Hp) (K : Value → Hp → Prop) : Prop :=
  ∃ A4 : Option Addr, ∃ l4 : Nat, ∃ c4 : Nat, HV Tryz.prog (Instr.loadAt 37 (.pointer (some a2))) h (.slice A4 l4 c4) ∧ 
  ∃ x5 : Int, HV Tryz.prog (Instr.loadAt 3 (.pointer (some a3))) h (.int .i64 x5) ∧ 
  ∃ a6 : Addr, PV Tryz.prog (Instr.indexAt 37 (.slice A4 l4 c4) (.int .i64 x5)) (.pointer (some a6)) ∧
  ∃ x7 : Int, HV Tryz.prog (Instr.loadAt 24 (.pointer (some a6))) h (.int .u16 x7) ∧ 
  K (.bool (decide (x1 < x7))) h
def nest_levelled_2_lp (i : Nat) (Q : Qx) (tm : Tm) (h : Hp) : Prop := False
def nest_levelled_2_cut (i : Nat) : Option (List Nat) := none
set_option maxRecDepth 100000 in
theorem nest_levelled_2_eq (x1 : Int) (a2 : Addr) (a3 : Addr) (h : Hp) (K : Value → Hp → Prop) : nest_levelled_2 x1 a2 a3 h K =
    codeWp Tryz.prog 12 nest_levelled_2_lp nest_levelled_2_cut (bodyOf Tryz.f59) 1 (endQ Tryz.prog Tryz.f59.results.toList K) (argTm [(.int .u16 x1), (.pointer (some a2)), (.pointer (some a3))]) h := by kernel_rfl
set_option maxRecDepth 100000 in
theorem nest_levelled_2_ok (x1 : Int) (a2 : Addr) (a3 : Addr) {h : Hp} {K : Value → Hp → Prop} (H : nest_levelled_2 x1 a2 a3 h K) : CallsH Tryz.prog 59 #[(.int .u16 x1), (.pointer (some a2)), (.pointer (some a3))] h K :=
  calls_of (args := [(.int .u16 x1), (.pointer (some a2)), (.pointer (some a3))]) (n := 12) (lp := nest_levelled_2_lp) (cut := nest_levelled_2_cut) Tryz.func59 (c := bodyOf Tryz.f59) (by kernel_rfl) (by kernel_rfl) (by kernel_rfl) (good_by (c := (bodyOf Tryz.f59)) (i := 1) (l := []) (by kernel_rfl) (fun _ h => by cases h))
    (Eq.mp (nest_levelled_2_eq x1 a2 a3 h K) H)

/-! ### quintet/rule.Check: function 31 -/
def rule_Check_l3 (a89 : Addr) (x90 : Int) (x91 : Int) (x92 : Int) (x93 : Int) (x94 : Int) (K0 : Int → Int → Hp → Prop) (K1 : Addr → Hp → Prop)  : Nat → Int → Hp → Prop
  | 0, _, _ => False
  | k + 1, x95, h =>
    br (decide (x95 < 5))
    (∃ x100 : Int, PV Tryz.prog (Instr.index 79 (.agg #[(.int .i64 x90), (.int .i64 x91), (.int .i64 x92), (.int .i64 x93), (.int .i64 x94)]) (.int .i64 x95)) (.int .i64 x100) ∧
    br (x100 != 0)
    (K0 x100 (IntKind.i64.wrap (x95 + 2)) h)
    (rule_Check_l3 a89 x90 x91 x92 x93 x94 K0 K1 k (IntKind.i64.wrap (x95 + 1)) h))
    (K1 a89 h)
def rule_Check_l3_L (Q : Qx) (k : Nat) (tm : Tm) (h : Hp) : Prop :=
  selA (tm 1) fun a89 =>
  selAg (tm 29) fun m29_0 =>
  selC m29_0 fun u29_0 m29_1 =>
  selC m29_1 fun u29_1 m29_2 =>
  selC m29_2 fun u29_2 m29_3 =>
  selC m29_3 fun u29_3 m29_4 =>
  selC m29_4 fun u29_4 m29_5 =>
  selN m29_5
  (selI .i64 (some u29_0) fun x90 =>
  selI .i64 (some u29_1) fun x91 =>
  selI .i64 (some u29_2) fun x92 =>
  selI .i64 (some u29_3) fun x93 =>
  selI .i64 (some u29_4) fun x94 =>
  selI .i64 (tm 30) fun x95 =>
  rule_Check_l3 a89 x90 x91 x92 x93 x94 (fun (x97 : Int) (x98 : Int) h => Q (.ret) (mkTm [(2, some (.int .i64 x97)), (3, some (.int .i64 x98))]) h) (fun (a99 : Addr) h => Q (.exit 0) (mkTm [(1, some (.pointer (some a99)))]) h) k x95 h)
def rule_Check_j2 (K0 : Int → Int → Hp → Prop) (a17 : Addr) (h : Hp) : Prop :=
  ∃ x64 : Int, ∃ x65 : Int, HV Tryz.prog (Instr.loadAt 45 (.pointer (some (a17.add 1)))) h (.agg #[(.int .u32 x64), (.int .i64 x65)]) ∧ 
  CallsH Tryz.prog 45 #[(.agg #[(.int .u32 x64), (.int .i64 x65)])] h fun r67 h66 =>
  ∃ x68 : Int, r67 = (.int .i64 x68) ∧ 
  ∃ x69 : Int, ∃ x70 : Int, HV Tryz.prog (Instr.loadAt 45 (.pointer (some (a17.add 3)))) h66 (.agg #[(.int .u32 x69), (.int .i64 x70)]) ∧ HV Tryz.prog (Instr.loadAt 45 (.pointer (some (a17.add 3)))) h (.agg #[(.int .u32 x69), (.int .i64 x70)]) ∧ 
  CallsH Tryz.prog 45 #[(.agg #[(.int .u32 x69), (.int .i64 x70)])] h66 fun r72 h71 =>
  ∃ x73 : Int, r72 = (.int .i64 x73) ∧ 
  ∃ x74 : Int, ∃ x75 : Int, HV Tryz.prog (Instr.loadAt 36 (.pointer (some (a17.add 5)))) h71 (.agg #[(.int .u16 x74), (.int .u16 x75)]) ∧ HV Tryz.prog (Instr.loadAt 36 (.pointer (some (a17.add 5)))) h66 (.agg #[(.int .u16 x74), (.int .u16 x75)]) ∧ HV Tryz.prog (Instr.loadAt 36 (.pointer (some (a17.add 5)))) h (.agg #[(.int .u16 x74), (.int .u16 x75)]) ∧ 
  CallsH Tryz.prog 50 #[(.agg #[(.int .u16 x74), (.int .u16 x75)])] h71 fun r77 h76 =>
  ∃ x78 : Int, r77 = (.int .i64 x78) ∧ 
  ∃ x79 : Int, ∃ x80 : Int, HV Tryz.prog (Instr.loadAt 36 (.pointer (some (a17.add 7)))) h76 (.agg #[(.int .u16 x79), (.int .u16 x80)]) ∧ HV Tryz.prog (Instr.loadAt 36 (.pointer (some (a17.add 7)))) h71 (.agg #[(.int .u16 x79), (.int .u16 x80)]) ∧ HV Tryz.prog (Instr.loadAt 36 (.pointer (some (a17.add 7)))) h66 (.agg #[(.int .u16 x79), (.int .u16 x80)]) ∧ HV Tryz.prog (Instr.loadAt 36 (.pointer (some (a17.add 7)))) h (.agg #[(.int .u16 x79), (.int .u16 x80)]) ∧ 
  CallsH Tryz.prog 50 #[(.agg #[(.int .u16 x79), (.int .u16 x80)])] h76 fun r82 h81 =>
  ∃ x83 : Int, r82 = (.int .i64 x83) ∧ 
  ∃ x84 : Int, ∃ x85 : Int, HV Tryz.prog (Instr.loadAt 47 (.pointer (some (a17.add 9)))) h81 (.agg #[(.int .u8 x84), (.int .u8 x85)]) ∧ HV Tryz.prog (Instr.loadAt 47 (.pointer (some (a17.add 9)))) h76 (.agg #[(.int .u8 x84), (.int .u8 x85)]) ∧ HV Tryz.prog (Instr.loadAt 47 (.pointer (some (a17.add 9)))) h71 (.agg #[(.int .u8 x84), (.int .u8 x85)]) ∧ HV Tryz.prog (Instr.loadAt 47 (.pointer (some (a17.add 9)))) h66 (.agg #[(.int .u8 x84), (.int .u8 x85)]) ∧ HV Tryz.prog (Instr.loadAt 47 (.pointer (some (a17.add 9)))) h (.agg #[(.int .u8 x84), (.int .u8 x85)]) ∧ 
  CallsH Tryz.prog 51 #[(.agg #[(.int .u8 x84), (.int .u8 x85)])] h81 fun r87 h86 =>
  ∃ x88 : Int, r87 = (.int .i64 x88) ∧ 
  ∃ k107, rule_Check_l3 a17 x68 x73 x78 x83 x88
  (fun (x101 : Int) (x102 : Int) (h103 : Hp) =>
  K0 x101 x102 h103)
  (fun (a104 : Addr) (h105 : Hp) =>
  ∃ x106 : Int, HV Tryz.prog (Instr.loadAt 43 (.pointer (some (a104.add 11)))) h105 (.int .i64 x106) ∧ 
  br (x106 == 1)
  (K0 0 0 h105)
  (br (x106 == 2)
  (K0 0 0 h105)
  (br (x106 == 3)
  (K0 0 0 h105)
  (br (x106 == 4)
  (K0 0 0 h105)
  (K0 81 7 h105)))))
  k107 0 h86
def rule_Check_j2_L (Q : Qx) (tm : Tm) (h : Hp) : Prop :=
  selA (tm 1) fun a17 =>
  rule_Check_j2 (fun (x62 : Int) (x63 : Int) h => Q (.ret) (mkTm [(2, some (.int .i64 x62)), (3, some (.int .i64 x63))]) h) a17 h
def rule_Check (x1 : Int) (x2 : Int) (x3 : Int) (x4 : Int) (x5 : Int) (x6 : Int) (x7 : Int) (x8 : Int) (x9 : Int) (x10 : Int) (x11 : Int) (x12 : Int) (h : Hp) (K : Value → Hp → Prop) : Prop :=
  newC h (.cells #[(.int .i64 x1), (.int .u32 x2), (.int .i64 x3), (.int .u32 x4), (.int .i64 x5), (.int .u16 x6), (.int .u16 x7), (.int .u16 x8), (.int .u16 x9), (.int .u8 x10), (.int .u8 x11), (.int .i64 x12)] 49 (0, 0)) fun a14 h13 => 
  ∃ x108 : Int, HV Tryz.prog (Instr.loadAt 3 (.pointer (some a14))) h13 (.int .i64 x108) ∧ 
  br (decide (x108 < 1))
  (K (.tuple #[(.int .i64 80), (.int .i64 1)]) h13)
  (∃ x109 : Int, HV Tryz.prog (Instr.loadAt 3 (.pointer (some a14))) h13 (.int .i64 x109) ∧ 
  br (decide (x109 > 999999))
  (K (.tuple #[(.int .i64 80), (.int .i64 1)]) h13)
  (rule_Check_j2
  (fun (x110 : Int) (x111 : Int) (h112 : Hp) =>
  K (.tuple #[(.int .i64 x110), (.int .i64 x111)]) h112)
  a14 h13))
def rule_Check_lp (i : Nat) (Q : Qx) (tm : Tm) (h : Hp) : Prop := match Nat.beq i 58 with
  | true => ∃ k, rule_Check_l3_L Q k tm h
  | false => match Nat.beq i 3 with
  | true => rule_Check_j2_L Q tm h
  | false => False
def rule_Check_cut (i : Nat) : Option (List Nat) := match Nat.beq i 3 with
  | true => some [1]
  | false => none
set_option maxRecDepth 100000 in
theorem rule_Check_l3_step (Q : Qx) (k : Nat) (a89 : Addr) (x90 : Int) (x91 : Int) (x92 : Int) (x93 : Int) (x94 : Int) (x95 : Int) (h : Hp) : rule_Check_l3_L Q (k + 1) (mkTm [(1, some (.pointer (some a89))), (29, some (.agg #[(.int .i64 x90), (.int .i64 x91), (.int .i64 x92), (.int .i64 x93), (.int .i64 x94)])), (30, some (.int .i64 x95))]) h =
    codeWp Tryz.prog 47 rule_Check_lp rule_Check_cut (sub (bodyOf Tryz.f31) [true, true, false, true, false, false]) 116 (thenQ (fun tm h => rule_Check_l3_L Q k (mask [1, 29, 30] tm) h) (maskQ (fun e => match e with | .ret => [2, 3] | .exit 0 => [1] | _ => []) Q)) (mkTm [(1, some (.pointer (some a89))), (29, some (.agg #[(.int .i64 x90), (.int .i64 x91), (.int .i64 x92), (.int .i64 x93), (.int .i64 x94)])), (30, some (.int .i64 x95))]) h := by kernel_rfl
theorem rule_Check_l3_mask (Q : Qx) (k : Nat) (tm : Tm) (h : Hp) : rule_Check_l3_L Q k tm h ↔ rule_Check_l3_L Q k (mask [1, 29, 30] tm) h := Iff.rfl
set_option maxRecDepth 100000 in
theorem rule_Check_l3_snd : SndAt Tryz.prog 47 none (sub (bodyOf Tryz.f31) [true, true, false, true, false]) (rule_Check_lp 58) := by
  refine loop_sound (lp := rule_Check_lp) (cut := rule_Check_cut) (i := 58) (c := (sub (bodyOf Tryz.f31) [true, true, false, true, false, false])) [1, 29, 30] (fun e => match e with | .ret => [2, 3] | .exit 0 => [1] | _ => []) rule_Check_l3_L ?_ ?_ ?_
  · exact good_by (c := (sub (bodyOf Tryz.f31) [true, true, false, true, false, false])) (i := 116) (l := []) (by kernel_rfl) (fun _ h => by cases h)
  · intro Q tm h H
    obtain ⟨a89, e1, H⟩ := selA_ex H
    obtain ⟨m29_0, e29, H⟩ := selAg_ex H
    obtain ⟨u29_0, m29_1, f, G⟩ := selC_ex H
    clear H
    subst f
    have H := G
    clear G
    obtain ⟨u29_1, m29_2, f, G⟩ := selC_ex H
    clear H
    subst f
    have H := G
    clear G
    obtain ⟨u29_2, m29_3, f, G⟩ := selC_ex H
    clear H
    subst f
    have H := G
    clear G
    obtain ⟨u29_3, m29_4, f, G⟩ := selC_ex H
    clear H
    subst f
    have H := G
    clear G
    obtain ⟨u29_4, m29_5, f, G⟩ := selC_ex H
    clear H
    subst f
    have H := G
    clear G
    obtain ⟨f, G⟩ := selN_ex H
    clear H
    subst f
    have H := G
    clear G
    obtain ⟨x90, f, G⟩ := selI_ex H
    clear H
    have H := G
    clear G
    obtain rfl := Option.some.inj f
    obtain ⟨x91, f, G⟩ := selI_ex H
    clear H
    have H := G
    clear G
    obtain rfl := Option.some.inj f
    obtain ⟨x92, f, G⟩ := selI_ex H
    clear H
    have H := G
    clear G
    obtain rfl := Option.some.inj f
    obtain ⟨x93, f, G⟩ := selI_ex H
    clear H
    have H := G
    clear G
    obtain rfl := Option.some.inj f
    obtain ⟨x94, f, G⟩ := selI_ex H
    clear H
    have H := G
    clear G
    obtain rfl := Option.some.inj f
    obtain ⟨x95, e30, H⟩ := selI_ex H
    exact H
  · intro Q k tm h H
    have H0 := H
    obtain ⟨a89, e1, H⟩ := selA_ex H
    obtain ⟨m29_0, e29, H⟩ := selAg_ex H
    obtain ⟨u29_0, m29_1, f, G⟩ := selC_ex H
    clear H
    subst f
    have H := G
    clear G
    obtain ⟨u29_1, m29_2, f, G⟩ := selC_ex H
    clear H
    subst f
    have H := G
    clear G
    obtain ⟨u29_2, m29_3, f, G⟩ := selC_ex H
    clear H
    subst f
    have H := G
    clear G
    obtain ⟨u29_3, m29_4, f, G⟩ := selC_ex H
    clear H
    subst f
    have H := G
    clear G
    obtain ⟨u29_4, m29_5, f, G⟩ := selC_ex H
    clear H
    subst f
    have H := G
    clear G
    obtain ⟨f, G⟩ := selN_ex H
    clear H
    subst f
    have H := G
    clear G
    obtain ⟨x90, f, G⟩ := selI_ex H
    clear H
    have H := G
    clear G
    obtain rfl := Option.some.inj f
    obtain ⟨x91, f, G⟩ := selI_ex H
    clear H
    have H := G
    clear G
    obtain rfl := Option.some.inj f
    obtain ⟨x92, f, G⟩ := selI_ex H
    clear H
    have H := G
    clear G
    obtain rfl := Option.some.inj f
    obtain ⟨x93, f, G⟩ := selI_ex H
    clear H
    have H := G
    clear G
    obtain rfl := Option.some.inj f
    obtain ⟨x94, f, G⟩ := selI_ex H
    clear H
    have H := G
    clear G
    obtain rfl := Option.some.inj f
    obtain ⟨x95, e30, H⟩ := selI_ex H
    have e : mask [1, 29, 30] tm = mkTm [(1, some (.pointer (some a89))), (29, some (.agg #[(.int .i64 x90), (.int .i64 x91), (.int .i64 x92), (.int .i64 x93), (.int .i64 x94)])), (30, some (.int .i64 x95))] := by simp only [mask, List.map_cons, List.map_nil, e1, e29, e30] <;> rfl
    rw [e]
    refine Eq.mp (rule_Check_l3_step Q k a89 x90 x91 x92 x93 x94 x95 h) ?_
    rw [← e]
    exact (rule_Check_l3_mask Q (k + 1) tm h).mp H0
set_option maxRecDepth 100000 in
theorem rule_Check_j2_step (Q : Qx) (a17 : Addr) (h : Hp) : rule_Check_j2_L Q (mkTm [(1, some (.pointer (some a17)))]) h =
    codeWp Tryz.prog 47 rule_Check_lp rule_Check_cut (sub (bodyOf Tryz.f31) [true, true]) 7 (maskQ (fun e => match e with | .ret => [2, 3] | _ => []) Q) (mkTm [(1, some (.pointer (some a17)))]) h := by kernel_rfl
theorem rule_Check_j2_mask (Q : Qx) (tm : Tm) (h : Hp) : rule_Check_j2_L Q tm h ↔ rule_Check_j2_L Q (mask [1] tm) h := Iff.rfl
set_option maxRecDepth 100000 in
theorem rule_Check_j2_snd : SndAt Tryz.prog 47 none (sub (bodyOf Tryz.f31) [true, true]) (rule_Check_lp 3) := by
  refine join_sound (lp := rule_Check_lp) (cut := rule_Check_cut) (i := 3) (c := (sub (bodyOf Tryz.f31) [true, true])) [1] (fun e => match e with | .ret => [2, 3] | _ => []) rule_Check_j2_L ?_ ?_
  · exact good_by (c := (sub (bodyOf Tryz.f31) [true, true])) (i := 7) (l := [(58, (sub (bodyOf Tryz.f31) [true, true, false, true, false]))]) (by kernel_rfl) (List.forall_mem_cons.2 ⟨rule_Check_l3_snd, (fun _ h => by cases h)⟩)
  · intro Q tm h H
    have H0 := H
    obtain ⟨a17, e1, H⟩ := selA_ex H
    have e : mask [1] tm = mkTm [(1, some (.pointer (some a17)))] := by simp only [mask, List.map_cons, List.map_nil, e1] <;> rfl
    rw [e]
    refine Eq.mp (rule_Check_j2_step Q a17 h) ?_
    rw [← e]
    exact (rule_Check_j2_mask Q tm h).mp H0
set_option maxRecDepth 100000 in
theorem rule_Check_eq (x1 : Int) (x2 : Int) (x3 : Int) (x4 : Int) (x5 : Int) (x6 : Int) (x7 : Int) (x8 : Int) (x9 : Int) (x10 : Int) (x11 : Int) (x12 : Int) (h : Hp) (K : Value → Hp → Prop) : rule_Check x1 x2 x3 x4 x5 x6 x7 x8 x9 x10 x11 x12 h K =
    codeWp Tryz.prog 47 rule_Check_lp rule_Check_cut (bodyOf Tryz.f31) 1 (endQ Tryz.prog Tryz.f31.results.toList K) (argTm [(.agg #[(.int .i64 x1), (.int .u32 x2), (.int .i64 x3), (.int .u32 x4), (.int .i64 x5), (.int .u16 x6), (.int .u16 x7), (.int .u16 x8), (.int .u16 x9), (.int .u8 x10), (.int .u8 x11), (.int .i64 x12)])]) h := by kernel_rfl
set_option maxRecDepth 100000 in
theorem rule_Check_ok (x1 : Int) (x2 : Int) (x3 : Int) (x4 : Int) (x5 : Int) (x6 : Int) (x7 : Int) (x8 : Int) (x9 : Int) (x10 : Int) (x11 : Int) (x12 : Int) {h : Hp} {K : Value → Hp → Prop} (H : rule_Check x1 x2 x3 x4 x5 x6 x7 x8 x9 x10 x11 x12 h K) : CallsH Tryz.prog 31 #[(.agg #[(.int .i64 x1), (.int .u32 x2), (.int .i64 x3), (.int .u32 x4), (.int .i64 x5), (.int .u16 x6), (.int .u16 x7), (.int .u16 x8), (.int .u16 x9), (.int .u8 x10), (.int .u8 x11), (.int .i64 x12)])] h K :=
  calls_of (args := [(.agg #[(.int .i64 x1), (.int .u32 x2), (.int .i64 x3), (.int .u32 x4), (.int .i64 x5), (.int .u16 x6), (.int .u16 x7), (.int .u16 x8), (.int .u16 x9), (.int .u8 x10), (.int .u8 x11), (.int .i64 x12)])]) (n := 47) (lp := rule_Check_lp) (cut := rule_Check_cut) Tryz.func31 (c := bodyOf Tryz.f31) (by kernel_rfl) (by kernel_rfl) (by kernel_rfl) (good_by (c := (bodyOf Tryz.f31)) (i := 1) (l := [(3, (sub (bodyOf Tryz.f31) [true, true]))]) (by kernel_rfl) (List.forall_mem_cons.2 ⟨rule_Check_j2_snd, (fun _ h => by cases h)⟩))
    (Eq.mp (rule_Check_eq x1 x2 x3 x4 x5 x6 x7 x8 x9 x10 x11 x12 h K) H)

/-! ### quintet/prefix.Within: function 25 -/
def prefix_Within (x1 : Int) (x2 : Int) (x3 : Int) (x4 : Int) (h : Hp) (K : Value → Hp → Prop) : Prop :=
  newC h (.cells #[(.int .u32 x1), (.int .i64 x2)] 45 (0, 0)) fun a6 h5 => 
  newC h5 (.cells #[(.int .u32 x3), (.int .i64 x4)] 45 (0, 0)) fun a8 h7 => 
  ∃ x9 : Int, ∃ x10 : Int, HV Tryz.prog (Instr.loadAt 45 (.pointer (some a6))) h7 (.agg #[(.int .u32 x9), (.int .i64 x10)]) ∧ 
  CallsH Tryz.prog 45 #[(.agg #[(.int .u32 x9), (.int .i64 x10)])] h7 fun r12 h11 =>
  ∃ x13 : Int, r12 = (.int .i64 x13) ∧ 
  br (x13 == 0)
  (∃ x14 : Int, HV Tryz.prog (Instr.loadAt 3 (.pointer (some (a8.add 1)))) h11 (.int .i64 x14) ∧ 
  ∃ x15 : Int, HV Tryz.prog (Instr.loadAt 3 (.pointer (some (a6.add 1)))) h11 (.int .i64 x15) ∧ 
  br (decide (x14 ≤ x15))
  (∃ x16 : Int, ∃ x17 : Int, HV Tryz.prog (Instr.loadAt 45 (.pointer (some a8))) h11 (.agg #[(.int .u32 x16), (.int .i64 x17)]) ∧ 
  ∃ x18 : Int, HV Tryz.prog (Instr.loadAt 23 (.pointer (some a6))) h11 (.int .u32 x18) ∧ 
  CallsH Tryz.prog 32 #[(.agg #[(.int .u32 x16), (.int .i64 x17)]), (.int .u32 x18)] h11 fun r20 h19 =>
  ∃ b21 : Bool, r20 = (.bool b21) ∧ 
  K (.bool b21) h19)
  (K (.bool false) h11))
  (K (.bool false) h11)
def prefix_Within_lp (i : Nat) (Q : Qx) (tm : Tm) (h : Hp) : Prop := False
def prefix_Within_cut (i : Nat) : Option (List Nat) := none
set_option maxRecDepth 100000 in
theorem prefix_Within_eq (x1 : Int) (x2 : Int) (x3 : Int) (x4 : Int) (h : Hp) (K : Value → Hp → Prop) : prefix_Within x1 x2 x3 x4 h K =
    codeWp Tryz.prog 21 prefix_Within_lp prefix_Within_cut (bodyOf Tryz.f25) 1 (endQ Tryz.prog Tryz.f25.results.toList K) (argTm [(.agg #[(.int .u32 x1), (.int .i64 x2)]), (.agg #[(.int .u32 x3), (.int .i64 x4)])]) h := by kernel_rfl
set_option maxRecDepth 100000 in
theorem prefix_Within_ok (x1 : Int) (x2 : Int) (x3 : Int) (x4 : Int) {h : Hp} {K : Value → Hp → Prop} (H : prefix_Within x1 x2 x3 x4 h K) : CallsH Tryz.prog 25 #[(.agg #[(.int .u32 x1), (.int .i64 x2)]), (.agg #[(.int .u32 x3), (.int .i64 x4)])] h K :=
  calls_of (args := [(.agg #[(.int .u32 x1), (.int .i64 x2)]), (.agg #[(.int .u32 x3), (.int .i64 x4)])]) (n := 21) (lp := prefix_Within_lp) (cut := prefix_Within_cut) Tryz.func25 (c := bodyOf Tryz.f25) (by kernel_rfl) (by kernel_rfl) (by kernel_rfl) (good_by (c := (bodyOf Tryz.f25)) (i := 1) (l := []) (by kernel_rfl) (fun _ h => by cases h))
    (Eq.mp (prefix_Within_eq x1 x2 x3 x4 h K) H)

/-! ### quintet/prefix.Has: function 32 -/
def prefix_Has (x1 : Int) (x2 : Int) (x3 : Int) (h : Hp) (K : Value → Hp → Prop) : Prop :=
  newC h (.cells #[(.int .u32 x1), (.int .i64 x2)] 45 (0, 0)) fun a5 h4 => 
  ∃ x6 : Int, ∃ x7 : Int, HV Tryz.prog (Instr.loadAt 45 (.pointer (some a5))) h4 (.agg #[(.int .u32 x6), (.int .i64 x7)]) ∧ 
  CallsH Tryz.prog 45 #[(.agg #[(.int .u32 x6), (.int .i64 x7)])] h4 fun r9 h8 =>
  ∃ x10 : Int, r9 = (.int .i64 x10) ∧ 
  br (x10 == 0)
  (∃ x11 : Int, HV Tryz.prog (Instr.loadAt 3 (.pointer (some (a5.add 1)))) h8 (.int .i64 x11) ∧ 
  CallsH Tryz.prog 52 #[(.int .i64 x11)] h8 fun r13 h12 =>
  ∃ x14 : Int, r13 = (.int .u32 x14) ∧ 
  ∃ x15 : Int, HV Tryz.prog (Instr.loadAt 23 (.pointer (some a5))) h12 (.int .u32 x15) ∧ HV Tryz.prog (Instr.loadAt 23 (.pointer (some a5))) h8 (.int .u32 x15) ∧ 
  K (.bool ((bAnd .u32 x3 x14) == x15)) h12)
  (K (.bool false) h8)
def prefix_Has_lp (i : Nat) (Q : Qx) (tm : Tm) (h : Hp) : Prop := False
def prefix_Has_cut (i : Nat) : Option (List Nat) := none
set_option maxRecDepth 100000 in
theorem prefix_Has_eq (x1 : Int) (x2 : Int) (x3 : Int) (h : Hp) (K : Value → Hp → Prop) : prefix_Has x1 x2 x3 h K =
    codeWp Tryz.prog 18 prefix_Has_lp prefix_Has_cut (bodyOf Tryz.f32) 1 (endQ Tryz.prog Tryz.f32.results.toList K) (argTm [(.agg #[(.int .u32 x1), (.int .i64 x2)]), (.int .u32 x3)]) h := by kernel_rfl
set_option maxRecDepth 100000 in
theorem prefix_Has_ok (x1 : Int) (x2 : Int) (x3 : Int) {h : Hp} {K : Value → Hp → Prop} (H : prefix_Has x1 x2 x3 h K) : CallsH Tryz.prog 32 #[(.agg #[(.int .u32 x1), (.int .i64 x2)]), (.int .u32 x3)] h K :=
  calls_of (args := [(.agg #[(.int .u32 x1), (.int .i64 x2)]), (.int .u32 x3)]) (n := 18) (lp := prefix_Has_lp) (cut := prefix_Has_cut) Tryz.func32 (c := bodyOf Tryz.f32) (by kernel_rfl) (by kernel_rfl) (by kernel_rfl) (good_by (c := (bodyOf Tryz.f32)) (i := 1) (l := []) (by kernel_rfl) (fun _ h => by cases h))
    (Eq.mp (prefix_Has_eq x1 x2 x3 h K) H)

/-! ### quintet/prefix.Compare: function 43 -/
def prefix_Compare (x1 : Int) (x2 : Int) (x3 : Int) (x4 : Int) (h : Hp) (K : Value → Hp → Prop) : Prop :=
  newC h (.cells #[(.int .u32 x1), (.int .i64 x2)] 45 (0, 0)) fun a6 h5 => 
  newC h5 (.cells #[(.int .u32 x3), (.int .i64 x4)] 45 (0, 0)) fun a8 h7 => 
  ∃ x9 : Int, HV Tryz.prog (Instr.loadAt 23 (.pointer (some a6))) h7 (.int .u32 x9) ∧ 
  ∃ x10 : Int, HV Tryz.prog (Instr.loadAt 23 (.pointer (some a8))) h7 (.int .u32 x10) ∧ 
  CallsH Tryz.prog 64 #[(.int .u32 x9), (.int .u32 x10)] h7 fun r12 h11 =>
  ∃ x13 : Int, r12 = (.int .i64 x13) ∧ 
  ∃ x14 : Int, HV Tryz.prog (Instr.loadAt 3 (.pointer (some (a6.add 1)))) h11 (.int .i64 x14) ∧ HV Tryz.prog (Instr.loadAt 3 (.pointer (some (a6.add 1)))) h7 (.int .i64 x14) ∧ 
  ∃ x15 : Int, HV Tryz.prog (Instr.loadAt 3 (.pointer (some (a8.add 1)))) h11 (.int .i64 x15) ∧ HV Tryz.prog (Instr.loadAt 3 (.pointer (some (a8.add 1)))) h7 (.int .i64 x15) ∧ 
  CallsH Tryz.prog 65 #[(.int .i64 x14), (.int .i64 x15)] h11 fun r17 h16 =>
  ∃ x18 : Int, r17 = (.int .i64 x18) ∧ 
  newC h16 (.cells #[(.int .i64 x13), (.int .i64 x18)] 3 (0, 0)) fun a20 h19 => 
  CallsH Tryz.prog 56 #[(.slice (some a20) 2 2)] h19 fun r22 h21 =>
  ∃ x23 : Int, r22 = (.int .i64 x23) ∧ 
  K (.int .i64 x23) h21
def prefix_Compare_lp (i : Nat) (Q : Qx) (tm : Tm) (h : Hp) : Prop := False
def prefix_Compare_cut (i : Nat) : Option (List Nat) := none
set_option maxRecDepth 100000 in
theorem prefix_Compare_eq (x1 : Int) (x2 : Int) (x3 : Int) (x4 : Int) (h : Hp) (K : Value → Hp → Prop) : prefix_Compare x1 x2 x3 x4 h K =
    codeWp Tryz.prog 17 prefix_Compare_lp prefix_Compare_cut (bodyOf Tryz.f43) 1 (endQ Tryz.prog Tryz.f43.results.toList K) (argTm [(.agg #[(.int .u32 x1), (.int .i64 x2)]), (.agg #[(.int .u32 x3), (.int .i64 x4)])]) h := by kernel_rfl
set_option maxRecDepth 100000 in
theorem prefix_Compare_ok (x1 : Int) (x2 : Int) (x3 : Int) (x4 : Int) {h : Hp} {K : Value → Hp → Prop} (H : prefix_Compare x1 x2 x3 x4 h K) : CallsH Tryz.prog 43 #[(.agg #[(.int .u32 x1), (.int .i64 x2)]), (.agg #[(.int .u32 x3), (.int .i64 x4)])] h K :=
  calls_of (args := [(.agg #[(.int .u32 x1), (.int .i64 x2)]), (.agg #[(.int .u32 x3), (.int .i64 x4)])]) (n := 17) (lp := prefix_Compare_lp) (cut := prefix_Compare_cut) Tryz.func43 (c := bodyOf Tryz.f43) (by kernel_rfl) (by kernel_rfl) (by kernel_rfl) (good_by (c := (bodyOf Tryz.f43)) (i := 1) (l := []) (by kernel_rfl) (fun _ h => by cases h))
    (Eq.mp (prefix_Compare_eq x1 x2 x3 x4 h K) H)

/-! ### quintet/prefix.Check: function 45 -/
def prefix_Check (x1 : Int) (x2 : Int) (h : Hp) (K : Value → Hp → Prop) : Prop :=
  newC h (.cells #[(.int .u32 x1), (.int .i64 x2)] 45 (0, 0)) fun a4 h3 => 
  ∃ x5 : Int, HV Tryz.prog (Instr.loadAt 3 (.pointer (some (a4.add 1)))) h3 (.int .i64 x5) ∧ 
  br (decide (x5 < 0))
  (K (.int .i64 20) h3)
  (∃ x6 : Int, HV Tryz.prog (Instr.loadAt 3 (.pointer (some (a4.add 1)))) h3 (.int .i64 x6) ∧ 
  br (decide (x6 > 32))
  (K (.int .i64 20) h3)
  (∃ x7 : Int, HV Tryz.prog (Instr.loadAt 23 (.pointer (some a4))) h3 (.int .u32 x7) ∧ 
  ∃ x8 : Int, HV Tryz.prog (Instr.loadAt 3 (.pointer (some (a4.add 1)))) h3 (.int .i64 x8) ∧ 
  CallsH Tryz.prog 52 #[(.int .i64 x8)] h3 fun r10 h9 =>
  ∃ x11 : Int, r10 = (.int .u32 x11) ∧ HV Tryz.prog (Instr.loadAt 23 (.pointer (some a4))) h9 (.int .u32 x7) ∧ 
  br ((bAndNot .u32 x7 x11) != 0)
  (K (.int .i64 21) h9)
  (K (.int .i64 0) h9)))
def prefix_Check_lp (i : Nat) (Q : Qx) (tm : Tm) (h : Hp) : Prop := False
def prefix_Check_cut (i : Nat) : Option (List Nat) := none
set_option maxRecDepth 100000 in
theorem prefix_Check_eq (x1 : Int) (x2 : Int) (h : Hp) (K : Value → Hp → Prop) : prefix_Check x1 x2 h K =
    codeWp Tryz.prog 20 prefix_Check_lp prefix_Check_cut (bodyOf Tryz.f45) 1 (endQ Tryz.prog Tryz.f45.results.toList K) (argTm [(.agg #[(.int .u32 x1), (.int .i64 x2)])]) h := by kernel_rfl
set_option maxRecDepth 100000 in
theorem prefix_Check_ok (x1 : Int) (x2 : Int) {h : Hp} {K : Value → Hp → Prop} (H : prefix_Check x1 x2 h K) : CallsH Tryz.prog 45 #[(.agg #[(.int .u32 x1), (.int .i64 x2)])] h K :=
  calls_of (args := [(.agg #[(.int .u32 x1), (.int .i64 x2)])]) (n := 20) (lp := prefix_Check_lp) (cut := prefix_Check_cut) Tryz.func45 (c := bodyOf Tryz.f45) (by kernel_rfl) (by kernel_rfl) (by kernel_rfl) (good_by (c := (bodyOf Tryz.f45)) (i := 1) (l := []) (by kernel_rfl) (fun _ h => by cases h))
    (Eq.mp (prefix_Check_eq x1 x2 h K) H)

/-! ### quintet/prefix.care: function 52 -/
def prefix_care (x1 : Int) (h : Hp) (K : Value → Hp → Prop) : Prop :=
  ∃ x2 : Int, PV Tryz.prog (binOp .shl 23 (.int .u32 4294967295) (.int .i64 (IntKind.i64.wrap (32 - x1)))) (.int .u32 x2) ∧
  K (.int .u32 x2) h
def prefix_care_lp (i : Nat) (Q : Qx) (tm : Tm) (h : Hp) : Prop := False
def prefix_care_cut (i : Nat) : Option (List Nat) := none
set_option maxRecDepth 100000 in
theorem prefix_care_eq (x1 : Int) (h : Hp) (K : Value → Hp → Prop) : prefix_care x1 h K =
    codeWp Tryz.prog 6 prefix_care_lp prefix_care_cut (bodyOf Tryz.f52) 1 (endQ Tryz.prog Tryz.f52.results.toList K) (argTm [(.int .i64 x1)]) h := by kernel_rfl
set_option maxRecDepth 100000 in
theorem prefix_care_ok (x1 : Int) {h : Hp} {K : Value → Hp → Prop} (H : prefix_care x1 h K) : CallsH Tryz.prog 52 #[(.int .i64 x1)] h K :=
  calls_of (args := [(.int .i64 x1)]) (n := 6) (lp := prefix_care_lp) (cut := prefix_care_cut) Tryz.func52 (c := bodyOf Tryz.f52) (by kernel_rfl) (by kernel_rfl) (by kernel_rfl) (good_by (c := (bodyOf Tryz.f52)) (i := 1) (l := []) (by kernel_rfl) (fun _ h => by cases h))
    (Eq.mp (prefix_care_eq x1 h K) H)

/-! ### quintet/span.Has: function 39 -/
def span_Has (x1 : Int) (x2 : Int) (x3 : Int) (h : Hp) (K : Value → Hp → Prop) : Prop :=
  newC h (.cells #[(.int .u16 x1), (.int .u16 x2)] 36 (0, 0)) fun a5 h4 => 
  ∃ x6 : Int, HV Tryz.prog (Instr.loadAt 24 (.pointer (some a5))) h4 (.int .u16 x6) ∧ 
  br (decide (x3 ≥ x6))
  (∃ x7 : Int, HV Tryz.prog (Instr.loadAt 24 (.pointer (some (a5.add 1)))) h4 (.int .u16 x7) ∧ 
  K (.bool (decide (x3 ≤ x7))) h4)
  (K (.bool false) h4)
def span_Has_lp (i : Nat) (Q : Qx) (tm : Tm) (h : Hp) : Prop := False
def span_Has_cut (i : Nat) : Option (List Nat) := none
set_option maxRecDepth 100000 in
theorem span_Has_eq (x1 : Int) (x2 : Int) (x3 : Int) (h : Hp) (K : Value → Hp → Prop) : span_Has x1 x2 x3 h K =
    codeWp Tryz.prog 15 span_Has_lp span_Has_cut (bodyOf Tryz.f39) 1 (endQ Tryz.prog Tryz.f39.results.toList K) (argTm [(.agg #[(.int .u16 x1), (.int .u16 x2)]), (.int .u16 x3)]) h := by kernel_rfl
set_option maxRecDepth 100000 in
theorem span_Has_ok (x1 : Int) (x2 : Int) (x3 : Int) {h : Hp} {K : Value → Hp → Prop} (H : span_Has x1 x2 x3 h K) : CallsH Tryz.prog 39 #[(.agg #[(.int .u16 x1), (.int .u16 x2)]), (.int .u16 x3)] h K :=
  calls_of (args := [(.agg #[(.int .u16 x1), (.int .u16 x2)]), (.int .u16 x3)]) (n := 15) (lp := span_Has_lp) (cut := span_Has_cut) Tryz.func39 (c := bodyOf Tryz.f39) (by kernel_rfl) (by kernel_rfl) (by kernel_rfl) (good_by (c := (bodyOf Tryz.f39)) (i := 1) (l := []) (by kernel_rfl) (fun _ h => by cases h))
    (Eq.mp (span_Has_eq x1 x2 x3 h K) H)

/-! ### quintet/span.Check: function 50 -/
def span_Check (x1 : Int) (x2 : Int) (h : Hp) (K : Value → Hp → Prop) : Prop :=
  newC h (.cells #[(.int .u16 x1), (.int .u16 x2)] 36 (0, 0)) fun a4 h3 => 
  ∃ x5 : Int, HV Tryz.prog (Instr.loadAt 24 (.pointer (some a4))) h3 (.int .u16 x5) ∧ 
  ∃ x6 : Int, HV Tryz.prog (Instr.loadAt 24 (.pointer (some (a4.add 1)))) h3 (.int .u16 x6) ∧ 
  br (decide (x5 > x6))
  (K (.int .i64 30) h3)
  (K (.int .i64 0) h3)
def span_Check_lp (i : Nat) (Q : Qx) (tm : Tm) (h : Hp) : Prop := False
def span_Check_cut (i : Nat) : Option (List Nat) := none
set_option maxRecDepth 100000 in
theorem span_Check_eq (x1 : Int) (x2 : Int) (h : Hp) (K : Value → Hp → Prop) : span_Check x1 x2 h K =
    codeWp Tryz.prog 8 span_Check_lp span_Check_cut (bodyOf Tryz.f50) 1 (endQ Tryz.prog Tryz.f50.results.toList K) (argTm [(.agg #[(.int .u16 x1), (.int .u16 x2)])]) h := by kernel_rfl
set_option maxRecDepth 100000 in
theorem span_Check_ok (x1 : Int) (x2 : Int) {h : Hp} {K : Value → Hp → Prop} (H : span_Check x1 x2 h K) : CallsH Tryz.prog 50 #[(.agg #[(.int .u16 x1), (.int .u16 x2)])] h K :=
  calls_of (args := [(.agg #[(.int .u16 x1), (.int .u16 x2)])]) (n := 8) (lp := span_Check_lp) (cut := span_Check_cut) Tryz.func50 (c := bodyOf Tryz.f50) (by kernel_rfl) (by kernel_rfl) (by kernel_rfl) (good_by (c := (bodyOf Tryz.f50)) (i := 1) (l := []) (by kernel_rfl) (fun _ h => by cases h))
    (Eq.mp (span_Check_eq x1 x2 h K) H)

/-! ### quintet/mask.Check: function 51 -/
def mask_Check (x1 : Int) (x2 : Int) (h : Hp) (K : Value → Hp → Prop) : Prop :=
  newC h (.cells #[(.int .u8 x1), (.int .u8 x2)] 47 (0, 0)) fun a4 h3 => 
  ∃ x5 : Int, HV Tryz.prog (Instr.loadAt 5 (.pointer (some a4))) h3 (.int .u8 x5) ∧ 
  ∃ x6 : Int, HV Tryz.prog (Instr.loadAt 5 (.pointer (some (a4.add 1)))) h3 (.int .u8 x6) ∧ 
  br ((bAndNot .u8 x5 x6) != 0)
  (K (.int .i64 40) h3)
  (K (.int .i64 0) h3)
def mask_Check_lp (i : Nat) (Q : Qx) (tm : Tm) (h : Hp) : Prop := False
def mask_Check_cut (i : Nat) : Option (List Nat) := none
set_option maxRecDepth 100000 in
theorem mask_Check_eq (x1 : Int) (x2 : Int) (h : Hp) (K : Value → Hp → Prop) : mask_Check x1 x2 h K =
    codeWp Tryz.prog 9 mask_Check_lp mask_Check_cut (bodyOf Tryz.f51) 1 (endQ Tryz.prog Tryz.f51.results.toList K) (argTm [(.agg #[(.int .u8 x1), (.int .u8 x2)])]) h := by kernel_rfl
set_option maxRecDepth 100000 in
theorem mask_Check_ok (x1 : Int) (x2 : Int) {h : Hp} {K : Value → Hp → Prop} (H : mask_Check x1 x2 h K) : CallsH Tryz.prog 51 #[(.agg #[(.int .u8 x1), (.int .u8 x2)])] h K :=
  calls_of (args := [(.agg #[(.int .u8 x1), (.int .u8 x2)])]) (n := 9) (lp := mask_Check_lp) (cut := mask_Check_cut) Tryz.func51 (c := bodyOf Tryz.f51) (by kernel_rfl) (by kernel_rfl) (by kernel_rfl) (good_by (c := (bodyOf Tryz.f51)) (i := 1) (l := []) (by kernel_rfl) (fun _ h => by cases h))
    (Eq.mp (mask_Check_eq x1 x2 h K) H)

/-! ### quintet/expand.Count: function 29 -/
def expand_Count (x1 : Int) (x2 : Int) (h : Hp) (K : Value → Hp → Prop) : Prop :=
  newC h (.cells #[(.int .u16 x1), (.int .u16 x2)] 36 (0, 0)) fun a4 h3 => 
  ∃ x5 : Int, ∃ x6 : Int, HV Tryz.prog (Instr.loadAt 36 (.pointer (some a4))) h3 (.agg #[(.int .u16 x5), (.int .u16 x6)]) ∧ 
  CallsH Tryz.prog 48 #[(.agg #[(.int .u16 x5), (.int .u16 x6)])] h3 fun r8 h7 =>
  ∃ A9 : Option Addr, ∃ l9 : Nat, ∃ c9 : Nat, ∃ x10 : Int, r8 = (.tuple #[(.slice A9 l9 c9), (.int .i64 x10)]) ∧ 
  K (.tuple #[(.int .i64 (l9 : Int)), (.int .i64 x10)]) h7
def expand_Count_lp (i : Nat) (Q : Qx) (tm : Tm) (h : Hp) : Prop := False
def expand_Count_cut (i : Nat) : Option (List Nat) := none
set_option maxRecDepth 100000 in
theorem expand_Count_eq (x1 : Int) (x2 : Int) (h : Hp) (K : Value → Hp → Prop) : expand_Count x1 x2 h K =
    codeWp Tryz.prog 14 expand_Count_lp expand_Count_cut (bodyOf Tryz.f29) 1 (endQ Tryz.prog Tryz.f29.results.toList K) (argTm [(.agg #[(.int .u16 x1), (.int .u16 x2)])]) h := by kernel_rfl
set_option maxRecDepth 100000 in
theorem expand_Count_ok (x1 : Int) (x2 : Int) {h : Hp} {K : Value → Hp → Prop} (H : expand_Count x1 x2 h K) : CallsH Tryz.prog 29 #[(.agg #[(.int .u16 x1), (.int .u16 x2)])] h K :=
  calls_of (args := [(.agg #[(.int .u16 x1), (.int .u16 x2)])]) (n := 14) (lp := expand_Count_lp) (cut := expand_Count_cut) Tryz.func29 (c := bodyOf Tryz.f29) (by kernel_rfl) (by kernel_rfl) (by kernel_rfl) (good_by (c := (bodyOf Tryz.f29)) (i := 1) (l := []) (by kernel_rfl) (fun _ h => by cases h))
    (Eq.mp (expand_Count_eq x1 x2 h K) H)

/-! ### quintet/expand.Of: function 48 -/
def expand_Of_l3 (a56 : Addr) (a57 : Addr) (v58 : Value) (x59 : Int) (K0 : Addr → Addr → Value → Int → Int → Hp → Prop)  : Nat → Int → Hp → Prop
  | 0, _, _ => False
  | k + 1, x60, h =>
    br (x60 == 0)
    (K0 a56 a57 v58 x59 x60 h)
    (CallsH Tryz.prog 69 #[(.int .i64 (IntKind.i64.wrap (x60 - 1)))] h fun r75 h74 =>
    ∃ x76 : Int, r75 = (.int .i64 x76) ∧ 
    ∃ x77 : Int, PV Tryz.prog (binOp .rem 3 (.int .i64 x59) (.int .i64 x76)) (.int .i64 x77) ∧
    br (x77 != 0)
    (K0 a56 a57 v58 x59 x60 h74)
    (CallsH Tryz.prog 69 #[(.int .i64 (IntKind.i64.wrap (x60 - 1)))] h74 fun r79 h78 =>
    ∃ x80 : Int, r79 = (.int .i64 x80) ∧ 
    ∃ x81 : Int, HV Tryz.prog (Instr.loadAt 24 (.pointer (some (a56.add 1)))) h78 (.int .u16 x81) ∧ HV Tryz.prog (Instr.loadAt 24 (.pointer (some (a56.add 1)))) h74 (.int .u16 x81) ∧ 
    br (decide ((IntKind.i64.wrap ((IntKind.i64.wrap (x59 + x80)) - 1)) > (IntKind.i64.wrap (x81))))
    (K0 a56 a57 v58 x59 x60 h78)
    (expand_Of_l3 a56 a57 v58 x59 K0 k (IntKind.i64.wrap (x60 - 1)) h78)))
def expand_Of_l3_L (Q : Qx) (k : Nat) (tm : Tm) (h : Hp) : Prop :=
  selA (tm 1) fun a56 =>
  selA (tm 5) fun a57 =>
  selV (tm 6) fun v58 =>
  selI .i64 (tm 7) fun x59 =>
  selI .i64 (tm 8) fun x60 =>
  expand_Of_l3 a56 a57 v58 x59 (fun (a69 : Addr) (a70 : Addr) (v71 : Value) (x72 : Int) (x73 : Int) h => Q (.exit 2) (mkTm [(1, some (.pointer (some a69))), (5, some (.pointer (some a70))), (6, some v71), (7, some (.int .i64 x72)), (8, some (.int .i64 x73))]) h) k x60 h
def expand_Of_l2 (a13 : Addr) (a14 : Addr) (v15 : Value) (K0 : Addr → Hp → Prop)  : Nat → Int → Hp → Prop
  | 0, _, _ => False
  | k + 1, x16, h =>
    ∃ x55 : Int, HV Tryz.prog (Instr.loadAt 24 (.pointer (some (a13.add 1)))) h (.int .u16 x55) ∧ 
    br (decide (x16 ≤ (IntKind.i64.wrap (x55))))
    (∃ k91, expand_Of_l3 a13 a14 v15 x16
    (fun (a82 : Addr) (a83 : Addr) (v84 : Value) (x85 : Int) (x86 : Int) (h87 : Hp) =>
    HN Tryz.prog (callS v84 #[(.int .i64 x85), (.int .i64 x86)]) h87 fun r89 h88 =>
    ∃ x90 : Int, r89 = (.int .i64 x90) ∧ 
    expand_Of_l2 a13 a14 v15 K0 k x90 h88)
    k91 16 h)
    (K0 a14 h)
def expand_Of_l2_L (Q : Qx) (k : Nat) (tm : Tm) (h : Hp) : Prop :=
  selA (tm 1) fun a13 =>
  selA (tm 5) fun a14 =>
  selV (tm 6) fun v15 =>
  selI .i64 (tm 7) fun x16 =>
  expand_Of_l2 a13 a14 v15 (fun (a54 : Addr) h => Q (.exit 0) (mkTm [(5, some (.pointer (some a54)))]) h) k x16 h
def expand_Of (x1 : Int) (x2 : Int) (h : Hp) (K : Value → Hp → Prop) : Prop :=
  newC h (.cells #[(.int .u16 x1), (.int .u16 x2)] 36 (0, 0)) fun a4 h3 => 
  ∃ x5 : Int, ∃ x6 : Int, HV Tryz.prog (Instr.loadAt 36 (.pointer (some a4))) h3 (.agg #[(.int .u16 x5), (.int .u16 x6)]) ∧ 
  CallsH Tryz.prog 50 #[(.agg #[(.int .u16 x5), (.int .u16 x6)])] h3 fun r8 h7 =>
  ∃ x9 : Int, r8 = (.int .i64 x9) ∧ 
  br (x9 != 0)
  (K (.tuple #[(.slice none 0 0), (.int .i64 x9)]) h7)
  (newC h7 (.cells #[(.slice none 0 0)] 74 (0, 0)) fun a11 h10 => 
  ∃ x12 : Int, HV Tryz.prog (Instr.loadAt 24 (.pointer (some a4))) h10 (.int .u16 x12) ∧ 
  ∃ k95, expand_Of_l2 a4 a11 (.func (.func 68) #[] #[(.pointer (some a11))])
  (fun (a92 : Addr) (h93 : Hp) =>
  ∃ A94 : Option Addr, ∃ l94 : Nat, ∃ c94 : Nat, HV Tryz.prog (Instr.loadAt 74 (.pointer (some a92))) h93 (.slice A94 l94 c94) ∧ 
  K (.tuple #[(.slice A94 l94 c94), (.int .i64 0)]) h93)
  k95 (IntKind.i64.wrap (x12)) h10)
def expand_Of_lp (i : Nat) (Q : Qx) (tm : Tm) (h : Hp) : Prop := match Nat.beq i 64076 with
  | true => ∃ k, expand_Of_l3_L Q k tm h
  | false => match Nat.beq i 250 with
  | true => ∃ k, expand_Of_l2_L Q k tm h
  | false => False
def expand_Of_cut (i : Nat) : Option (List Nat) := none
set_option maxRecDepth 100000 in
theorem expand_Of_l3_step (Q : Qx) (k : Nat) (a56 : Addr) (a57 : Addr) (v58 : Value) (x59 : Int) (x60 : Int) (h : Hp) : expand_Of_l3_L Q (k + 1) (mkTm [(1, some (.pointer (some a56))), (5, some (.pointer (some a57))), (6, some v58), (7, some (.int .i64 x59)), (8, some (.int .i64 x60))]) h =
    codeWp Tryz.prog 52 expand_Of_lp expand_Of_cut (sub (bodyOf Tryz.f48) [true, true, true, true, false, true, false, false, true, false, false, true, true, false, false, false]) 128152 (thenQ (fun tm h => expand_Of_l3_L Q k (mask [1, 5, 6, 7, 8] tm) h) (maskQ (fun e => match e with | .exit 2 => [1, 5, 6, 7, 8] | _ => []) Q)) (mkTm [(1, some (.pointer (some a56))), (5, some (.pointer (some a57))), (6, some v58), (7, some (.int .i64 x59)), (8, some (.int .i64 x60))]) h := by kernel_rfl
theorem expand_Of_l3_mask (Q : Qx) (k : Nat) (tm : Tm) (h : Hp) : expand_Of_l3_L Q k tm h ↔ expand_Of_l3_L Q k (mask [1, 5, 6, 7, 8] tm) h := Iff.rfl
set_option maxRecDepth 100000 in
theorem expand_Of_l3_snd : SndAt Tryz.prog 52 none (sub (bodyOf Tryz.f48) [true, true, true, true, false, true, false, false, true, false, false, true, true, false, false]) (expand_Of_lp 64076) := by
  refine loop_sound (lp := expand_Of_lp) (cut := expand_Of_cut) (i := 64076) (c := (sub (bodyOf Tryz.f48) [true, true, true, true, false, true, false, false, true, false, false, true, true, false, false, false])) [1, 5, 6, 7, 8] (fun e => match e with | .exit 2 => [1, 5, 6, 7, 8] | _ => []) expand_Of_l3_L ?_ ?_ ?_
  · exact good_by (c := (sub (bodyOf Tryz.f48) [true, true, true, true, false, true, false, false, true, false, false, true, true, false, false, false])) (i := 128152) (l := []) (by kernel_rfl) (fun _ h => by cases h)
  · intro Q tm h H
    obtain ⟨a56, e1, H⟩ := selA_ex H
    obtain ⟨a57, e5, H⟩ := selA_ex H
    obtain ⟨v58, e6, H⟩ := selV_ex H
    obtain ⟨x59, e7, H⟩ := selI_ex H
    obtain ⟨x60, e8, H⟩ := selI_ex H
    exact H
  · intro Q k tm h H
    have H0 := H
    obtain ⟨a56, e1, H⟩ := selA_ex H
    obtain ⟨a57, e5, H⟩ := selA_ex H
    obtain ⟨v58, e6, H⟩ := selV_ex H
    obtain ⟨x59, e7, H⟩ := selI_ex H
    obtain ⟨x60, e8, H⟩ := selI_ex H
    have e : mask [1, 5, 6, 7, 8] tm = mkTm [(1, some (.pointer (some a56))), (5, some (.pointer (some a57))), (6, some v58), (7, some (.int .i64 x59)), (8, some (.int .i64 x60))] := by simp only [mask, List.map_cons, List.map_nil, e1, e5, e6, e7, e8] <;> rfl
    rw [e]
    refine Eq.mp (expand_Of_l3_step Q k a56 a57 v58 x59 x60 h) ?_
    rw [← e]
    exact (expand_Of_l3_mask Q (k + 1) tm h).mp H0
set_option maxRecDepth 100000 in
theorem expand_Of_l2_step (Q : Qx) (k : Nat) (a13 : Addr) (a14 : Addr) (v15 : Value) (x16 : Int) (h : Hp) : expand_Of_l2_L Q (k + 1) (mkTm [(1, some (.pointer (some a13))), (5, some (.pointer (some a14))), (6, some v15), (7, some (.int .i64 x16))]) h =
    codeWp Tryz.prog 52 expand_Of_lp expand_Of_cut (sub (bodyOf Tryz.f48) [true, true, true, true, false, true, false, false]) 500 (thenQ (fun tm h => expand_Of_l2_L Q k (mask [1, 5, 6, 7] tm) h) (maskQ (fun e => match e with | .exit 0 => [5] | _ => []) Q)) (mkTm [(1, some (.pointer (some a13))), (5, some (.pointer (some a14))), (6, some v15), (7, some (.int .i64 x16))]) h := by kernel_rfl
theorem expand_Of_l2_mask (Q : Qx) (k : Nat) (tm : Tm) (h : Hp) : expand_Of_l2_L Q k tm h ↔ expand_Of_l2_L Q k (mask [1, 5, 6, 7] tm) h := Iff.rfl
set_option maxRecDepth 100000 in
theorem expand_Of_l2_snd : SndAt Tryz.prog 52 none (sub (bodyOf Tryz.f48) [true, true, true, true, false, true, false]) (expand_Of_lp 250) := by
  refine loop_sound (lp := expand_Of_lp) (cut := expand_Of_cut) (i := 250) (c := (sub (bodyOf Tryz.f48) [true, true, true, true, false, true, false, false])) [1, 5, 6, 7] (fun e => match e with | .exit 0 => [5] | _ => []) expand_Of_l2_L ?_ ?_ ?_
  · exact good_by (c := (sub (bodyOf Tryz.f48) [true, true, true, true, false, true, false, false])) (i := 500) (l := [(64076, (sub (bodyOf Tryz.f48) [true, true, true, true, false, true, false, false, true, false, false, true, true, false, false]))]) (by kernel_rfl) (List.forall_mem_cons.2 ⟨expand_Of_l3_snd, (fun _ h => by cases h)⟩)
  · intro Q tm h H
    obtain ⟨a13, e1, H⟩ := selA_ex H
    obtain ⟨a14, e5, H⟩ := selA_ex H
    obtain ⟨v15, e6, H⟩ := selV_ex H
    obtain ⟨x16, e7, H⟩ := selI_ex H
    exact H
  · intro Q k tm h H
    have H0 := H
    obtain ⟨a13, e1, H⟩ := selA_ex H
    obtain ⟨a14, e5, H⟩ := selA_ex H
    obtain ⟨v15, e6, H⟩ := selV_ex H
    obtain ⟨x16, e7, H⟩ := selI_ex H
    have e : mask [1, 5, 6, 7] tm = mkTm [(1, some (.pointer (some a13))), (5, some (.pointer (some a14))), (6, some v15), (7, some (.int .i64 x16))] := by simp only [mask, List.map_cons, List.map_nil, e1, e5, e6, e7] <;> rfl
    rw [e]
    refine Eq.mp (expand_Of_l2_step Q k a13 a14 v15 x16 h) ?_
    rw [← e]
    exact (expand_Of_l2_mask Q (k + 1) tm h).mp H0
set_option maxRecDepth 100000 in
theorem expand_Of_eq (x1 : Int) (x2 : Int) (h : Hp) (K : Value → Hp → Prop) : expand_Of x1 x2 h K =
    codeWp Tryz.prog 52 expand_Of_lp expand_Of_cut (bodyOf Tryz.f48) 1 (endQ Tryz.prog Tryz.f48.results.toList K) (argTm [(.agg #[(.int .u16 x1), (.int .u16 x2)])]) h := by kernel_rfl
set_option maxRecDepth 100000 in
theorem expand_Of_ok (x1 : Int) (x2 : Int) {h : Hp} {K : Value → Hp → Prop} (H : expand_Of x1 x2 h K) : CallsH Tryz.prog 48 #[(.agg #[(.int .u16 x1), (.int .u16 x2)])] h K :=
  calls_of (args := [(.agg #[(.int .u16 x1), (.int .u16 x2)])]) (n := 52) (lp := expand_Of_lp) (cut := expand_Of_cut) Tryz.func48 (c := bodyOf Tryz.f48) (by kernel_rfl) (by kernel_rfl) (by kernel_rfl) (good_by (c := (bodyOf Tryz.f48)) (i := 1) (l := [(250, (sub (bodyOf Tryz.f48) [true, true, true, true, false, true, false]))]) (by kernel_rfl) (List.forall_mem_cons.2 ⟨expand_Of_l2_snd, (fun _ h => by cases h)⟩))
    (Eq.mp (expand_Of_eq x1 x2 h K) H)

/-! ### quintet/expand.Of$1: function 68 -/
def expand_Of_1 (x1 : Int) (x2 : Int) (a3 : Addr) (h : Hp) (K : Value → Hp → Prop) : Prop :=
  ∃ A4 : Option Addr, ∃ l4 : Nat, ∃ c4 : Nat, HV Tryz.prog (Instr.loadAt 74 (.pointer (some a3))) h (.slice A4 l4 c4) ∧ 
  newC h (.cells #[(.int .u16 (IntKind.u16.wrap (x1))), (.int .i64 x2)] 98 (0, 0)) fun a6 h5 => 
  HW Tryz.prog (Builtin.append_ #[74, 74] 74 #[(.slice A4 l4 c4), (.slice (some a6) 1 1)]) h5 fun r8 h7 =>
  ∃ A9 : Option Addr, ∃ l9 : Nat, ∃ c9 : Nat, r8 = (.slice A9 l9 c9) ∧ 
  HU Tryz.prog (Instr.storeAt 74 (.pointer (some a3)) (.slice A9 l9 c9)) h7 fun h10 => 
  CallsH Tryz.prog 69 #[(.int .i64 x2)] h10 fun r12 h11 =>
  ∃ x13 : Int, r12 = (.int .i64 x13) ∧ 
  K (.int .i64 (IntKind.i64.wrap (x1 + x13))) h11
def expand_Of_1_lp (i : Nat) (Q : Qx) (tm : Tm) (h : Hp) : Prop := False
def expand_Of_1_cut (i : Nat) : Option (List Nat) := none
set_option maxRecDepth 100000 in
theorem expand_Of_1_eq (x1 : Int) (x2 : Int) (a3 : Addr) (h : Hp) (K : Value → Hp → Prop) : expand_Of_1 x1 x2 a3 h K =
    codeWp Tryz.prog 17 expand_Of_1_lp expand_Of_1_cut (bodyOf Tryz.f68) 1 (endQ Tryz.prog Tryz.f68.results.toList K) (argTm [(.int .i64 x1), (.int .i64 x2), (.pointer (some a3))]) h := by kernel_rfl
set_option maxRecDepth 100000 in
theorem expand_Of_1_ok (x1 : Int) (x2 : Int) (a3 : Addr) {h : Hp} {K : Value → Hp → Prop} (H : expand_Of_1 x1 x2 a3 h K) : CallsH Tryz.prog 68 #[(.int .i64 x1), (.int .i64 x2), (.pointer (some a3))] h K :=
  calls_of (args := [(.int .i64 x1), (.int .i64 x2), (.pointer (some a3))]) (n := 17) (lp := expand_Of_1_lp) (cut := expand_Of_1_cut) Tryz.func68 (c := bodyOf Tryz.f68) (by kernel_rfl) (by kernel_rfl) (by kernel_rfl) (good_by (c := (bodyOf Tryz.f68)) (i := 1) (l := []) (by kernel_rfl) (fun _ h => by cases h))
    (Eq.mp (expand_Of_1_eq x1 x2 a3 h K) H)

/-! ### quintet/expand.size: function 69 -/
def expand_size (x1 : Int) (h : Hp) (K : Value → Hp → Prop) : Prop :=
  ∃ x2 : Int, PV Tryz.prog (binOp .shl 3 (.int .i64 1) (.int .i64 (IntKind.i64.wrap (16 - x1)))) (.int .i64 x2) ∧
  K (.int .i64 x2) h
def expand_size_lp (i : Nat) (Q : Qx) (tm : Tm) (h : Hp) : Prop := False
def expand_size_cut (i : Nat) : Option (List Nat) := none
set_option maxRecDepth 100000 in
theorem expand_size_eq (x1 : Int) (h : Hp) (K : Value → Hp → Prop) : expand_size x1 h K =
    codeWp Tryz.prog 6 expand_size_lp expand_size_cut (bodyOf Tryz.f69) 1 (endQ Tryz.prog Tryz.f69.results.toList K) (argTm [(.int .i64 x1)]) h := by kernel_rfl
set_option maxRecDepth 100000 in
theorem expand_size_ok (x1 : Int) {h : Hp} {K : Value → Hp → Prop} (H : expand_size x1 h K) : CallsH Tryz.prog 69 #[(.int .i64 x1)] h K :=
  calls_of (args := [(.int .i64 x1)]) (n := 6) (lp := expand_size_lp) (cut := expand_size_cut) Tryz.func69 (c := bodyOf Tryz.f69) (by kernel_rfl) (by kernel_rfl) (by kernel_rfl) (good_by (c := (bodyOf Tryz.f69)) (i := 1) (l := []) (by kernel_rfl) (fun _ h => by cases h))
    (Eq.mp (expand_size_eq x1 h K) H)

end Go.Proofs.YtgahbkbmolfpnaaGreat.Fs
