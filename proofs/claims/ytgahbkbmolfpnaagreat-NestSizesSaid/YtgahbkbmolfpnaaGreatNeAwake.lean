/- awake; lent, kept. -/
import Derived.Test.YtgahbkbmolfpnaaGreatNeHelp
namespace Go.Proofs.YtgahbkbmolfpnaaGreat.Fs
open Go Go.RowKit Go.Sort Go.Proofs.YtgahbkbmolfpnaaGreat.Sx Go.Proofs.YtgahbkbmolfpnaaGreat.Sp Go.Proofs.YtgahbkbmolfpnaaGreat.Ne
set_option linter.unusedVariables false
set_option linter.unusedSimpArgs false
set_option maxRecDepth 10000
theorem awake_s {h : Hp} {K : Value → Hp → Prop} (H : ∀ h', Ext h h' → K (.bool true) h') : CallsH Tryz.prog 4 #[] h K := by
  refine quintetlaw14_awake_ok ?_
  unfold quintetlaw14_awake
  refine newC_i (cs := awL.flatMap Sp.enc) fun h1 e1 c1 b1 z1 => ?_
  have rl := lit_rs awL c1
  refine Levels_s (c := 4) rl (by decide) (fun hw => by rw [aw_w] at hw; cases hw) fun _ h2 g e2 hg r2 => ⟨_, _, _, _, rfl, ?_⟩
  rw [aw_levs] at r2
  have rl2 := rl.ext e2
  refine Depth_s (c := 4) rl2 (by decide) (fun hw => by rw [aw_w] at hw; cases hw) fun _ h3 e3 => ⟨_, _, rfl, ?_⟩
  have rl3 := rl2.ext e3
  refine Find_s (c := 4) (p := 4) rl3 (by decide) (fun hw => by rw [aw_w] at hw; cases hw) fun _ h4 g4 e4 hg4 r4 => ⟨_, _, _, _, rfl, ?_⟩
  rw [aw_finds, aw_dep] at r4
  rw [aw_dep]
  refine newV (us := awA.enc) rfl rfl size_ru rfl fun h5 e5 c5 b5 z5 => ⟨_, _, _, _, _, _, _, _, _, _, _, _, ldS (vs := awA.enc) c5 (by kernel_rfl), ?_⟩
  refine newC_i fun h6 e6 c6 b6 z6 => HU_box b6 (us := awA.enc) rfl rfl size_ru rfl fun h7 c7 b7 f7 z7 => ?_
  have hne : h4.size ≠ h5.size := by omega
  refine HU_stC (us := [.int .i64 2]) (new := .int .i64 2 :: awA.enc.drop 1) b7 rfl (by kernel_rfl) (by decide) rfl rfl fun h8 b8 f8 z8 => ?_
  refine HU_stC (o := 1) (us := [.int .u32 167772160, .int .i64 8]) (new := awB.enc) b8 rfl size_pf (by decide) rfl rfl fun h9 b9 f9 z9 => ?_
  have fr := ((f7.trans f8).trans f9)
  have cA : Cl h9 ⟨h4.size, 0, none⟩ awA.enc := fr.cl (c5.ext e6) (by show h4.size ≠ h5.size; exact hne)
  have cB : Cl h9 ⟨h5.size, 0, none⟩ awB.enc := Cl.of_block b9 fun j v hj => by rw [Nat.zero_add]; exact hj
  have E9 : Ext h4 h9 := extOwn (e5.trans e6) fr (by rintro k rfl; omega)
  refine ⟨_, _, _, _, _, _, _, _, _, _, _, _, ldS (vs := awA.enc) cA (by kernel_rfl), _, _, _, _, _, _, _, _, _, _, _, _, ldS (vs := awB.enc) cB (by kernel_rfl), ?_⟩
  refine newC_i (cs := [awA, awB].flatMap Rul.enc) fun h10 e10 c10 b10 z10 => ?_
  have ru := lit_ru [awA, awB] c10
  refine Prune_s (c := 2) ru (by decide) (by decide) fun h11 e11 => ⟨_, _, rfl, Grid_s (c := 2) (ru.ext e11) (by decide) (by decide) fun h12 e12 => ⟨_, _, rfl, Tuple_s (c := 2) ((ru.ext e11).ext e12) (by decide) (by decide) aw_ok fun h13 e13 => ⟨_, _, rfl, ?_⟩⟩⟩
  rw [aw_list, aw_prune, aw_grid, aw_tuple]
  have E13 := ((e10.trans e11).trans e12).trans e13
  refine br_t rfl (newC_i (cs := [2, 1, 0, 1].flatMap encI) fun h14 e14 c14 b14 z14 => ?_)
  have r2' := ((((r2.ext e3).ext e4).ext E9).ext E13).ext e14
  refine Ints_s (c := 4) (c' := 4) (l := [2, 1, 0, 1]) (m := [2, 1, 0, 1]) r2'.read (lit_i [2, 1, 0, 1] c14) (by decide) ⟨_, rfl, br_t rfl (br_t rfl (br_t rfl (br_t rfl (newC_i (cs := [2, 3, 0].flatMap encI) fun h15 e15 c15 b15 z15 => ?_))))⟩
  have r4' := (((r4.ext E9).ext E13).ext e14).ext e15
  refine Ints_s (c := 3) (c' := 3) (l := [2, 3, 0]) (m := [2, 3, 0]) r4'.read (lit_i [2, 3, 0] c15) (by decide) ⟨_, rfl, br_t rfl (br_t rfl (br_t rfl (br_t rfl (br_t rfl (br_t rfl (br_t rfl ?_))))))⟩
  refine Pairs_s (c := 2) ⟨167772161, 0, 0, 0, 0⟩ (((((ru.ext e11).ext e12).ext e13).ext e14).ext e15) (by decide) fun h16 e16 => ⟨_, rfl, ?_⟩
  rw [aw_pairs]
  exact H h16 (((((((e1.trans e2).trans e3).trans e4).trans E9).trans E13).trans (e14.trans e15)).trans e16)
end Go.Proofs.YtgahbkbmolfpnaaGreat.Fs
