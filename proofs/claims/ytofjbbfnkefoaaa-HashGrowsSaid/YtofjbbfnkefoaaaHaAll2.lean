/- all: a table gives just its entries, twice. -/
import Derived.Test.YtofjbbfnkefoaaaHaAll
namespace Go.Proofs.Ytofjbbfnkefoaaa.Fs
open Go Go.RowKit Go.Proofs.Ytofjbbfnkefoaaa.Sx
set_option linter.unusedVariables false
set_option linter.unusedSimpArgs false
set_option maxRecDepth 10000
theorem boolSz : (Try.prog.info? 4).map (·.size) = some 1 := by kernel_rfl
theorem hdrSz : (Try.prog.info? 36).map (·.size) = some 5 := by kernel_rfl
theorem ne71 (a b : Hdr) : PV Try.prog (binOp .neq 36 (.agg #[.int .u32 a.src, .int .u32 a.dst, .int .u16 a.sp, .int .u16 a.dp, .int .u8 a.pr]) (.agg #[.int .u32 b.src, .int .u32 b.dst, .int .u16 b.sp, .int .u16 b.dp, .int .u8 b.pr])) (.bool (!decide (a = b))) := by
  intro w
  rw [run_neq_struct, run_equalIn_struct w 9999 36 _ _ (by kernel_rfl) (by kernel_rfl)]
  obtain ⟨a1, a2, a3, a4, a5⟩ := a
  obtain ⟨b1, b2, b3, b4, b5⟩ := b
  simp [go_sem]
  by_cases g1 : a1 = b1 <;> by_cases g2 : a2 = b2 <;> by_cases g3 : a3 = b3 <;> by_cases g4 : a4 = b4 <;> by_cases g5 : a5 = b5 <;> simp [g1, g2, g3, g4, g5]
def AJ (g1 : Hp) (an lr : Nat) (r : Loop) (kk : Nat) (early : Int) (done : List Ent) (Y : Nat → Prop) (h : Hp) : Prop :=
  Y = (fun k => k = an ∨ k = lr) ∧ Fr (fun k => k = an ∨ k = lr) g1 h ∧ h[an]? = some (.cells [Value.int .i64 (done.length : Int)].toArray 3 (0, 0)) ∧ h[lr]? = some (.loop r) ∧ (kk = 0 → early ≤ 0 ∨ (done.length : Int) < early)
def AStop (g1 : Hp) (an lr : Nat) (r : Loop) (kk : Nat) (early : Int) (h : Hp) : Prop :=
  Fr (fun k => k = an ∨ k = lr) g1 h ∧ h[an]? = some (.cells [Value.int .i64 early].toArray 3 (0, 0)) ∧ h[lr]? = some (.loop { r with state := .done, pending := some (.exit 2) }) ∧ kk = 0
theorem all_rd {g1 : Hp} {a20 a21 a22 ak : Addr} {an lr D kk : Nat} {early : Int} {r : Loop} {A : Option Addr} {c : Nat} {L : List Ent} (rs : RSl g1 A L.length 6 (L.flatMap Ent.enc)) (hA : ∀ k, blk A k → k ≠ an ∧ k ≠ lr) (hL : L.length ≤ 100000) (c20 : Cl g1 a20 [.slice A L.length c]) (c21 : Cl g1 a21 [.int .i64 early]) (ck : Cl g1 ak [.int .i64 (kk : Int)]) (hne : an ≠ lr) (h20 : a20.block ≠ an ∧ a20.block ≠ lr) (h21 : a21.block ≠ an ∧ a21.block ≠ lr) (hk : ak.block ≠ an ∧ ak.block ≠ lr)
    (ok : RecOK 68 #[21, 22] (sub (bodyOf Try.f21) [true, true, true, false, true, false, false, true, false, false, true, false, true, false, false]) (sub (bodyOf Try.f21) [true, true, true, false, true, false, false, true, false, false, true, false, true, false, true]) (mkTm [(4, some (.pointer (some a20))), (5, some (.pointer (some a21))), (6, some (.pointer (some a22))), (8, some (.pointer (some ak))), (9, some (.pointer (some ⟨an, 0, none⟩)))]) D r) :
    ItY (AJ g1 an lr r kk early) (AStop g1 an lr r kk early) L (yieldV lr) := by
  refine ⟨fun done Y h h' ⟨q1, q2, q3, q4, q5⟩ e => ⟨q1, q2.trans (e.fr _), (e.fr (fun _ => False)).get q3 (fun h => h), (e.fr (fun _ => False)).get q4 (fun h => h), q5⟩, ?_, ?_⟩
  · rintro done Y h ⟨rfl, _, q3, q4, _⟩ k (rfl | rfl)
    · exact lt_of_get q3
    · exact lt_of_get q4
  rintro done e rest Y h K hLe ⟨rfl, f, h1, h2, hev⟩ H1 H0
  obtain ⟨hgm, hgl⟩ := get_mid hLe
  refine quintetlaw15_all_r1_ok a20 a21 a22 (some ak) ⟨an, 0, none⟩ _ _ _ _ _ _ h2 ok ?_
  unfold quintetlaw15_all_r1
  refine newV (us := e.k.enc) rfl rfl hdrSz rfl fun g2 e2 c2 b2 z2 => ?_
  have fN := fun (x y : Hp) (e : Ext x y) => e.fr (fun _ => False)
  refine ⟨r, (fN _ _ e2).get h2 (fun h => h), ok.state, ?_⟩
  have f3 : Fr (fun k => k = lr) g2 (g2.setIfInBounds lr (.loop { r with state := .busy })) := set_fr rfl
  have hr3 : (g2.setIfInBounds lr (.loop { r with state := .busy }))[lr]? = some (.loop { r with state := .busy }) := set_get (by have := lt_of_get h2; have := e2.size; omega)
  revert f3 hr3
  generalize g2.setIfInBounds lr (.loop { r with state := .busy }) = g3
  intro f3 hr3
  have F3 : Fr (fun k => k = an ∨ k = lr) g1 g3 := (f.trans (e2.fr _)).trans (f3.mono fun k hk => .inr hk)
  have hb3 := f3.get ((fN _ _ e2).get h1 (fun h => h)) hne
  have cn3 : Cl g3 ⟨an, 0, none⟩ [Value.int .i64 (done.length : Int)] := Cl.of_block hb3 fun j v hj => by rw [Nat.zero_add]; exact hj
  have c203 := F3.cl c20 (by omega)
  have cx3 := f3.cl c2 (by intro e; simp at e; have := lt_of_get h2; omega)
  have rs3 : RSl g3 A L.length 6 (L.flatMap Ent.enc) := ⟨rs.1, rs.2.imp id fun ⟨a, ha, hc⟩ => ⟨a, ha, F3.cl hc (by have := hA a.block ⟨a, ha, rfl⟩; omega)⟩⟩
  refine ⟨_, ld cn3.head (by kernel_rfl), _, _, _, ld c203.head (by kernel_rfl), br_f (by simp; omega) ?_⟩
  obtain ⟨ax, _, _, hix, hcl⟩ := ixR (P := Try.prog) (T := 32) (E := 52) (k := .i64) (c := c) Ent.len rs3 rfl und_en size_en hgm
  have hck : Cl g3 ax e.k.enc := ⟨hcl.spot, fun j v hj => hcl.at_ j v (by
      have : j < 5 := (List.getElem?_eq_some_iff.1 hj).1
      have hj2 : (e.enc)[j]? = (e.k.enc)[j]? := by
        match j, this with
        | 0, _ => rfl
        | 1, _ => rfl
        | 2, _ => rfl
        | 3, _ => rfl
        | 4, _ => rfl
      rw [hj2]; exact hj)⟩
  refine ⟨_, _, _, _, _, ldS (vs := e.k.enc) cx3 (by kernel_rfl), _, _, _, ld c203.head (by kernel_rfl), _, ld cn3.head (by kernel_rfl), _, hix, _, _, _, _, _, ldS (vs := e.k.enc) hck (by kernel_rfl), _, ne71 _ _, br_f (by simp) ?_⟩
  refine ⟨_, _, _, ld c203.head (by kernel_rfl), _, ld cn3.head (by kernel_rfl), _, hix, _, ld (hcl.at_ 5 _ rfl) (by kernel_rfl), br_f (by simp) ?_⟩
  refine ⟨_, ld cn3.head (by kernel_rfl), ?_⟩
  have w1 : IntKind.i64.wrap ((done.length : Int) + 1) = ((done.length + 1 : Nat) : Int) := by rw [wrap_in (by omega) (by omega)]; omega
  rw [w1]
  refine HU_box (us := [Value.int .i64 ((done.length + 1 : Nat) : Int)]) (cs := [Value.int .i64 (done.length : Int)]) hb3 rfl rfl (by kernel_rfl) rfl fun g4 c4 b4 f4 z4 => ?_
  have hr4 := f4.get hr3 (fun e => hne e.symm)
  have F4 : Fr (fun k => k = an ∨ k = lr) g1 g4 := F3.trans (f4.mono fun k hk => .inl hk)
  have f5 : ∀ o, Fr (fun k => k = lr) g4 (g4.setIfInBounds lr o) := fun o => set_fr rfl
  have Fy : ∀ o, Fr (fun k => k = an ∨ k = lr) h (g4.setIfInBounds lr o) := fun o => (((e2.fr _).trans (f3.mono fun k hk => .inr hk)).trans (f4.mono fun k hk => .inl hk)).trans ((f5 o).mono fun k hk => .inr hk)
  have go : (kk = 0 → early ≤ 0 ∨ ((done ++ [e]).length : Int) < early) → rend lr none g4 (fun h => K (.bool true) h) := fun hcond =>
    ⟨_, hr4, H1 _ (fun k => k = an ∨ k = lr) ⟨rfl, f.trans (Fy _), by
      rw [List.length_append, List.length_singleton]
      exact (f5 _).get b4 hne, by rw [set_get (lt_of_get hr4), loop_back r ok.state ok.pending], hcond⟩ (Fy _) (fun k hk => .inl hk)⟩
  refine ⟨_, ld (F4.cl ck (by omega)).head (by kernel_rfl), br_i (fun p => ?_) (fun p => ?_)⟩
  · have hk0 : kk = 0 := by simp at p; omega
    refine ⟨_, ld c4.head (by kernel_rfl), _, ld (F4.cl c21 (by omega)).head (by kernel_rfl), br_i (fun he => ?_) (fun he => ?_)⟩
    · have he' : ((done.length + 1 : Nat) : Int) = early := by simpa using he
      refine ⟨_, hr4, H0 _ ⟨f.trans (Fy _), ?_, ?_, hk0⟩⟩
      · rw [← he']
        exact (f5 _).get b4 hne
      · rw [set_get (lt_of_get hr4)]; rfl
    · have he' : ¬ ((done.length + 1 : Nat) : Int) = early := by simpa using he
      refine go fun _ => ?_
      rw [List.length_append, List.length_singleton]
      have := hev hk0
      omega
  · have hk0 : ¬ kk = 0 := by simp at p; omega
    exact go fun h => absurd h hk0
theorem all_step {b : Nat} {S : Nat → Prop} {m : Int} {M : Hdr → Option Int} {n ll : Nat} {L : List Ent} (lm : LM L M) (hL : L.length ≤ 100000) {a20 a21 a22 a3 ak : Addr} {kk k : Nat} {early : Int} {A : Option Addr} {c : Nat} {K0 K1 : Addr → List Nat → Hp → Prop} {dl : List Nat} {h : Hp}
    (q : HB h b S m M n ll) (hk : kk = 0 ∨ kk = 1) (rs : RSl h A L.length 6 (L.flatMap Ent.enc)) (hA : ∀ k, blk A k → k < h.size) (c20 : Cl h a20 [.slice A L.length c]) (c21 : Cl h a21 [.int .i64 early]) (ck : Cl h ak [.int .i64 (kk : Int)]) (c3 : Cl h a3 [.pointer (some ⟨b, 0, none⟩)])
    (H : ∀ h' D a, Ext h h' → h.size ≤ D → h'[D]? = some (.deferred (some [])) → Cl h' a [.int .i64 ((kk + 1 : Nat) : Int)] → quintetlaw15_all_l1 a20 a21 a22 (.func (.func 46) #[] #[.pointer (some a3)]) K0 K1 k (some a) (D :: dl) h') :
    quintetlaw15_all_l1 a20 a21 a22 (.func (.func 46) #[] #[.pointer (some a3)]) K0 K1 (k + 1) (some ak) dl h := by
  unfold quintetlaw15_all_l1
  refine ⟨_, ld ck.head (by kernel_rfl), br_t (by simp; omega) ?_⟩
  refine newV (us := [.int .i64 0]) (cs := [.int .i64 0]) rfl rfl (by kernel_rfl) rfl fun h1 e1 k1 b1 z1 => ?_
  have fN := fun (x y : Hp) (e : Ext x y) => e.fr (fun _ => False)
  refine ⟨_, _, rfl, by kernel_rfl, fun r ok => ?_⟩
  show CallsH Try.prog 46 #[yieldV (h1.size + 1), .pointer (some a3)] _ _
  have e2 : Ext h1 ((h1.push (.deferred (some []))).push (.loop r)) := (Ext.push h1 _).trans (Ext.push _ _)
  have hD2 : ((h1.push (.deferred (some []))).push (.loop r))[h1.size]? = some (.deferred (some [])) := by
    rw [Array.getElem?_push, if_neg (by simp), Array.getElem?_push, if_pos rfl]
  have hR : ((h1.push (.deferred (some []))).push (.loop r))[h1.size + 1]? = some (.loop r) := by rw [Array.getElem?_push, if_pos (by simp)]
  have hsz : ((h1.push (.deferred (some []))).push (.loop r)).size = h1.size + 2 := by simp
  revert e2 hD2 hR hsz
  generalize (h1.push (.deferred (some []))).push (.loop r) = g1
  intro e2 hD2 hR hsz
  have s1 := e1.size
  have E2 := e1.trans e2
  have b12 := (fN _ _ e2).get b1 (fun h => h)
  have l20 : a20.block < h.size := cell_lt c20.head
  have l21 : a21.block < h.size := cell_lt c21.head
  have lk : ak.block < h.size := cell_lt ck.head
  have c20g := c20.ext E2
  have c21g := c21.ext E2
  have ckg := ck.ext E2
  have Egl : ∀ h', Fr (fun k => k = h.size ∨ k = h1.size + 1) g1 h' → Ext h h' := fun h' f => ⟨Nat.le_trans E2.size f.size, fun k hk => by rw [f.keep k (by omega) (by omega), E2.old k hk]⟩
  have nx : ∀ (g4 : Hp), Fr (fun k => k = h.size ∨ k = h1.size + 1) g1 g4 → ∃ x116 : Int, HV Try.prog (Instr.loadAt 3 (.pointer (some ak))) g4 (.int .i64 x116) ∧ 
    newC g4 (.cells #[(.int .i64 0)] 3 (0, 0)) fun a118 h117 => 
    HU Try.prog (Instr.storeAt 3 (.pointer (some a118)) (.int .i64 x116)) h117 fun h119 => 
    ∃ x120 : Int, HV Try.prog (Instr.loadAt 3 (.pointer (some a118))) h119 (.int .i64 x120) ∧ 
    HU Try.prog (Instr.storeAt 3 (.pointer (some a118)) (.int .i64 (IntKind.i64.wrap (x120 + 1)))) h119 fun h121 => 
    quintetlaw15_all_l1 a20 a21 a22 (.func (.func 46) #[] #[.pointer (some a3)]) K0 K1 k (some a118) (h1.size :: dl) h121 := fun g4 f4 => by
    have s4 := f4.size
    refine ⟨_, ld (f4.cl ckg (by omega)).head (by kernel_rfl), ?_⟩
    refine newV (us := [.int .i64 (kk : Int)]) (cs := [.int .i64 0]) rfl rfl (by kernel_rfl) rfl fun g5 e5 c5 b5 z5 => ?_
    refine ⟨_, ld c5.head (by kernel_rfl), ?_⟩
    have w1 : IntKind.i64.wrap ((kk : Int) + 1) = ((kk + 1 : Nat) : Int) := by rw [wrap_in (by omega) (by omega)]; omega
    rw [w1]
    refine HU_box (us := [Value.int .i64 ((kk + 1 : Nat) : Int)]) (cs := [Value.int .i64 (kk : Int)]) b5 rfl rfl (by kernel_rfl) rfl fun g6 c6 b6 f6 z6 => ?_
    have s5 := e5.size
    refine H g6 h1.size _ (extOwn ((Egl _ f4).trans e5) f6 (fun q hq => by subst hq; have := (Egl _ f4).size; omega)) (by omega) ?_ c6
    exact f6.get ((fN _ _ e5).get (f4.get hD2 (by omega)) (fun h => h)) (by omega)
  refine all1_s (q.ext E2) lm (c3.ext E2) (all_rd (g1 := g1) (a20 := a20) (a21 := a21) (a22 := a22) (ak := ak) (an := h.size) (lr := h1.size + 1) (kk := kk) (early := early) (rs.ext E2) (fun q hq => by have := hA q hq; omega) hL c20g c21g ckg (by omega) (by omega) (by omega) (by omega) ok) (Y := fun k => k = h.size ∨ k = h1.size + 1) ⟨rfl, Fr.refl _ _, b12, hR, fun _ => by simp; omega⟩ (fun h' Y q => ?_) (fun h' q => ?_)
  · obtain ⟨_, f7, h71, h72, hz⟩ := q
    refine ⟨_, h72, by rw [ok.state]; decide, ?_⟩
    rw [ok.pending]
    have f8 : ∀ o, Fr (fun k => k = h1.size + 1) h' (h'.setIfInBounds (h1.size + 1) o) := fun o => set_fr rfl
    have F8 : ∀ o, Fr (fun k => k = h.size ∨ k = h1.size + 1) g1 (h'.setIfInBounds (h1.size + 1) o) := fun o => f7.trans ((f8 o).mono fun k hk => .inr hk)
    have cn8 : ∀ o, Cl (h'.setIfInBounds (h1.size + 1) o) ⟨h.size, 0, none⟩ [Value.int .i64 (L.length : Int)] := fun o => Cl.of_block (cs := [Value.int .i64 (L.length : Int)]) ((f8 o).get h71 (by omega)) fun j v hj => by rw [Nat.zero_add]; exact hj
    refine ⟨_, ld (cn8 _).head (by kernel_rfl), _, _, _, ld ((F8 _).cl c20g (by omega)).head (by kernel_rfl), br_f (by simp) ?_⟩
    exact nx _ (F8 _)
  · obtain ⟨f7, h71, h72, hk0⟩ := q
    refine ⟨_, h72, by simp, ?_⟩
    have f8 : ∀ o, Fr (fun k => k = h1.size + 1) h' (h'.setIfInBounds (h1.size + 1) o) := fun o => set_fr rfl
    have F8 : ∀ o, Fr (fun k => k = h.size ∨ k = h1.size + 1) g1 (h'.setIfInBounds (h1.size + 1) o) := fun o => f7.trans ((f8 o).mono fun k hk => .inr hk)
    have cn8 : ∀ o, Cl (h'.setIfInBounds (h1.size + 1) o) ⟨h.size, 0, none⟩ [Value.int .i64 early] := fun o => Cl.of_block (cs := [Value.int .i64 early]) ((f8 o).get h71 (by omega)) fun j v hj => by rw [Nat.zero_add]; exact hj
    refine ⟨_, ld (cn8 _).head (by kernel_rfl), _, _, _, ld ((F8 _).cl c20g (by omega)).head (by kernel_rfl), br_i (fun p => ?_) (fun p => nx _ (F8 _))⟩
    refine ⟨_, ld ((F8 _).cl ckg (by omega)).head (by kernel_rfl), br_f (by rw [hk0]; rfl) ?_⟩
    exact ⟨_, ld (cn8 _).head (by kernel_rfl), _, ld ((F8 _).cl c21g (by omega)).head (by kernel_rfl), br_f (by simp) (nx _ (F8 _))⟩
theorem all_s {b : Nat} {S : Nat → Prop} {m : Int} {M : Hdr → Option Int} {n ll : Nat} {L : List Ent} (lm : LM L M) (hL : L.length ≤ 100000) {early : Int} {A : Option Addr} {c : Nat} {h : Hp}
    (q : HB h b S m M n ll) (rs : RSl h A L.length 6 (L.flatMap Ent.enc)) (hA : ∀ k, blk A k → k < h.size) {K : Value → Hp → Prop} (H : ∀ h', Ext h h' → K (.bool true) h') :
    CallsH Try.prog 21 #[.pointer (some ⟨b, 0, none⟩), .slice A L.length c, .int .i64 early] h K := by
  refine quintetlaw15_all_ok _ _ _ _ _ ?_
  unfold quintetlaw15_all
  refine newC_i fun h1 e1 c1 b1 z1 => newC_i (cs := [Value.int .i64 early]) fun h2 e2 c2 b2 z2 => newC_i (cs := [Value.bool false]) fun h3 e3 c3 b3 z3 => ?_
  have fN := fun (x y : Hp) (e : Ext x y) => e.fr (fun _ => False)
  refine hash_Table_All_ok _ ?_
  unfold hash_Table_All
  refine newC_i (cs := [Value.pointer (some ⟨b, 0, none⟩)]) fun h4 e4 c4 b4 z4 => ⟨_, rfl, false, fun w => pureRun_run Try.prog _ _ (by kernel_rfl) w, br_f rfl ?_⟩
  refine newV (us := [.int .i64 0]) (cs := [.int .i64 0]) rfl rfl (by kernel_rfl) rfl fun h5 e5 c5 b5 z5 => ⟨3, ?_⟩
  have s1 := e1.size
  have s2 := e2.size
  have s3 := e3.size
  have s4 := e4.size
  have s5 := e5.size
  have E5 := (((e1.trans e2).trans e3).trans e4).trans e5
  refine all_step (kk := 0) lm hL (q.ext E5) (.inl rfl) (rs.ext E5) (fun k hk => by have := hA k hk; omega) ((((c1.ext e2).ext e3).ext e4).ext e5) (((c2.ext e3).ext e4).ext e5) c5 (c4.ext e5) fun h6 D1 a6 e6 hD1 d1 c6 => ?_
  have E6 := E5.trans e6
  have s6 := e6.size
  refine all_step (kk := 1) lm hL (q.ext E6) (.inr rfl) (rs.ext E6) (fun k hk => by have := hA k hk; omega) (((((c1.ext e2).ext e3).ext e4).ext e5).ext e6) ((((c2.ext e3).ext e4).ext e5).ext e6) c6 ((c4.ext e5).ext e6) fun h7 D2 a7 e7 hD2 d2 c7 => ?_
  unfold quintetlaw15_all_l1
  refine ⟨_, ld c7.head (by kernel_rfl), br_f (by decide) ?_⟩
  have E37 := ((e4.trans e5).trans e6).trans e7
  have b37 := (fN _ _ E37).get b3 (fun h => h)
  have s7 := e7.size
  refine HU_box (us := [Value.bool true]) (cs := [Value.bool false]) b37 rfl rfl boolSz rfl fun h8 c8 b8 f8 z8 => ?_
  have l1 := lt_of_get d1
  have d27 := f8.get d2 (by omega)
  have d17 := f8.get ((fN _ _ e7).get d1 (fun h => h)) (by omega)
  have f9 : ∀ o, Fr (fun k => k = D2) h8 (h8.setIfInBounds D2 o) := fun o => set_fr rfl
  refine ⟨d27, (f9 _).get d17 (by omega), ?_⟩
  have f10 : ∀ o o', Fr (fun k => k = D1) (h8.setIfInBounds D2 o) ((h8.setIfInBounds D2 o).setIfInBounds D1 o') := fun o o' => set_fr rfl
  have c10 := (f10 (.deferred none) (.deferred none)).cl ((f9 (.deferred none)).cl c8 (by show ¬ h2.size = D2; omega)) (by show ¬ h2.size = D1; omega)
  refine ⟨_, ld c10.head (by kernel_rfl), H _ ?_⟩
  have E7 := E6.trans e7
  have s8 := f8.size
  refine ⟨by have := (f10 (.deferred none) (.deferred none)).size; have := (f9 (.deferred none)).size; omega, fun k hk => ?_⟩
  rw [(f10 _ _).keep k (by have := (f9 (.deferred none)).size; omega) (by omega), (f9 _).keep k (by omega) (by omega), f8.keep k (by omega) (by omega), E7.old k hk]
end Go.Proofs.Ytofjbbfnkefoaaa.Fs
