/- One call of a script, held against the list. -/
import Derived.Test.YtgecabgcjfpenaaTRuns4
namespace Go.Proofs.Ytgecabgcjfpenaa.Fs
open Go Go.RowKit Go.Proofs.Ytgecabgcjfpenaa.Sx
set_option linter.unusedVariables false
set_option linter.unusedSimpArgs false
set_option maxRecDepth 10000
/-- A list of rules in memory that is none of S's. -/
structure LAt (h : Hp) (S : Nat → Prop) (A : Option Addr) (l c : Nat) (xs : List Rul) : Prop where
  len : xs.length = l
  cap : l ≤ c
  small : l ≤ 64
  row : RSl h A l 12 (xs.flatMap Rul.enc)
  sep : 0 < l → ∀ a, A = some a → ¬ S a.block
  wf : ∀ x ∈ xs, x.wf
theorem LAt.keep {h h' : Hp} {S S' : Nat → Prop} {A : Option Addr} {l c : Nat} {xs : List Rul} (q : LAt h S A l c xs) (f : Fr S h h') (hS : ∀ k, S' k → S k ∨ h.size ≤ k) : LAt h' S' A l c xs :=
  ⟨q.len, q.cap, q.small, Fr.rsl f q.row q.sep, fun hz a ha hs => by
    rcases hS _ hs with h | h
    · exact q.sep hz a ha h
    · have := rsl_block q.row hz a ha; omega, q.wf⟩
theorem insI_ne {cf : Cfg} {xs : List Rul} {p : Int} {r : Rul} (h : (insI cf xs p r).1 ≠ 0) : (insI cf xs p r).2 = xs := by
  unfold insI at *
  split
  · rfl
  · rename_i h1
    rw [if_neg h1] at h
    split
    · rfl
    · rename_i h2
      rw [if_neg h2] at h
      split
      · rfl
      · rename_i h3
        rw [if_neg h3] at h
        exact absurd rfl h
theorem insI_z {cf : Cfg} {xs : List Rul} {p : Int} {r : Rul} (hm : cf.max ≤ 64) (h : (insI cf xs p r).1 = 0) : (insI cf xs p r).2.length ≤ 64 ∧ ∀ x ∈ (insI cf xs p r).2, x ∈ xs ∨ x = r := by
  unfold insI at *
  split at h
  · rename_i h1; exact absurd h h1
  · rename_i h1
    rw [if_neg h1]
    split at h
    · cases h
    · rename_i h2
      rw [if_neg h2]
      split at h
      · cases h
      · rename_i h3
        rw [if_neg h3]
        refine ⟨by simp; omega, fun x hx => ?_⟩
        rcases List.mem_append.1 hx with hx | hx
        · exact .inl (List.mem_of_mem_take hx)
        · rcases List.mem_cons.1 hx with hx | hx
          · exact .inr hx
          · exact .inl (List.mem_of_mem_drop hx)
theorem delI_z {xs : List Rul} {id : Int} : (delI xs id).2.length ≤ xs.length ∧ ∀ x ∈ (delI xs id).2, x ∈ xs := by
  unfold delI
  split
  · exact ⟨Nat.le_refl _, fun x hx => hx⟩
  · refine ⟨by simp; omega, fun x hx => ?_⟩
    rcases List.mem_append.1 hx with hx | hx
    · exact List.mem_of_mem_take hx
    · exact List.mem_of_mem_drop hx
theorem movI_ne {xs : List Rul} {id p : Int} (h : (movI xs id p).1 ≠ 0) : (movI xs id p).2 = xs := by
  unfold movI at *
  split
  · rfl
  · rename_i h1
    rw [dif_neg h1] at h
    split
    · rfl
    · rename_i h2
      rw [if_neg h2] at h
      exact absurd rfl h
theorem movI_z {xs : List Rul} {id p : Int} (h : (movI xs id p).1 = 0) : (movI xs id p).2.length ≤ xs.length ∧ ∀ x ∈ (movI xs id p).2, x ∈ xs := by
  unfold movI at *
  split at h
  · cases h
  · rename_i h1
    rw [dif_neg h1]
    split at h
    · cases h
    · rename_i h2
      rw [if_neg h2]
      obtain ⟨j, hj, hjl, _⟩ := findI_lt xs id (by omega)
      simp only [hj, Int.toNat_natCast]
      have hgd : xs.getD j zRul = xs[j] := by simp [List.getD, hjl]
      rw [hgd]
      refine ⟨by simp; omega, fun x hx => ?_⟩
      have hy : ∀ y ∈ xs.take j ++ xs.drop (j + 1), y ∈ xs := fun y hy => by
        rcases List.mem_append.1 hy with hy | hy
        · exact List.mem_of_mem_take hy
        · exact List.mem_of_mem_drop hy
      rcases List.mem_append.1 hx with hx | hx
      · exact hy x (List.mem_of_mem_take hx)
      · rcases List.mem_cons.1 hx with hx | hx
        · rw [hx]; exact List.getElem_mem hjl
        · exact hy x (List.mem_of_mem_drop hx)
theorem setI_len {max : Int} (hm : max ≤ 64) : ∀ (rs seen : List Rul) (i : Nat), setI max seen rs i = 0 → i ≤ 64 → i + rs.length ≤ 64
  | [], _, i, _, hi => by simpa using hi
  | r :: rs, seen, i, h, hi => by
    rw [setI] at h
    split at h
    · rename_i h1; exact absurd h h1
    · split at h
      · cases h
      · rename_i h2
        have := setI_len hm rs (seen ++ [r]) (i + 1) h (by omega)
        simp; omega
theorem cf_max {cf : Cfg} (h : cf.check = 0) : cf.max ≤ 64 := by
  unfold Cfg.check at h
  split at h
  · rename_i h1
    simp [Cfg.ok, inB] at h1
    omega
  · cases h
theorem row_lat {h : Hp} {S : Nat → Prop} {A : Option Addr} {c : Nat} {xs : List Rul} (r : RowR h A c xs) (hs : xs.length ≤ 64) (hn : ∀ k, blk A k → ¬ S k) (hw : ∀ x ∈ xs, x.wf) : LAt h S A xs.length c xs :=
  ⟨rfl, row_cap r, hs, r.read, fun _ a ha => hn _ ⟨a, ha, rfl⟩, hw⟩
theorem step_s {h : Hp} {b : Nat} {S : Nat → Prop} {cf : Cfg} {xs : List Rul} (t : TabAt h b S cf xs) (hck : cf.check = 0) {A : Option Addr} {l c : Nat} (L : LAt h S A l c xs) (o : Opr) (hro : o.rule.wf) (hho : o.head.wf) {zs : List Rul} (hz : zs.length = o.l) (hzl : o.l ≤ 2000) (hzc : o.l ≤ o.c) (hzr : RSl h o.A o.l 12 (zs.flatMap Rul.enc)) (hzS : 0 < o.l → ∀ a, o.A = some a → ¬ S a.block) (hzw : ∀ x ∈ zs, x.wf) {K : Value → Hp → Prop}
    (H : ∀ h' S' A' l' c' xs', TabAt h' b S' cf xs' → LAt h' S' A' l' c' xs' → (∀ k, S' k → S k ∨ h.size ≤ k) → Fr S h h' → (0 < l' → ∀ a, A' = some a → A' = A ∨ h.size ≤ a.block) → K (.tuple #[.slice A' l' c', .bool true]) h') :
    CallsH Try.prog 26 #[.pointer (some ⟨b, 0, none⟩), .slice A l c, cf.val, .agg o.enc.toArray] h K := by
  refine quintetlaw11_step_ok _ _ _ _ _ _ _ _ _ _ _ _ _ _ _ _ _ _ _ _ _ _ _ _ _ _ _ _ _ _ _ _ _ _ ?_
  unfold quintetlaw11_step
  have hm := cf_max hck
  have hl := L.len
  have hls := L.small
  refine newC_i fun h1 e1 c1 b1 z1 => newC_i fun h2 e2 c2 b2 z2 => ?_
  have e12 := e1.trans e2
  have s1 := e1.size
  have s12 := e12.size
  have t2 := t.ext e12
  have L2 := L.keep (e12.fr S) (fun k hk => .inl hk)
  have cc : Cl h2 ⟨h.size, 0, none⟩ cf.enc := c1.ext e2
  have co : Cl h2 ⟨h1.size, 0, none⟩ o.enc := c2
  have nS0 : ¬ S h.size := fun hs => by have := t.2.1 _ hs; omega
  have nS1 : ¬ S h1.size := fun hs => by have := t.2.1 _ hs; omega
  -- the list stays
  have same : ∀ h' S', TabAt h' b S' cf xs → (∀ k, S' k → S k ∨ h.size ≤ k) → Fr S h h' → K (.tuple #[.slice A l c, .bool true]) h' := fun h' S' t' hS' f' => H h' S' A l c xs t' (L.keep f' hS') hS' f' (fun _ a ha => .inl rfl)
  refine ⟨o.kind, ld (co.at_ 0 _ rfl) (by kernel_rfl), br_i (fun hk => ?_) (fun _ => br_i (fun hk => ?_) (fun _ => br_i (fun hk => ?_) (fun _ => br_i (fun hk => ?_) (fun _ => br_i (fun hk => ?_) (fun _ => br_i (fun hk => ?_) (fun _ => br_i (fun hk => ?_) (fun _ => ?_)))))))⟩
  · -- Insert
    refine ⟨o.place, ld (co.at_ 1 _ rfl) (by kernel_rfl), _, _, _, _, _, _, _, _, _, _, _, _, ldS (Cl.sl co (n := 3) (us := o.rule.enc) rfl) (by kernel_rfl), ?_⟩
    refine table_Insert_s t2 o.place (by omega) o.rule fun h3 S3 t3 hS3 f3 => ⟨_, rfl, ?_⟩
    have co3 := f3.cl co nS1
    have cc3 := f3.cl cc nS0
    refine ⟨cf.max, ld (cc3.at_ 0 _ rfl) (by kernel_rfl), o.place, ld (co3.at_ 1 _ rfl) (by kernel_rfl), _, _, _, _, _, _, _, _, _, _, _, _, ldS (Cl.sl co3 (n := 3) (us := o.rule.enc) rfl) (by kernel_rfl), ?_⟩
    have L3 := L2.keep f3 hS3
    have F3 := (e12.fr S).trans f3
    have hS3' : ∀ k, S3 k → S k ∨ h.size ≤ k := fun k hk => (hS3 k hk).imp id (fun h => by omega)
    refine rinsert_s L3.row hl L.cap (by omega) cf o.place o.rule hro (fun hne h4 e4 => ?_) (fun hz0 h4 A4 c4 r4 b4 e4 => ?_)
    · refine ⟨_, _, _, _, rfl, ?_⟩
      rw [insI_ne hne] at t3
      have := same h4 S3 (t3.ext e4) hS3' (F3.trans (e4.fr S))
      simpa using this
    · refine ⟨_, _, _, _, rfl, ?_⟩
      obtain ⟨q1, q2⟩ := insI_z hm hz0
      have := H h4 S3 A4 _ c4 _ (t3.ext e4) (row_lat r4 q1 (fun k hk hs => by have := b4 k hk; have := t3.2.1 k hs; omega) (fun x hx => by
        rcases q2 x hx with h | h
        · exact L.wf x h
        · rw [h]; exact hro)) hS3' (F3.trans (e4.fr S)) (fun _ a ha => .inr (by have := b4 _ ⟨a, ha, rfl⟩; have := F3.size; omega))
      rw [hz0]
      exact this
  · -- Delete
    refine ⟨o.id, ld (co.at_ 2 _ rfl) (by kernel_rfl), ?_⟩
    refine table_Delete_s t2 o.id (by omega) fun h3 t3 f3 => ⟨_, rfl, ?_⟩
    have co3 := f3.cl co nS1
    refine ⟨o.id, ld (co3.at_ 2 _ rfl) (by kernel_rfl), ?_⟩
    have L3 := L2.keep f3 (fun k hk => .inl hk)
    have F3 := (e12.fr S).trans f3
    refine rdel_s L3.row hl L.cap (by omega) o.id (fun hneg => ?_) (fun hneg h4 A4 c4 r4 b4 e4 => ?_)
    · refine ⟨_, _, _, _, rfl, ?_⟩
      have hd : delI xs o.id = (114, xs) := by rw [delI, if_pos hneg]
      rw [hd] at t3 ⊢
      exact same h3 S t3 (fun k hk => .inl hk) F3
    · refine ⟨_, _, _, _, rfl, ?_⟩
      obtain ⟨q1, q2⟩ := delI_z (xs := xs) (id := o.id)
      have hd0 : (delI xs o.id).1 = 0 := by rw [delI, if_neg hneg]
      have := H h4 S A4 _ c4 _ (t3.ext e4) (row_lat r4 (by omega) (fun k hk hs => by have := b4 k hk; have := t3.2.1 k hs; omega) (fun x hx => L.wf x (q2 x hx))) (fun k hk => .inl hk) (F3.trans (e4.fr S)) (fun _ a ha => .inr (by have := b4 _ ⟨a, ha, rfl⟩; have := F3.size; omega))
      rw [hd0]
      exact this
  · -- Move
    refine ⟨o.id, ld (co.at_ 2 _ rfl) (by kernel_rfl), o.place, ld (co.at_ 1 _ rfl) (by kernel_rfl), ?_⟩
    refine table_Move_s t2 o.id o.place (by omega) fun h3 S3 t3 hS3 f3 => ⟨_, rfl, ?_⟩
    have co3 := f3.cl co nS1
    refine ⟨o.id, ld (co3.at_ 2 _ rfl) (by kernel_rfl), o.place, ld (co3.at_ 1 _ rfl) (by kernel_rfl), ?_⟩
    have L3 := L2.keep f3 hS3
    have F3 := (e12.fr S).trans f3
    have hS3' : ∀ k, S3 k → S k ∨ h.size ≤ k := fun k hk => (hS3 k hk).imp id (fun h => by omega)
    refine rmove_s L3.row hl L.cap (by omega) o.id o.place (fun hne => ?_) (fun hz0 h4 A4 c4 r4 b4 e4 => ?_)
    · refine ⟨_, _, _, _, rfl, ?_⟩
      rw [movI_ne hne] at t3
      have := same h3 S3 t3 hS3' F3
      simpa using this
    · refine ⟨_, _, _, _, rfl, ?_⟩
      obtain ⟨q1, q2⟩ := movI_z hz0
      have := H h4 S3 A4 _ c4 _ (t3.ext e4) (row_lat r4 (by omega) (fun k hk hs => by have := b4 k hk; have := t3.2.1 k hs; omega) (fun x hx => L.wf x (q2 x hx))) hS3' (F3.trans (e4.fr S)) (fun _ a ha => .inr (by have := b4 _ ⟨a, ha, rfl⟩; have := F3.size; omega))
      rw [hz0]
      exact this
  · -- Set
    refine ⟨_, _, _, ld (co.at_ 20 _ rfl) (by kernel_rfl), ?_⟩
    refine lend_s (hzr.ext e12) hz (by omega) fun h3 e3 hlt3 r3 => ⟨_, _, _, rfl, ?_⟩
    have t3 := t2.ext e3
    have hll : (zs ++ [mk 0, mk 1]).length = o.l + 2 := by simp [hz]
    have rt : RSl h3 (some ⟨h2.size, 0, none⟩) o.l 12 (zs.flatMap Rul.enc) := by
      have := rsl_take r3.read rfl (n := o.l) (by omega)
      rw [List.take_left' hz] at this
      exact this
    refine table_Set_s t3 hz (by omega) (by omega) rt (fun _ a ha hs => by injection ha with ha; subst ha; have := t2.2.1 _ hs; simp at this) fun h4 S4 t4 hS4 f4 => ⟨_, rfl, ?_⟩
    have e23 := e12.trans e3
    have co4 := f4.cl (co.ext e3) nS1
    refine ⟨_, _, _, ld (co4.at_ 20 _ rfl) (by kernel_rfl), ?_⟩
    have F4 : Fr S h h4 := (e23.fr S).trans f4
    have hz4 := Fr.rsl F4 hzr hzS
    have r4 := r3.keep f4 (by rintro k ⟨a, ha, rfl⟩ hs; injection ha with ha; subst ha; have := t2.2.1 _ hs; simp at this)
    have hlt4 : h2.size < h4.size := by have := f4.size; omega
    refine back_s r4 hz4 hz (by omega) hlt4 fun h5 f5 => ⟨_, rfl, ?_⟩
    have F5 : Fr S h h5 := F4.then_ f5 (fun k hk => .inr (by omega))
    have nb5 : ∀ k, S4 k → k ≠ h2.size := fun k hk e => by
      rcases hS4 k hk with h | h
      · have := t2.2.1 _ h; omega
      · omega
    have t5 := t4.keep f5 (fun k hk e => nb5 k hk e)
    have co5 := f5.cl co4 (by intro e; simp at e; have := e2.size; omega)
    have cc5 := f5.cl (f4.cl (cc.ext e3) nS0) (by intro e; simp at e; omega)
    refine ⟨_, _, _, ld (co5.at_ 20 _ rfl) (by kernel_rfl), cf.max, ld (cc5.at_ 0 _ rfl) (by kernel_rfl), ?_⟩
    have hz5 := Fr.rsl F5 hzr hzS
    refine rset_s zs hzw cf.max hz (by omega) hzc hz5 fun h6 e6 => ⟨_, rfl, ?_⟩
    have hS4' : ∀ k, S4 k → S k ∨ h.size ≤ k := fun k hk => (hS4 k hk).imp id (fun h => by have := e3.size; omega)
    have F6 := F5.trans (e6.fr S)
    refine br_i (fun hne => br_t rfl ?_) (fun heq => ?_)
    · have hn : setI cf.max [] zs 0 ≠ 0 := by simpa using hne
      rw [if_neg hn] at t5
      have := same h6 S4 (t5.ext e6) hS4' F6
      simpa using this
    · have hz0 : setI cf.max [] zs 0 = 0 := by simpa using heq
      rw [if_pos hz0] at t5
      refine ⟨_, _, _, ld ((co5.ext e6).at_ 20 _ rfl) (by kernel_rfl), ?_⟩
      refine rcopy_s (hz5.ext e6) hz (by omega) fun h7 e7 r7 => ⟨_, _, _, rfl, br_t rfl ?_⟩
      have hsm := setI_len hm zs [] 0 hz0 (by omega)
      have t7 := (t5.ext e6).ext e7
      have := H h7 S4 (some ⟨h6.size, 0, none⟩) zs.length o.l zs t7 (row_lat r7 (by omega) (by rintro k ⟨a, ha, rfl⟩ hs; injection ha with ha; subst ha; have := (t5.ext e6).2.1 _ hs; simp at this) hzw) hS4' (F6.trans (e7.fr S)) (fun _ a ha => .inr (by injection ha with ha; subst ha; have := F6.size; simpa using this))
      rw [hz] at this
      simpa using this
  · -- Find
    refine ⟨o.id, ld (co.at_ 2 _ rfl) (by kernel_rfl), table_Find_s t2 o.id (by omega) ⟨_, rfl, o.id, ld (co.at_ 2 _ rfl) (by kernel_rfl), ld (co.at_ 2 _ rfl) (by kernel_rfl), ?_⟩⟩
    refine rfind_s L2.row hl o.id (by omega) ⟨_, rfl, ?_⟩
    have := same h2 S t2 (fun k hk => .inl hk) (e12.fr S)
    simpa using this
  · -- At
    refine ⟨o.place, ld (co.at_ 1 _ rfl) (by kernel_rfl), ?_⟩
    refine table_At_s t2 o.place (by omega) fun h3 e3 => ⟨_, _, _, _, _, _, _, _, _, _, _, _, _, rfl, ?_⟩
    refine newV (us := (atI xs o.place).1.enc) rfl rfl size55 rfl fun h4 e4 c4 b4 z4 => ?_
    have e34 := e3.trans e4
    have fin : K (.tuple #[.slice A l c, .bool true]) h4 := same h4 S (t2.ext e34) (fun k hk => .inl hk) ((e12.trans e34).fr S)
    have co4 := co.ext e34
    have zero : ¬ (0 ≤ o.place ∧ o.place < xs.length) → br ((atI xs o.place).2 == 112)
        (∃ x226 : Int, ∃ x227 : Int, ∃ x228 : Int, ∃ x229 : Int, ∃ x230 : Int, ∃ x231 : Int, ∃ x232 : Int, ∃ x233 : Int, ∃ x234 : Int, ∃ x235 : Int, ∃ x236 : Int, ∃ x237 : Int, HV Try.prog (Instr.loadAt 55 (.pointer (some ⟨h3.size, 0, none⟩))) h4 (.agg #[(.int .i64 x226), (.int .u32 x227), (.int .i64 x228), (.int .u32 x229), (.int .i64 x230), (.int .u16 x231), (.int .u16 x232), (.int .u16 x233), (.int .u16 x234), (.int .u8 x235), (.int .u8 x236), (.int .i64 x237)]) ∧
          ∃ b238 : Bool, PV Try.prog (binOp .eql 55 (.agg #[(.int .i64 x226), (.int .u32 x227), (.int .i64 x228), (.int .u32 x229), (.int .i64 x230), (.int .u16 x231), (.int .u16 x232), (.int .u16 x233), (.int .u16 x234), (.int .u8 x235), (.int .u8 x236), (.int .i64 x237)]) (.agg #[(.int .i64 0), (.int .u32 0), (.int .i64 0), (.int .u32 0), (.int .i64 0), (.int .u16 0), (.int .u16 0), (.int .u16 0), (.int .u16 0), (.int .u8 0), (.int .u8 0), (.int .i64 0)])) (.bool b238) ∧ K (.tuple #[.slice A l c, .bool b238]) h4)
        (K (.tuple #[.slice A l c, .bool false]) h4) := fun hp => by
      have ha : atI xs o.place = (zRul, 112) := by rw [atI, dif_neg hp]
      rw [ha] at c4 ⊢
      exact br_t rfl ⟨_, _, _, _, _, _, _, _, _, _, _, _, ldS c4 (by kernel_rfl), true, eq55 zRul, fin⟩
    refine ⟨o.place, ld (co4.at_ 1 _ rfl) (by kernel_rfl), br_i (fun hn => zero (by simp at hn; omega)) (fun hn => ⟨o.place, ld (co4.at_ 1 _ rfl) (by kernel_rfl), br_i (fun hg => zero (by simp at hg; omega)) (fun hg => ?_)⟩)⟩
    have hp : 0 ≤ o.place ∧ o.place < xs.length := by simp at hn hg; omega
    have ha : atI xs o.place = (xs[o.place.toNat]'(by omega), 0) := by rw [atI, dif_pos hp]
    rw [ha] at c4 ⊢
    unfold quintetlaw11_step_j1
    refine br_t rfl ⟨_, _, _, _, _, _, _, _, _, _, _, _, ldS c4 (by kernel_rfl), o.place, ld (co4.at_ 1 _ rfl) (by kernel_rfl), ?_⟩
    obtain ⟨a, hpv, hcl⟩ := rd_elem (c := c) (L2.row.ext e34) hl (i := o.place.toNat) (by omega)
    rw [Int.toNat_of_nonneg hp.1] at hpv
    exact ⟨_, hpv, _, _, _, _, _, _, _, _, _, _, _, _, ldS hcl (by kernel_rfl), true, eq55 _, fin⟩
  · -- Match
    refine ⟨_, _, _, _, _, ldS (Cl.sl co (n := 15) (us := o.head.enc) rfl) (by kernel_rfl), ?_⟩
    refine table_Match_s t2 o.head (by omega) fun h3 v i e3 hmt => ⟨_, _, _, _, rfl, ?_⟩
    refine newV (us := verd v) rfl rfl size40 rfl fun h4 e4 c4 b4 z4 => ?_
    have e34 := e3.trans e4
    have co4 := co.ext e34
    refine ⟨cf.dflt, ld ((cc.ext e34).at_ 1 _ rfl) (by kernel_rfl), _, _, _, _, _, ldS (Cl.sl co4 (n := 15) (us := o.head.enc) rfl) (by kernel_rfl), ?_⟩
    refine rmatch_s L.wf hl (L2.row.ext e34) o.head hho cf.dflt (by omega) fun h5 v5 i5 e5 hm5 => ⟨_, _, _, _, rfl, ?_⟩
    have hq := hmt.symm.trans hm5
    injection hq with hv hi
    subst hv hi
    refine newV (us := verd v) rfl rfl size40 rfl fun h6 e6 c6 b6 z6 => ?_
    refine ⟨_, _, _, ldS (vs := verd v) ((c4.ext e5).ext e6) (by kernel_rfl), _, _, _, ldS (vs := verd v) c6 (by kernel_rfl), _, eq40 _ _ _ _ _ _, br_t (by simp) ?_⟩
    have := same h6 S (((t2.ext e34).ext e5).ext e6) (fun k hk => .inl hk) (((e12.trans e34).trans (e5.trans e6)).fr S)
    simpa using this
  · -- told
    refine told_s t2 hl (by omega) L2.row fun h3 e3 => ⟨_, rfl, ?_⟩
    exact same h3 S (t2.ext e3) (fun k hk => .inl hk) ((e12.trans e3).fr S)
end Go.Proofs.Ytgecabgcjfpenaa.Fs
