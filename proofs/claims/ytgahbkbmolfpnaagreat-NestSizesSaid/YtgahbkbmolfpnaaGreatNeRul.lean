/- Prefixes and rules: nest.src, dst, prefix.Within, Compare, nest.list. -/
import Derived.Test.YtgahbkbmolfpnaaGreatNeLib
import Derived.Test.YtgahbkbmolfpnaaGreatRuSpec
import Derived.Test.YtgahbkbmolfpnaaGreatRuUniq
import Derived.Test.YtgahbkbmolfpnaaGreatSxClear
namespace Go.Proofs.YtgahbkbmolfpnaaGreat.Fs
open Go Go.RowKit Go.Sort Go.Proofs.YtgahbkbmolfpnaaGreat.Sx Go.Proofs.YtgahbkbmolfpnaaGreat.Sp Go.Proofs.YtgahbkbmolfpnaaGreat.Uq
set_option linter.unusedVariables false
set_option linter.unusedSimpArgs false
set_option maxRecDepth 10000
structure Pf where
  addr : Int
  len : Int
  deriving DecidableEq
def Pf.enc (p : Pf) : List Value := [.int .u32 p.addr, .int .i64 p.len]
def Pf.val (p : Pf) : Value := .agg #[.int .u32 p.addr, .int .i64 p.len]
theorem Pf.leng (p : Pf) : p.enc.length = 2 := rfl
theorem Pf.flat (p : Pf) : p.enc.all flatV = true := rfl
abbrev RowF (h : Hp) (A : Option Addr) (c : Nat) (l : List Pf) : Prop := RowC h 45 Pf.enc 2 A c l
theorem size_pf : (Tryz.prog.info? 45).map (·.size) = some 2 := by kernel_rfl
theorem und_pfs : Tryz.prog.underlying 53 = some (.slice 45) := by kernel_rfl
theorem info_pf : ∃ i z, Tryz.prog.info? 45 = some i ∧ i.size = 2 ∧ i.bytes = 16 ∧ i.zero = some z ∧ z.cells = (Pf.enc ⟨0, 0⟩).toArray := ⟨_, _, rfl, rfl, rfl, rfl, rfl⟩
abbrev RowR (h : Hp) (A : Option Addr) (c : Nat) (l : List Rul) : Prop := RowC h 49 Rul.enc 12 A c l
theorem Rul.flat (r : Rul) : r.enc.all flatV = true := rfl
theorem size_ru : (Tryz.prog.info? 49).map (·.size) = some 12 := by kernel_rfl
theorem und_rus : Tryz.prog.underlying 22 = some (.slice 49) := by kernel_rfl
theorem info_ru : ∃ i z, Tryz.prog.info? 49 = some i ∧ i.size = 12 ∧ i.bytes = 64 ∧ i.zero = some z ∧ z.cells = (Rul.enc ⟨0, 0, 0, 0, 0, 0, 0, 0, 0, 0, 0, 0⟩).toArray := ⟨_, _, rfl, rfl, rfl, rfl, rfl⟩
theorem ixRu {h : Hp} {A : Option Addr} {c : Nat} {l : List Rul} (r : RSl h A l.length 12 (l.flatMap Rul.enc)) {i : Nat} {x : Rul} (hi : l[i]? = some x) : ∃ a, PV Tryz.prog (Instr.indexAt 22 (.slice A l.length c) (.int .i64 (i : Int))) (.pointer (some a)) ∧ Cl h a (Rul.enc x) := by
  obtain ⟨a, _, _, hix, hcl⟩ := ixR (P := Tryz.prog) (T := 22) (E := 49) (c := c) (k := .i64) Rul.enc_len r rfl und_rus size_ru hi
  exact ⟨a, hix, hcl⟩
theorem ixPf {h : Hp} {A : Option Addr} {c : Nat} {l : List Pf} (r : RSl h A l.length 2 (l.flatMap Pf.enc)) {i : Nat} {x : Pf} (hi : l[i]? = some x) : ∃ a, PV Tryz.prog (Instr.indexAt 53 (.slice A l.length c) (.int .i64 (i : Int))) (.pointer (some a)) ∧ Cl h a (Pf.enc x) := by
  obtain ⟨a, _, _, hix, hcl⟩ := ixR (P := Tryz.prog) (T := 53) (E := 45) (c := c) (k := .i64) Pf.leng r rfl und_pfs size_pf hi
  exact ⟨a, hix, hcl⟩
def Rul.src (r : Rul) : Pf := ⟨r.sA, r.sL⟩
def Rul.dst (r : Rul) : Pf := ⟨r.dA, r.dL⟩
theorem Rul.cl_src {h : Hp} {a : Addr} {r : Rul} (c : Cl h a r.enc) : Cl h (a.add 1) r.src.enc := c.sub 1 fun j v hj => by
  match j, hj with
  | 0, hj => exact hj
  | 1, hj => exact hj
theorem Rul.cl_dst {h : Hp} {a : Addr} {r : Rul} (c : Cl h a r.enc) : Cl h (a.add 3) r.dst.enc := c.sub 3 fun j v hj => by
  match j, hj with
  | 0, hj => exact hj
  | 1, hj => exact hj
theorem src_s (r : Rul) {h : Hp} {K : Value → Hp → Prop} (H : ∀ h', Ext h h' → K r.src.val h') : CallsH Tryz.prog 22 #[r.val] h K := by
  refine nest_src_ok _ _ _ _ _ _ _ _ _ _ _ _ ?_
  unfold nest_src
  refine newC_i (cs := r.enc) fun h1 e1 c1 b1 z1 => newC_i (cs := Pf.enc ⟨0, 0⟩) fun h2 e2 c2 b2 z2 => ⟨_, _, ldS (Rul.cl_src (c1.ext e2)) (by kernel_rfl), HU_box b2 (us := r.src.enc) rfl rfl size_pf rfl fun h3 c3 b3 f3 z3 => ⟨_, _, ldS c3 (by kernel_rfl), ?_⟩⟩
  exact H h3 (e1.trans (extOwn e2 f3 (by rintro k rfl; exact Nat.le_refl _)))
theorem dst_s (r : Rul) {h : Hp} {K : Value → Hp → Prop} (H : ∀ h', Ext h h' → K r.dst.val h') : CallsH Tryz.prog 24 #[r.val] h K := by
  refine nest_dst_ok _ _ _ _ _ _ _ _ _ _ _ _ ?_
  unfold nest_dst
  refine newC_i (cs := r.enc) fun h1 e1 c1 b1 z1 => newC_i (cs := Pf.enc ⟨0, 0⟩) fun h2 e2 c2 b2 z2 => ⟨_, _, ldS (Rul.cl_dst (c1.ext e2)) (by kernel_rfl), HU_box b2 (us := r.dst.enc) rfl rfl size_pf rfl fun h3 c3 b3 f3 z3 => ⟨_, _, ldS c3 (by kernel_rfl), ?_⟩⟩
  exact H h3 (e1.trans (extOwn e2 f3 (by rintro k rfl; exact Nat.le_refl _)))
def withinB (p q : Pf) : Bool := (prefixCheck p.addr p.len == 0) && decide (q.len ≤ p.len) && prefixHas q.addr q.len p.addr
theorem Within_s (p q : Pf) {h : Hp} {K : Value → Hp → Prop} (H : ∀ h', Ext h h' → K (.bool (withinB p q)) h') : CallsH Tryz.prog 25 #[p.val, q.val] h K := by
  refine prefix_Within_ok _ _ _ _ ?_
  unfold prefix_Within
  refine newC_i (cs := p.enc) fun h1 e1 c1 b1 z1 => newC_i (cs := q.enc) fun h2 e2 c2 b2 z2 => ?_
  refine ⟨_, _, ldS (c1.ext e2) (by kernel_rfl), prefix_Check_s _ _ fun v h3 e3 hv => ⟨_, rfl, ?_⟩⟩
  subst hv
  have c1' := (c1.ext e2).ext e3
  have c2' := c2.ext e3
  have e := (e1.trans e2).trans e3
  refine br_i (fun u => ⟨_, ld (c2'.at_ 1 _ rfl) (by kernel_rfl), _, ld (c1'.at_ 1 _ rfl) (by kernel_rfl), br_i (fun w => ⟨_, _, ldS c2' (by kernel_rfl), _, ld c1'.head (by kernel_rfl), prefix_Has_s _ _ _ fun v h4 e4 hv => ⟨_, rfl, ?_⟩⟩) (fun w => ?_)⟩) (fun u => ?_)
  · subst hv
    have := H h4 (e.trans e4)
    have hb : withinB p q = prefixHas q.addr q.len p.addr := by unfold withinB; rw [u, w]; rfl
    rw [hb] at this; exact this
  · have := H h3 e
    have hb : withinB p q = false := by unfold withinB; rw [u, w]; rfl
    rw [hb] at this; exact this
  · have := H h3 e
    have hb : withinB p q = false := by unfold withinB; rw [u]; rfl
    rw [hb] at this; exact this
def cfP (p q : Pf) : Int := or2 (cmp3 p.addr q.addr) (cmp3 p.len q.len)
theorem Compare_s (p q : Pf) {h : Hp} {K : Value → Hp → Prop} (H : ∀ h', Ext h h' → K (.int .i64 (cfP p q)) h') : CallsH Tryz.prog 43 #[p.val, q.val] h K := by
  refine prefix_Compare_ok _ _ _ _ ?_
  unfold prefix_Compare
  refine newC_i (cs := p.enc) fun h1 e1 c1 b1 z1 => newC_i (cs := q.enc) fun h2 e2 c2 b2 z2 => ?_
  have c1' := c1.ext e2
  have l1 : HV Tryz.prog (Instr.loadAt 3 (.pointer (some (Addr.add ⟨h.size, 0, none⟩ 1)))) h2 (.int .i64 p.len) := ld (c1'.at_ 1 _ rfl) (by kernel_rfl)
  have l2 : HV Tryz.prog (Instr.loadAt 3 (.pointer (some (Addr.add ⟨h1.size, 0, none⟩ 1)))) h2 (.int .i64 q.len) := ld (c2.at_ 1 _ rfl) (by kernel_rfl)
  refine ⟨_, ld c1'.head (by kernel_rfl), _, ld c2.head (by kernel_rfl), cmpU32_s _ _ ⟨_, rfl, _, l1, l1, _, l2, l2, cmpInt_s _ _ ⟨_, rfl, newC_i fun h3 e3 c3 b3 z3 => or2_s _ _ c3 rfl ⟨_, rfl, H h3 ((e1.trans e2).trans e3)⟩⟩⟩⟩
theorem eq_pf (a b : Pf) : PV Tryz.prog (binOp .eql 45 (.agg #[.int .u32 a.addr, .int .i64 a.len]) (.agg #[.int .u32 b.addr, .int .i64 b.len])) (.bool (decide (a = b))) := by
  intro w
  rw [run_eql_struct, run_equalIn_struct w 9999 45 _ _ (by kernel_rfl) (by kernel_rfl)]
  obtain ⟨p, q⟩ := a
  obtain ⟨r, s⟩ := b
  simp [go_sem]
  by_cases h0 : p = r <;> by_cases h1 : q = s <;> simp [h0, h1]
theorem ne_pf (a b : Pf) : PV Tryz.prog (binOp .neq 45 (.agg #[.int .u32 a.addr, .int .i64 a.len]) (.agg #[.int .u32 b.addr, .int .i64 b.len])) (.bool (!decide (a = b))) := by
  intro w
  rw [run_neq_struct, run_equalIn_struct w 9999 45 _ _ (by kernel_rfl) (by kernel_rfl)]
  obtain ⟨p, q⟩ := a
  obtain ⟨r, s⟩ := b
  simp [go_sem]
  by_cases h0 : p = r <;> by_cases h1 : q = s <;> simp [h0, h1]
/-! ### list -/
theorem RSl.take {α : Type} {enc : α → List Value} {sz : Nat} (he : ∀ x, (enc x).length = sz) {h : Hp} {A : Option Addr} {l : List α} (r : RSl h A l.length sz (l.flatMap enc)) (i : Nat) : RSl h A (l.take i).length sz ((l.take i).flatMap enc) := by
  refine ⟨flat_len he _, ?_⟩
  rcases r.2 with h0 | ⟨a, ha, c⟩
  · have : l = [] := List.eq_nil_of_length_eq_zero h0
    subst this
    exact .inl (by simp)
  · refine .inr ⟨a, ha, ⟨c.spot, fun j v hj => c.at_ j v ?_⟩⟩
    rw [← flat_take he] at hj
    rw [List.getElem?_take] at hj
    split at hj
    · exact hj
    · cases hj
theorem idxR_s {h0 : Hp} {A : Option Addr} {c : Nat} {l : List Rul} (r : RSl h0 A l.length 12 (l.flatMap Rul.enc)) (hl : l.length ≤ 1000000000) {f : FuncId} {fc : Array Value} {p : Rul → Bool} (hen : enters Tryz.prog f = true)
    (hf : ∀ x ∈ l, ∀ h, Ext h0 h → ∀ K : Value → Hp → Prop, (∀ h', Ext h h' → K (.bool (p x)) h') → CallsH Tryz.prog f (#[x.val] ++ fc) h K) {K : Value → Hp → Prop} (H : ∀ h', Ext h0 h' → K (.bool (l.any p)) h') : CallsH Tryz.prog 40 #[.slice A l.length c, .func (.func f) #[] fc] h0 K := by
  refine slices_ContainsFunc_api_Rule_ok _ _ _ _ _ _ ?_
  unfold slices_ContainsFunc_api_Rule
  refine slices_IndexFunc_api_Rule_ok _ _ _ _ _ _ ?_
  unfold slices_IndexFunc_api_Rule
  have key : ∀ (k i : Nat) (h : Hp), l.length - i < k → i ≤ l.length → Ext h0 h → (∀ x ∈ l.take i, p x = false) → slices_IndexFunc_api_Rule_l1 A l.length c (.func (.func f) #[] fc) (l.length : Int) (fun (x40 : Int) (h41 : Hp) => ∃ x5 : Int, (Value.int .i64 x40) = (.int .i64 x5) ∧ K (.bool (decide (x5 ≥ 0))) h41) (fun h42 => ∃ x5 : Int, (Value.int .i64 (-1)) = (.int .i64 x5) ∧ K (.bool (decide (x5 ≥ 0))) h42) k i h := by
    intro k
    induction k with
    | zero => intro i h hk; omega
    | succ k ih =>
      intro i h hk hi e hn
      unfold slices_IndexFunc_api_Rule_l1
      refine br_i (fun q => ?_) (fun q => ?_)
      · have hlt : i < l.length := by simpa using q
        have hx := List.getElem?_eq_getElem hlt
        generalize l[i] = x at hx
        have hxm := List.mem_of_getElem? hx
        obtain ⟨a, hix, hcl⟩ := ixRu (c := c) (r.ext e) hx
        refine ⟨_, hix, _, _, _, _, _, _, _, _, _, _, _, _, ldS (vs := x.enc) hcl (by kernel_rfl), callF hen (hf x hxm h e _ fun h1 e1 => ⟨_, rfl, br_i (fun u => ⟨_, rfl, ?_⟩) (fun u => ?_)⟩)⟩
        · have hany : l.any p = true := by rw [List.any_eq_true]; exact ⟨x, hxm, u⟩
          have := H h1 (e.trans e1)
          rw [hany] at this
          rw [decide_eq_true (by omega)]
          exact this
        · rw [wrapN (by omega)]
          refine ih (i + 1) h1 (by omega) (by omega) (e.trans e1) fun y hy => ?_
          obtain ⟨h1', h2'⟩ := List.getElem?_eq_some_iff.1 hx
          rw [List.take_succ_eq_append_getElem h1', h2', List.mem_append, List.mem_singleton] at hy
          rcases hy with hy | rfl
          · exact hn y hy
          · exact u
      · have hi' : i = l.length := by simp at q; omega
        subst hi'
        rw [List.take_length] at hn
        have hany : l.any p = false := by
          rw [List.any_eq_false]
          intro x hx
          rw [hn x hx]
          decide
        have := H h e
        rw [hany] at this
        exact ⟨_, rfl, this⟩
  exact ⟨l.length + 1, key _ 0 h0 (by omega) (by omega) (Ext.refl _) (by simp)⟩
/-- A list's error: of the rules behind those that are done. -/
def lsE : List Rul → List Rul → Int
  | _, [] => 0
  | done, r :: rest => if r.check.1 ≠ 0 then r.check.1 else if (done.any fun x => x.id == r.id) = true then 111 else if done.length = 64 then 113 else lsE (done ++ [r]) rest
def listE (l : List Rul) : Int := lsE [] l
theorem listE_at {l : List Rul} {i : Nat} {r : Rul} (hx : l[i]? = some r) : lsE (l.take i) (l.drop i) = if r.check.1 ≠ 0 then r.check.1 else if ((l.take i).any fun x => x.id == r.id) = true then 111 else if i = 64 then 113 else lsE (l.take (i + 1)) (l.drop (i + 1)) := by
  obtain ⟨h1, h2⟩ := List.getElem?_eq_some_iff.1 hx
  rw [List.drop_eq_getElem_cons h1, h2, lsE, List.take_succ_eq_append_getElem h1, h2, List.length_take, Nat.min_eq_left (by omega)]
theorem list_1_s (x : Rul) {h : Hp} {a : Addr} {id : Int} (hc : cell h a = some (.int .i64 id)) {K : Value → Hp → Prop} (H : ∀ h', Ext h h' → K (.bool (x.id == id)) h') : CallsH Tryz.prog 41 (#[x.val] ++ #[.pointer (some a)]) h K := by
  show CallsH Tryz.prog 41 #[x.val, .pointer (some a)] h K
  refine nest_list_1_ok _ _ _ _ _ _ _ _ _ _ _ _ _ ?_
  unfold nest_list_1
  exact newC_i (cs := x.enc) fun h1 e1 c1 b1 z1 => ⟨_, ld c1.head (by kernel_rfl), _, ld (e1.cell hc) (by kernel_rfl), H h1 e1⟩
theorem list_s {h0 : Hp} {A : Option Addr} {c : Nat} {l : List Rul} (r : RSl h0 A l.length 12 (l.flatMap Rul.enc)) (hl : l.length ≤ 1000000000) (hc : l.length ≤ c) {K : Value → Hp → Prop} (H : ∀ h', Ext h0 h' → K (.int .i64 (listE l)) h') : CallsH Tryz.prog 20 #[.slice A l.length c] h0 K := by
  refine nest_list_ok _ _ _ ?_
  unfold nest_list
  have key : ∀ (k i : Nat) (h : Hp), l.length - i < k → i ≤ l.length → Ext h0 h → lsE (l.take i) (l.drop i) = listE l → nest_list_l1 A l.length c A l.length c (l.length : Int) (fun (x79 : Int) (h80 : Hp) => K (.int .i64 x79) h80) (fun h81 => K (.int .i64 0) h81) k i h := by
    intro k
    induction k with
    | zero => intro i h hk; omega
    | succ k ih =>
      intro i h hk hi e hn
      unfold nest_list_l1
      refine br_i (fun q => ?_) (fun q => ?_)
      · have hlt : i < l.length := by simpa using q
        have hx := List.getElem?_eq_getElem hlt
        generalize l[i] = x at hx
        rw [listE_at hx] at hn
        obtain ⟨a, hix, hcl⟩ := ixRu (c := c) (r.ext e) hx
        refine ⟨_, hix, _, _, _, _, _, _, _, _, _, _, _, _, ldS (vs := x.enc) hcl (by kernel_rfl), newV (us := x.enc) rfl rfl size_ru rfl fun h1 e1 c1 b1 z1 => ⟨_, _, _, _, _, _, _, _, _, _, _, _, ldS (vs := x.enc) c1 (by kernel_rfl), rule_Check_s x fun er ix h2 e2 hec => ⟨_, _, rfl, ?_⟩⟩⟩
        have he : er = x.check.1 := by rw [← hec]
        subst he
        have e02 := (e.trans e1).trans e2
        refine br_i (fun u => ?_) (fun u => ?_)
        · rw [if_pos (by simpa using u)] at hn
          have := H h2 e02
          rw [← hn] at this
          exact this
        · rw [if_neg (by simpa using u)] at hn
          obtain ⟨inf, z, hi', hs, hb, hz, hcz⟩ := info_ru
          have hsl := slHi (P := Tryz.prog) (A := A) (l := l.length) (c := c) (x := (i : Int)) und_rus hi' (by omega) (by omega)
          rw [Int.toNat_natCast] at hsl
          have hlen : (l.take i).length = i := by rw [List.length_take]; omega
          have hr := RSl.take Rul.enc_len (r.ext e02) i
          refine ⟨_, _, _, hsl, ?_⟩
          have := idxR_s (c := c) hr (by omega) (f := 41) (fc := #[.pointer (some ⟨h.size, 0, none⟩)]) (p := fun y => y.id == x.id) (by kernel_rfl) (fun y _ h3 e3 K HK => list_1_s y (id := x.id) ((c1.ext e2).ext e3).head HK) (K := fun r77 h76 => ∃ b78 : Bool, r77 = (.bool b78) ∧
            br b78 (K (.int .i64 111) h76) (br ((i : Int) == 64) (K (.int .i64 113) h76) (nest_list_l1 A l.length c A l.length c (l.length : Int) (fun (x79 : Int) (h80 : Hp) => K (.int .i64 x79) h80) (fun h81 => K (.int .i64 0) h81) k (IntKind.i64.wrap ((i : Int) + 1)) h76))) (fun h3 e3 => ⟨_, rfl, br_i (fun u2 => ?_) (fun u2 => br_i (fun u3 => ?_) (fun u3 => ?_))⟩)
          · rw [hlen] at this
            exact this
          · rw [if_pos u2] at hn
            have := H h3 (e02.trans e3)
            rw [← hn] at this
            exact this
          · rw [if_neg (by rw [u2]; decide), if_pos (by simp at u3; omega)] at hn
            have := H h3 (e02.trans e3)
            rw [← hn] at this
            exact this
          · rw [if_neg (by rw [u2]; decide), if_neg (by simp at u3; omega)] at hn
            rw [wrapN (by omega)]
            exact ih (i + 1) h3 (by omega) (by omega) (e02.trans e3) hn
      · have hi' : i = l.length := by simp at q; omega
        subst hi'
        rw [List.take_length, List.drop_length] at hn
        have := H h e
        rw [← hn] at this
        exact this
  exact ⟨l.length + 1, key _ 0 h0 (by omega) (by omega) (Ext.refl _) (by simp [listE])⟩
end Go.Proofs.YtgahbkbmolfpnaaGreat.Fs
