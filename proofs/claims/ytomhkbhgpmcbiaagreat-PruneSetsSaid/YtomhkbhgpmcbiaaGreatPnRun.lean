/- An engine's calls, told alike; lists whose ids are apart. -/
import Derived.Test.YtomhkbhgpmcbiaaGreatPnAwk
import Derived.Test.YtomhkbhgpmcbiaaGreatPnPure4
import Derived.Test.YtomhkbhgpmcbiaaGreatSxIface
namespace Go.Proofs.YtomhkbhgpmcbiaaGreat.Fs
open Go Go.RowKit Go.Proofs.YtomhkbhgpmcbiaaGreat.Sx Go.Proofs.YtomhkbhgpmcbiaaGreat.Uq
set_option linter.unusedVariables false
set_option linter.unusedSimpArgs false
set_option maxRecDepth 10000
theorem eqSteps (a b c d e a' b' c' d' e' : Int) : PV Tryz.prog (binOp .eql 64 (.agg #[.int .i64 a, .int .i64 b, .int .i64 c, .int .i64 d, .int .i64 e]) (.agg #[.int .i64 a', .int .i64 b', .int .i64 c', .int .i64 d', .int .i64 e'])) (.bool (decide (a = a' ∧ b = b' ∧ c = c' ∧ d = d' ∧ e = e'))) := by
  intro w
  rw [run_eql_struct, run_equalIn_struct w 9999 64 _ _ (by kernel_rfl) (by kernel_rfl)]
  simp [go_sem]
  by_cases h1 : a = a' <;> by_cases h2 : b = b' <;> by_cases h3 : c = c' <;> by_cases h4 : d = d' <;> by_cases h5 : e = e' <;> simp [h1, h2, h3, h4, h5]
theorem eqStats (a b c d a' b' c' d' : Int) : PV Tryz.prog (binOp .eql 108 (.agg #[.int .i64 a, .int .i64 b, .int .i64 c, .int .i64 d]) (.agg #[.int .i64 a', .int .i64 b', .int .i64 c', .int .i64 d'])) (.bool (decide (a = a' ∧ b = b' ∧ c = c' ∧ d = d'))) := by
  intro w
  rw [run_eql_struct, run_equalIn_struct w 9999 108 _ _ (by kernel_rfl) (by kernel_rfl)]
  simp [go_sem]
  by_cases h1 : a = a' <;> by_cases h2 : b = b' <;> by_cases h3 : c = c' <;> by_cases h4 : d = d' <;> simp [h1, h2, h3, h4]
/-- What a call answers, and the rules behind it. -/
def runE (cf : Cfg) (l : List Rul) (op : Int × List Rul) : Int × List Rul := if op.1 ≠ 0 then (op.1, l) else if roomB cf op.2 = true then (0, op.2) else (160, l)
theorem runE_no {cf : Cfg} {l : List Rul} {op : Int × List Rul} (h : op.1 ≠ 0) : runE cf l op = (op.1, l) := by unfold runE; rw [if_pos h]
theorem runE_full {cf : Cfg} {l : List Rul} {op : Int × List Rul} (h : op.1 = 0) (r : roomB cf op.2 = false) : runE cf l op = (160, l) := by unfold runE; rw [if_neg (by omega), r]; rfl
theorem runE_yes {cf : Cfg} {l : List Rul} {op : Int × List Rul} (h : op.1 = 0) (r : roomB cf op.2 = true) : runE cf l op = (0, op.2) := by unfold runE; rw [if_neg (by omega), r]; rfl
theorem ins_u {h : Hp} {b : Nat} {S : Nat → Prop} {cf : Cfg} {l : List Rul} (q : En h b S cf l) (hm : cf.max ≤ 64) (p : Int) (r : Rul) {K : Value → Hp → Prop}
    (H : ∀ h' S', En h' b S' cf (runE cf l (insI cf l p r)).2 → Tg S S' h h' → K (.int .i64 (runE cf l (insI cf l p r)).1) h') : CallsH Tryz.prog 13 #[.pointer (some ⟨b, 0, none⟩), .int .i64 p, r.val] h K :=
  eIns_s q hm p r (fun h0 h' e => by rw [runE_no h0] at H; exact H h' S (q.ext e) (Ext.tg e)) (fun h0 hr h' e => by rw [runE_full h0 hr] at H; exact H h' S (q.ext e) (Ext.tg e)) (fun h0 hr h' S' q' t => by rw [runE_yes h0 hr] at H; exact H h' S' q' t)
theorem del_u {h : Hp} {b : Nat} {S : Nat → Prop} {cf : Cfg} {l : List Rul} (q : En h b S cf l) (id : Int) {K : Value → Hp → Prop}
    (H : ∀ h' S', En h' b S' cf (runE cf l (delI l id)).2 → Tg S S' h h' → K (.int .i64 (runE cf l (delI l id)).1) h') : CallsH Tryz.prog 131 #[.pointer (some ⟨b, 0, none⟩), .int .i64 id] h K :=
  eDel_s q id (fun h0 h' e => by rw [runE_no h0] at H; exact H h' S (q.ext e) (Ext.tg e)) (fun h0 hr h' e => by rw [runE_full h0 hr] at H; exact H h' S (q.ext e) (Ext.tg e)) (fun h0 hr h' S' q' t => by rw [runE_yes h0 hr] at H; exact H h' S' q' t)
theorem set_u {h : Hp} {b : Nat} {S : Nat → Prop} {cf : Cfg} {l xs : List Rul} (q : En h b S cf l) (hm : cf.max ≤ 64) {A : Option Addr} {c : Nat} (hl : xs.length ≤ 1000000) (hc : xs.length ≤ c) (r : RSl h A xs.length 12 (xs.flatMap Rul.enc)) {K : Value → Hp → Prop}
    (H : ∀ h' S', En h' b S' cf (runE cf l (setO cf l xs)).2 → Tg S S' h h' → K (.int .i64 (runE cf l (setO cf l xs)).1) h') : CallsH Tryz.prog 132 #[.pointer (some ⟨b, 0, none⟩), .slice A xs.length c] h K :=
  eSet_s q hm hl hc r (fun h0 h' e => by rw [runE_no h0] at H; exact H h' S (q.ext e) (Ext.tg e)) (fun h0 hr h' e => by rw [runE_full h0 hr] at H; exact H h' S (q.ext e) (Ext.tg e)) (fun h0 hr h' S' q' t => by rw [runE_yes h0 hr] at H; exact H h' S' q' t)
/-- An answer laid into boxes, which are new. -/
theorem ansN {h : Hp} (v : Bool × Int × Int) (n r : Nat) {K : Addr → Addr → Hp → Prop} (H : ∀ h' a1 a2, Ext h h' → Cl h' a1 (verd v) → Cl h' a2 (stp n r) → (h.size ≤ a1.block ∧ a1.block < h'.size) → (h.size ≤ a2.block ∧ a2.block < h'.size) → K a1 a2 h') :
    newC h (.cells #[(.bool false), (.int .i64 0), (.int .i64 0)] 62 (0, 0)) fun a248 h247 => 
    newC h247 (.cells #[(.int .i64 0), (.int .i64 0), (.int .i64 0), (.int .i64 0), (.int .i64 0)] 64 (0, 0)) fun a250 h249 => 
    HU Tryz.prog (Instr.storeAt 62 (.pointer (some a248)) (.agg #[(.bool v.1), (.int .i64 v.2.1), (.int .i64 v.2.2)])) h249 fun h251 => 
    HU Tryz.prog (Instr.storeAt 64 (.pointer (some a250)) (.agg #[(.int .i64 (n : Int)), (.int .i64 (r : Int)), (.int .i64 0), (.int .i64 0), (.int .i64 0)])) h251 fun h252 => K a248 a250 h252 := by
  refine newC_i (cs := verd (false, 0, 0)) fun h1 e1 c1 b1 z1 => newC_i (cs := stp 0 0) fun h2 e2 c2 b2 z2 => ?_
  refine HU_box (us := verd v) ((e2.fr (fun _ => False)).get b1 (fun h => h)) rfl rfl (by kernel_rfl) rfl fun h3 c3 b3 f3 z3 => ?_
  refine HU_box (us := stp n r) (f3.get b2 (by omega)) rfl rfl (by kernel_rfl) rfl fun h4 c4 b4 f4 z4 => ?_
  refine H h4 _ _ ⟨by omega, fun k hk => ?_⟩ (f4.cl c3 (by show ¬ h.size = _; omega)) c4 ⟨Nat.le_refl _, by show h.size < _; omega⟩ ⟨by show h.size ≤ h1.size; omega, by show h1.size < _; omega⟩
  rw [f4.keep k (by omega) (by omega), f3.keep k (by omega) (by omega), e2.old k (by omega), e1.old k hk]
theorem Pt.ext {S : Nat → Prop} {h h' : Hp} {a : Addr} {vs : List Value} (p : Pt S h a vs) (e : Ext h h') : Pt S h' a vs := p.tg (Ext.tg e)
def sta (l : List Rul) : List Value := [.int .i64 (((bld l).1.length : Int) - 1), .int .i64 ((bld l).2 : Int), .int .i64 0, .int .i64 0]
/-! ### lists whose ids are apart -/
def DI (l : List Rul) : Prop := l.Pairwise fun a b => a.id ≠ b.id
theorem find_no {xs : List Rul} {id : Int} (h : ∀ x, x ∈ xs → x.id ≠ id) : findI xs id = -1 := by
  unfold findI
  have : xs.findIdx? (fun r => r.id == id) = none := by
    rw [List.findIdx?_eq_none_iff]
    intro x hx
    simpa using h x hx
  rw [this]
theorem find_neg {xs : List Rul} {id : Int} (h : ¬ findI xs id ≥ 0) : ∀ x, x ∈ xs → x.id ≠ id := by
  unfold findI at h
  cases hf : xs.findIdx? (fun r => r.id == id) with
  | none =>
    rw [List.findIdx?_eq_none_iff] at hf
    intro x hx
    simpa using hf x hx
  | some i => rw [hf] at h; exact absurd (Int.natCast_nonneg i) h
theorem set_DI (max : Int) : ∀ (rs seen : List Rul) (i : Nat), setI max seen rs i = 0 → (∀ r, r ∈ rs → ∀ s, s ∈ seen → s.id ≠ r.id) ∧ DI rs
  | [], _, _, _ => ⟨fun r h => by simp at h, List.Pairwise.nil⟩
  | r :: rs, seen, i, h => by
    rw [setI] at h
    split at h
    · rename_i h1; exact absurd h h1
    · rename_i h1
      split at h
      · cases h
      · obtain ⟨a, b⟩ := set_DI max rs (seen ++ [r]) (i + 1) h
        have h1 : takesI seen r = 0 := by simpa using h1
        unfold takesI at h1
        have hc : r.check.1 = 0 := by
          refine Classical.byContradiction fun hn => ?_
          rw [if_pos hn] at h1
          exact hn h1
        rw [if_neg (by omega)] at h1
        have hf : ¬ findI seen r.id ≥ 0 := by
          intro hp
          rw [if_pos hp] at h1
          cases h1
        refine ⟨fun x hx s hs => ?_, List.Pairwise.cons (fun x hx => a x hx r (by simp)) b⟩
        rcases List.mem_cons.1 hx with rfl | hx
        · exact find_neg hf s hs
        · exact a x hx s (by simp [hs])
theorem lsE_zero : ∀ (rest done : List Rul), done.length + rest.length ≤ 64 → (∀ r, r ∈ rest → r.check.1 = 0) → (∀ r, r ∈ rest → ∀ s, s ∈ done → s.id ≠ r.id) → DI rest → lsE done rest = 0
  | [], done, _, _, _, _ => by unfold lsE; rfl
  | r :: rest, done, hl, hc, hs, hd => by
    rw [List.length_cons] at hl
    rw [DI, List.pairwise_cons] at hd
    have hany : ¬ ((done.any fun x => x.id == r.id) = true) := by
      intro h
      rw [List.any_eq_true] at h
      obtain ⟨x, hx, he⟩ := h
      exact hs r (by simp) x hx (by simpa using he)
    rw [lsE, if_neg (by have := hc r (by simp); omega), if_neg hany, if_neg (by omega)]
    refine lsE_zero rest (done ++ [r]) (by rw [List.length_append, List.length_singleton]; omega) (fun x hx => hc x (by simp [hx])) (fun x hx s hs' => ?_) hd.2
    rcases List.mem_append.1 hs' with h | h
    · exact hs x (by simp [hx]) s h
    · rw [List.mem_singleton.1 h]; exact hd.1 x hx
theorem pruneN_le {l : List Rul} (hl : l.length ≤ 64) : pruneN l ≤ 262144 := by
  have h1 := uq_len (l.map Rul.src)
  rw [List.length_map] at h1
  have h2 := sum_bd (pruneS l) (64 * 64) (uq (l.map Rul.src)) fun s _ => pruneS_le hl s
  have h3 := Nat.mul_le_mul_right (64 * 64) (Nat.le_trans h1 hl)
  unfold pruneN
  omega
theorem room_all {cf : Cfg} {l : List Rul} (hp : cf.prune = 1048576) (g : Gd l) (d : DI l) : roomB cf l = true := by
  have h0 : listE l = 0 := lsE_zero l [] (by have := g.n; simpa using this) g.ok (fun _ _ _ h => by simp at h) d
  have := pruneN_le g.n
  unfold roomB
  rw [if_pos h0, hp]
  exact decide_eq_true (by omega)
end Go.Proofs.YtomhkbhgpmcbiaaGreat.Fs
