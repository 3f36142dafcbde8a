/- The trie's functions, second part. -/
import Derived.Test.YtofjbbfnkefoaaaTrS1
namespace Go.Proofs.Ytofjbbfnkefoaaa.Fs
open Go Go.RowKit Go.Proofs.Ytofjbbfnkefoaaa.Sx
set_option linter.unusedVariables false
set_option linter.unusedSimpArgs false
set_option maxRecDepth 10000
def cutT (f : Nat) (t : TT) (key n : Int) : Option (Int × TT) := if mayT t.width key n = true then (match downT t key n with
    | none => none
    | some (at_, i) => if i < n then some (121, t) else if at_ < 0 then none else match t.ns[at_.toNat]? with
      | none => none
      | some x => if x.held = true then
          (match pathT (t.ns.set at_.toNat { x with held := false, v := 0 }) t.width key n f 0 [0] with
          | none => none
          | some qs => if qs.length ≤ 2000 then (upT t.width key qs f n { t with ns := t.ns.set at_.toNat { x with held := false, v := 0 } }).map fun t' => (0, t') else none)
        else some (121, t))
  else some (120, t)
theorem cut_s {h : Hp} {b : Nat} {S : Nat → Prop} {f : Nat} {t t' : TT} {r : Int} (q : TrAt h b S t) (hw : 0 ≤ t.width ∧ t.width ≤ 64) (key n : Int) (hp : cutT f t key n = some (r, t')) {K : Value → Hp → Prop} (H : ∀ h', TrAt h' b S t' → Fr S h h' → K (.int .i64 r) h') : CallsH Try.prog 32 #[.pointer (some ⟨b, 0, none⟩), .int .u32 key, .int .i64 n] h K := by
  refine trie_Trie_Cut_ok _ _ _ ?_
  unfold trie_Trie_Cut
  refine ⟨_, eqNil eq32, br_f rfl ?_⟩
  unfold cutT at hp
  refine may_s q hw.1 key n ⟨_, rfl, ?_⟩
  by_cases hm : mayT t.width key n = true
  · rw [if_pos hm] at hp
    have hnw := mayT_le hm
    refine br_f (by rw [hm]; rfl) ?_
    cases hd : downT t key n with
    | none => rw [hd] at hp; cases hp
    | some p =>
      obtain ⟨at_, i⟩ := p
      rw [hd] at hp
      simp only at hp
      refine down_s q hw key n hnw.2 hd ⟨_, _, rfl, ?_⟩
      by_cases hin : i < n
      · rw [if_pos hin] at hp
        injection hp with hp
        injection hp with e1 e2
        subst e1 e2
        exact br_t (by simpa using hin) (H h q (Fr.refl _ _))
      · rw [if_neg hin] at hp
        refine br_f (by simpa using hin) ?_
        by_cases h0 : at_ < 0
        · rw [if_pos h0] at hp; cases hp
        · rw [if_neg h0] at hp
          obtain ⟨j, rfl⟩ := Int.eq_ofNat_of_zero_le (a := at_) (by omega)
          rw [Int.toNat_natCast] at hp
          cases hx : t.ns[j]? with
          | none => rw [hx] at hp; cases hp
          | some x =>
            rw [hx] at hp
            simp only at hp
            obtain ⟨A, c, qg⟩ := q.ag
            have hlt := (List.getElem?_eq_some_iff.1 hx).1
            obtain ⟨g, rfl⟩ := qg.blk_some (by omega)
            refine ⟨_, _, _, ld (qg.cl.at_ 2 _ rfl) (by kernel_rfl), ?_⟩
            refine ⟨_, ixN hlt, _, ld ((qg.node hx).at_ 2 _ rfl) (by kernel_rfl), ?_⟩
            cases hh : x.held with
            | false =>
              rw [hh, if_neg (by simp)] at hp
              injection hp with hp
              injection hp with e1 e2
              subst e1 e2
              exact br_t rfl (H h q (Fr.refl _ _))
            | true =>
              rw [hh, if_pos rfl] at hp
              refine br_f rfl ?_
              unfold trie_Trie_Cut_j5
              refine ⟨_, _, _, ld (qg.cl.at_ 2 _ rfl) (by kernel_rfl), ?_⟩
              refine ⟨_, _, _, ld (qg.cl.at_ 2 _ rfl) (by kernel_rfl), ?_⟩
              refine ⟨_, ixN hlt, ?_⟩
              rw [add_off rfl]
              refine qg.st_part' (i := j) (o := 2) (x := x) (x' := { x with held := false }) (us := [.bool false]) hx rfl (by kernel_rfl) rfl (by decide) rfl fun h1 q1 f1 z1 => ?_
              refine ⟨_, ixN hlt, ?_⟩
              rw [add_off rfl]
              refine q1.st_part' (i := j) (o := 3) (x := { x with held := false }) (x' := { x with held := false, v := 0 }) (us := [.int .i64 0]) (by simp [hlt]) rfl (by kernel_rfl) rfl (by decide) rfl fun h2 q2 f2 z2 => ?_
              have q2' : TrAt h2 b S { t with ns := t.ns.set j { x with held := false, v := 0 } } := by simpa using q2.at_
              refine newC_i (cs := encI 0) fun h3 e3 c3 b3 z3 => ?_
              cases hpt : pathT (t.ns.set j { x with held := false, v := 0 }) t.width key n f 0 [0] with
              | none => rw [hpt] at hp; cases hp
              | some qs =>
                rw [hpt] at hp
                simp only at hp
                split at hp
                · rename_i hql
                  cases hut : upT t.width key qs f n { t with ns := t.ns.set j { x with held := false, v := 0 } } with
                  | none => rw [hut] at hp; cases hp
                  | some t2 =>
                    rw [hut] at hp
                    injection hp with hp
                    injection hp with e1 e2
                    subst e1 e2
                    have hbl : ∀ k, blk (some (⟨h2.size, 0, none⟩ : Addr)) k → k = h2.size := by rintro k ⟨a, ha, rfl⟩; injection ha with ha; subst ha; rfl
                    have q3 := q2'.ext e3
                    have p3 : Pt h3 S (some ⟨h2.size, 0, none⟩) 1 [0] := by
                      refine ⟨Row.shut (rest := []) encI_len b3 rfl (by decide), fun k hk hS => ?_, fun k hk => ?_⟩
                      · have := q2'.2.1 k hS
                        have := hbl k hk
                        omega
                      · have := hbl k hk
                        omega
                    refine ⟨f, ?_⟩
                    refine path_l6 (t := { t with ns := t.ns.set j { x with held := false, v := 0 } }) hw hnw.2 hql f 0 [0] _ 1 h3 q3 p3 hpt fun h4 A4 c4 q4 p4 f4 => ?_
                    refine ⟨f, ?_⟩
                    have f04 : Fr S h h4 := ((f1.trans f2).trans (e3.fr S)).then_ (f4 (fun k => k = h2.size) hbl) (fun k hk => .inr (by have := f1.size; have := f2.size; omega))
                    refine up_l8 (w := t.width) hw hql (K0 := fun x h' => K (.int .i64 x) h') (K1 := fun h' => K (.int .i64 0) h') f n _ h4 q4 rfl p4 hut fun h5 q5 f5 => ?_
                    have := H h5 q5 (f04.trans (f5 S fun _ h => h))
                    exact ⟨this, this⟩
                · cases hp
  · rw [if_neg hm] at hp
    injection hp with hp
    injection hp with e1 e2
    subst e1 e2
    exact br_t (by simpa using hm) (H h q (Fr.refl _ _))
theorem above_s (p : Option Addr) (key n : Int) {h : Hp} {K : Value → Hp → Prop}
    (H : ∀ h' a1 a2 a3, Ext h h' → h.size ≤ a1 → h.size ≤ a2 → h.size ≤ a3 → a1 < h'.size → a2 < h'.size → a3 < h'.size → Cl h' ⟨a1, 0, none⟩ [.pointer p] → Cl h' ⟨a2, 0, none⟩ [.int .u32 key] → Cl h' ⟨a3, 0, none⟩ [.int .i64 n] → K (.func (.func 55) #[] #[.pointer (some ⟨a1, 0, none⟩), .pointer (some ⟨a2, 0, none⟩), .pointer (some ⟨a3, 0, none⟩)]) h') :
    CallsH Try.prog 34 #[.pointer p, .int .u32 key, .int .i64 n] h K := by
  refine trie_Trie_Above_ok _ _ _ ?_
  unfold trie_Trie_Above
  refine newC_i fun h1 e1 c1 b1 z1 => newC_i fun h2 e2 c2 b2 z2 => newC_i fun h3 e3 c3 b3 z3 => ?_
  exact H h3 _ _ _ ((e1.trans e2).trans e3) (by omega) (by omega) (by omega) (by omega) (by omega) (by omega) ((c1.ext e2).ext e3) (c2.ext e3) c3
theorem walk_s (p : Option Addr) {h : Hp} {K : Value → Hp → Prop}
    (H : ∀ h' a1, Ext h h' → h.size ≤ a1 → a1 < h'.size → Cl h' ⟨a1, 0, none⟩ [.pointer p] → K (.func (.func 56) #[] #[.pointer (some ⟨a1, 0, none⟩)]) h') : CallsH Try.prog 35 #[.pointer p] h K := by
  refine trie_Trie_Walk_ok _ ?_
  unfold trie_Trie_Walk
  exact newC_i fun h1 e1 c1 b1 z1 => H h1 _ e1 (by omega) (by omega) c1
abbrev En := Int × Int × Int
def En.val (e : En) : Value := .agg #[.int .u32 e.1, .int .i64 e.2.1, .int .i64 e.2.2]
def topT (w key i : Int) : Int := IntKind.u32.wrap (IntKind.u64.wrap ((IntKind.u64.wrap key).fdiv (p2 (w - i)) * p2 (w - i)))
def aboveT (ns : List Node) (w key n : Int) : Nat → Int → Int → Option (List En)
  | 0, _, _ => none
  | f + 1, at_, i => if at_ < 0 ∨ ¬ (0 ≤ i ∧ i ≤ w) then none else match ns[at_.toNat]? with
    | none => none
    | some x => (if i = n then some [] else if ¬ i < w ∨ ¬ (bitT w key i = 0 ∨ bitT w key i = 1) then none else if x.kid (bitT w key i) = 0 then some [] else aboveT ns w key n f (x.kid (bitT w key i)) (i + 1)).map
        fun r => if x.held = true then (topT w key i, i, x.v) :: r else r
/-- What a walk above a key needs of its heap. -/
structure Above (J : List En → Hp → Prop) (b : Nat) (S : Nat → Prop) (t : TT) (key n : Int) (a1 a2 a3 : Addr) (v : Value) : Prop where
  at_ : ∀ done h, J done h → TrAt h b S t ∧ Cl h a1 [.pointer (some ⟨b, 0, none⟩)] ∧ Cl h a2 [.int .u32 key] ∧ Cl h a3 [.int .i64 n]
  ext : ∀ done h h', J done h → Fr (fun _ => False) h h' → J done h'
  round : ∀ done e h K, J done h → (∀ h', J (done ++ [e]) h' → K (.bool true) h') → HN Try.prog (callS v #[En.val e]) h K
theorem above_l6 {J : List En → Hp → Prop} {b : Nat} {S : Nat → Prop} {t : TT} {key n : Int} {a1 a2 a3 : Addr} {v : Value} (a : Above J b S t key n a1 a2 a3 v) (hw : 0 ≤ t.width ∧ t.width ≤ 64) {K0 : Hp → Prop} :
    ∀ (f : Nat) (at_ i : Int) (done es : List En) (h : Hp), J done h → aboveT t.ns t.width key n f at_ i = some es → (∀ h', J (done ++ es) h' → K0 h') → trie_Trie_Above_1_l6 v a1 a2 a3 K0 f at_ i h := by
  intro f
  induction f with
  | zero => intro at_ i done es h q hd; cases hd
  | succ f ih =>
    intro at_ i done es h q hd H
    unfold aboveT at hd
    unfold trie_Trie_Above_1_l6
    split at hd
    · cases hd
    · rename_i hbad
      obtain ⟨m, rfl⟩ := Int.eq_ofNat_of_zero_le (a := at_) (by omega)
      rw [Int.toNat_natCast] at hd
      cases hx : t.ns[m]? with
      | none => rw [hx] at hd; cases hd
      | some x =>
        rw [hx] at hd
        simp only at hd
        have tail : ∀ done' h' rest, J done' h' → (if i = n then some [] else if ¬ i < t.width ∨ ¬ (bitT t.width key i = 0 ∨ bitT t.width key i = 1) then none else if x.kid (bitT t.width key i) = 0 then some [] else aboveT t.ns t.width key n f (x.kid (bitT t.width key i)) (i + 1)) = some rest → (∀ h'', J (done' ++ rest) h'' → K0 h'') →
            (∃ x432 : Int, HV Try.prog (Instr.loadAt 3 (.pointer (some a3))) h' (.int .i64 x432) ∧ br (i == x432) (K0 h') (trie_Trie_Above_1_j7 (fun  (h433 : Hp) => K0 h433)
              (fun (v434 : Value) (a435 : Addr) (a436 : Addr) (a437 : Addr) (x438 : Int) (x439 : Int) (h440 : Hp) => trie_Trie_Above_1_l6 v a1 a2 a3 K0 f x438 (IntKind.i64.wrap (x439 + 1)) h440) v a1 a2 a3 (m : Int) i h')) := by
          intro done' h' rest q' hr H'
          obtain ⟨qt, k1, k2, k3⟩ := a.at_ _ _ q'
          refine ⟨_, ld k3.head (by kernel_rfl), br_i (fun h0 => ?_) (fun h0 => ?_)⟩
          · rw [if_pos (by simpa using h0)] at hr
            injection hr with hr
            subst hr
            exact H' h' (by simpa using q')
          · rw [if_neg (by simpa using h0)] at hr
            split at hr
            · cases hr
            · rename_i hb2
              unfold trie_Trie_Above_1_j7
              obtain ⟨A, c, qg⟩ := qt.ag
              have hlt := (List.getElem?_eq_some_iff.1 hx).1
              obtain ⟨g, rfl⟩ := qg.blk_some (by omega)
              refine ⟨_, ld k1.head (by kernel_rfl), ?_⟩
              refine ⟨_, _, _, ld (qg.cl.at_ 2 _ rfl) (by kernel_rfl), ?_⟩
              refine ⟨_, ld k1.head (by kernel_rfl), _, ld k2.head (by kernel_rfl), ?_⟩
              refine bit_s qt hw key i ⟨by omega, by omega⟩ ⟨_, rfl, ld (qg.cl.at_ 2 _ rfl) (by kernel_rfl), ld k1.head (by kernel_rfl), ?_⟩
              refine ⟨_, ixN hlt, _, ixA (by omega) (by omega), ?_⟩
              have hk : HV Try.prog (Instr.loadAt 21 (.pointer (some ((⟨g, m * 4, none⟩ : Addr).add (bitT t.width key i).toNat)))) h' (.int .i32 (x.kid (bitT t.width key i))) := by
                have h01 : bitT t.width key i = 0 ∨ bitT t.width key i = 1 := by omega
                rcases h01 with e | e
                · rw [e]; exact ld ((qg.node hx).at_ 0 _ rfl) (by kernel_rfl)
                · rw [e]; exact ld ((qg.node hx).at_ 1 _ rfl) (by kernel_rfl)
              refine ⟨_, hk, br_i (fun hz => ?_) (fun hz => ?_)⟩
              · rw [if_pos (by simpa using hz)] at hr
                injection hr with hr
                subst hr
                exact H' h' (by simpa using q')
              · rw [if_neg (by simpa using hz)] at hr
                show trie_Trie_Above_1_l6 v a1 a2 a3 K0 f (x.kid (bitT t.width key i)) (IntKind.i64.wrap (i + 1)) h'
                rw [wrap_in (by omega) (by omega)]
                exact ih _ _ done' rest h' q' hr H'
        obtain ⟨qt, k1, k2, k3⟩ := a.at_ _ _ q
        obtain ⟨A, c, qg⟩ := qt.ag
        have hlt := (List.getElem?_eq_some_iff.1 hx).1
        obtain ⟨g, rfl⟩ := qg.blk_some (by omega)
        refine ⟨_, ld k1.head (by kernel_rfl), ?_⟩
        refine ⟨_, _, _, ld (qg.cl.at_ 2 _ rfl) (by kernel_rfl), ?_⟩
        refine ⟨_, ixN hlt, _, _, _, _, ldS (qg.node hx) (by kernel_rfl), ?_⟩
        refine newC_i (cs := zN.enc) fun h2 e2 c2 b2 z2 => ?_
        refine box_node b2 x fun h3 c3 f3 z3 => ?_
        have fr3 : Fr (fun _ => False) h h3 := (e2.fr _).then_ f3 (fun k hk => .inr (by omega))
        have q3 := a.ext _ _ _ q fr3
        refine ⟨_, ld (c3.at_ 2 _ rfl) (by kernel_rfl), ?_⟩
        cases hrest : (if i = n then some [] else if ¬ i < t.width ∨ ¬ (bitT t.width key i = 0 ∨ bitT t.width key i = 1) then none else if x.kid (bitT t.width key i) = 0 then some [] else aboveT t.ns t.width key n f (x.kid (bitT t.width key i)) (i + 1)) with
        | none => rw [hrest] at hd; cases hd
        | some rest =>
          rw [hrest] at hd
          injection hd with hd
          subst hd
          obtain ⟨qt3, k13, k23, k33⟩ := a.at_ _ _ q3
          obtain ⟨A3, d3, qg3⟩ := qt3.ag
          cases hh : x.held with
          | true =>
            rw [hh] at H
            simp only [if_true] at H
            refine br_t rfl ?_
            refine ⟨_, ld k23.head (by kernel_rfl), _, ld k13.head (by kernel_rfl), ?_⟩
            refine ⟨_, ld (qg3.cl.at_ 0 _ rfl) (by kernel_rfl), ?_⟩
            rw [wrap_in (n := t.width - i) (by omega) (by omega)]
            refine ⟨_, shr64 _ _ (by omega), _, ld k13.head (by kernel_rfl), ?_⟩
            refine ⟨_, ld (qg3.cl.at_ 0 _ rfl) (by kernel_rfl), ?_⟩
            rw [wrap_in (n := t.width - i) (by omega) (by omega)]
            refine ⟨_, shl64 _ _ (by omega), _, ld (c3.at_ 3 _ rfl) (by kernel_rfl), ?_⟩
            refine a.round done (topT t.width key i, i, x.v) h3 _ q3 fun h4 q4 => ⟨true, rfl, br_f rfl ?_⟩
            exact tail _ h4 rest q4 hrest (fun h'' q'' => H h'' (by simpa using q''))
          | false =>
            rw [hh] at H
            simp only [Bool.false_eq_true, if_false] at H
            exact br_f rfl (tail _ h3 rest q3 hrest H)
def aboveAll (F : Nat) (t : TT) (key n : Int) : Option (List En) := if mayT t.width key n = true then (if t.rooted = true then aboveT t.ns t.width key n F 0 0 else some []) else some []
theorem above1_s {J : List En → Hp → Prop} {b : Nat} {S : Nat → Prop} {t : TT} {key n : Int} {a1 a2 a3 : Addr} {f : Fn} {fr fc : Array Value} (a : Above J b S t key n a1 a2 a3 (.func f fr fc)) (hw : 0 ≤ t.width ∧ t.width ≤ 64) {F : Nat} {es : List En} (he : aboveAll F t key n = some es) {h : Hp} (q : J [] h) {K : Value → Hp → Prop}
    (H : ∀ h', J es h' → K (.tuple #[]) h') : CallsH Try.prog 55 #[.func f fr fc, .pointer (some a1), .pointer (some a2), .pointer (some a3)] h K := by
  refine trie_Trie_Above_1_ok _ _ _ _ _ _ ?_
  unfold trie_Trie_Above_1
  obtain ⟨qt, k1, k2, k3⟩ := a.at_ _ _ q
  obtain ⟨A, c, qg⟩ := qt.ag
  unfold aboveAll at he
  refine ⟨_, ld k1.head (by kernel_rfl), _, eqNil eq32, br_f rfl ?_⟩
  refine ⟨_, ld k1.head (by kernel_rfl), _, ld k2.head (by kernel_rfl), _, ld k3.head (by kernel_rfl), ?_⟩
  refine may_s qt hw.1 key n ⟨_, rfl, ?_⟩
  by_cases hm : mayT t.width key n = true
  · rw [if_pos hm] at he
    refine br_f (by rw [hm]; rfl) ⟨_, ld k1.head (by kernel_rfl), _, ld (qg.cl.at_ 5 _ rfl) (by kernel_rfl), ?_⟩
    by_cases hr : t.rooted = true
    · rw [if_pos hr] at he
      refine br_f (by rw [hr]; rfl) ?_
      unfold trie_Trie_Above_1_j4
      refine ⟨F, ?_⟩
      exact above_l6 a hw F 0 0 [] es h q he fun h' q' => H h' (by simpa using q')
    · rw [if_neg hr] at he
      injection he with he
      subst he
      exact br_t (by simpa using hr) (H h q)
  · rw [if_neg hm] at he
    injection he with he
    subst he
    exact br_t (by simpa using hm) (H h q)
theorem loop_back (r : Loop) (h1 : r.state = .ready) (h2 : r.pending = none) : ({ ({ r with state := .busy } : Loop) with state := if (none : Option Code).isNone = true then .ready else .done, pending := none } : Loop) = r := by
  cases r; simp_all
theorem set_get {h : Hp} {l : Nat} {o : Obj} (hl : l < h.size) : (h.setIfInBounds l o)[l]? = some o := by simp [hl]
theorem set_fr {h : Hp} {l : Nat} {o : Obj} {S : Nat → Prop} (hS : S l) : Fr S h (h.setIfInBounds l o) :=
  ⟨by simp, fun k hk hn => Array.getElem?_setIfInBounds_ne (fun e => hn (by rw [← e]; exact hS))⟩
def En.enc (e : En) : List Value := [.int .u32 e.1, .int .i64 e.2.1, .int .i64 e.2.2]
def lastE (es : List En) : En := es.getLastD (0, 0, 0)
theorem size39 : (Try.prog.info? 66).map (·.size) = some 3 := by kernel_rfl
theorem size4 : (Try.prog.info? 4).map (·.size) = some 1 := by kernel_rfl
def LInv (g1 : Hp) (b6 b8 lr : Nat) (r : Loop) (done : List En) (h : Hp) : Prop :=
  Fr (fun k => k = b6 ∨ k = b8 ∨ k = lr) g1 h ∧ h[b6]? = some (.cells (lastE done).enc.toArray 66 (0, 0)) ∧ h[b8]? = some (.cells [Value.bool (!done.isEmpty)].toArray 4 (0, 0)) ∧ h[lr]? = some (.loop r)
theorem LInv.ext {g1 h h' : Hp} {b6 b8 lr : Nat} {r : Loop} {done : List En} (q : LInv g1 b6 b8 lr r done h) (f : Fr (fun _ => False) h h') : LInv g1 b6 b8 lr r done h' := by
  obtain ⟨q1, q2, q3, q4⟩ := q
  exact ⟨q1.trans (f.mono (fun _ h => h.elim)), f.get q2 (fun h => h), f.get q3 (fun h => h), f.get q4 (fun h => h)⟩
theorem long_round {g1 : Hp} {b6 b8 lr D : Nat} {r : Loop} (ok : RecOK 23 #[19] (sub (bodyOf Try.f30) [true, true, true, true, false, true, false, false]) (sub (bodyOf Try.f30) [true, true, true, true, false, true, false, true]) (mkTm [(6, some (.pointer (some ⟨b6, 0, none⟩))), (7, some (.pointer (some ⟨b8, 0, none⟩)))]) D r)
    (n1 : b6 ≠ b8) (n2 : b6 ≠ lr) (n3 : b8 ≠ lr) (done : List En) (e : En) (h : Hp) (K : Value → Hp → Prop) (q : LInv g1 b6 b8 lr r done h) (H : ∀ h', LInv g1 b6 b8 lr r (done ++ [e]) h' → K (.bool true) h') : HN Try.prog (callS (yieldV lr) #[En.val e]) h K := by
  obtain ⟨f, hb6, hb8, hrec⟩ := q
  refine trie_Trie_Longest_r1_ok ⟨b6, 0, none⟩ ⟨b8, 0, none⟩ _ _ _ hrec ok ?_
  unfold trie_Trie_Longest_r1
  refine newV (us := e.enc) rfl rfl size39 rfl fun h1 e1 c1 b1 z1 => ?_
  have g1e := (e1.fr (fun _ => False))
  have hlr := lt_of_get hrec
  refine ⟨r, g1e.get hrec (fun h => h), ok.state, ?_⟩
  have f2 : Fr (fun k => k = lr) h1 (h1.setIfInBounds lr (.loop { r with state := .busy })) := set_fr rfl
  have hr2 : (h1.setIfInBounds lr (.loop { r with state := .busy }))[lr]? = some (.loop { r with state := .busy }) := set_get (by omega)
  revert f2 hr2
  generalize h1.setIfInBounds lr (.loop { r with state := .busy }) = h2
  intro f2 hr2
  have c1' := f2.cl c1 (by intro e; simp at e; omega)
  have hb62 := f2.get (g1e.get hb6 (fun h => h)) n2
  have hb82 := f2.get (g1e.get hb8 (fun h => h)) n3
  have F2 : Fr (fun k => k = b6 ∨ k = b8 ∨ k = lr) g1 h2 := (f.trans (e1.fr _)).trans (f2.mono (fun k hk => .inr (.inr hk)))
  refine ⟨_, _, _, ldS c1' (by kernel_rfl), ?_⟩
  refine HU_box (us := e.enc) (cs := (lastE done).enc) hb62 rfl rfl size39 rfl fun h3 c3 b3 f3 z3 => ?_
  have hb83 := f3.get hb82 (fun e => n1 e.symm)
  have hr3 := f3.get hr2 (fun e => n2 e.symm)
  refine HU_box (us := [.bool true]) (cs := [Value.bool (!done.isEmpty)]) hb83 rfl rfl size4 rfl fun h4 c4 b4 f4 z4 => ?_
  have hb64 := f4.get b3 n1
  have hr4 := f4.get hr3 (fun e => n3 e.symm)
  refine ⟨_, hr4, H _ ⟨((F2.trans (f3.mono fun k hk => .inl hk)).trans (f4.mono fun k hk => .inr (.inl hk))).trans (set_fr (.inr (.inr rfl))), ?_, ?_, ?_⟩⟩
  · rw [Array.getElem?_setIfInBounds_ne (fun e => n2 e.symm)]
    simpa [lastE] using hb64
  · rw [Array.getElem?_setIfInBounds_ne (fun e => n3 e.symm)]
    rw [show (!(done ++ [e]).isEmpty) = true by cases done <;> rfl]
    exact b4
  · rw [set_get (lt_of_get hr4), loop_back r ok.state ok.pending]
def longT (F : Nat) (t : TT) (key : Int) : Option (En × Bool) := (aboveAll F t key t.width).map fun es => (lastE es, !es.isEmpty)
theorem longest_s {h : Hp} {b : Nat} {S : Nat → Prop} {t : TT} (q : TrAt h b S t) (hw : 0 ≤ t.width ∧ t.width ≤ 64) {F : Nat} (key : Int) {e : En} {o : Bool} (hl : longT F t key = some (e, o)) {K : Value → Hp → Prop} (H : ∀ h', Ext h h' → K (.tuple #[En.val e, .bool o]) h') : CallsH Try.prog 30 #[.pointer (some ⟨b, 0, none⟩), .int .u32 key] h K := by
  unfold longT at hl
  cases hes : aboveAll F t key t.width with
  | none => rw [hes] at hl; cases hl
  | some es =>
    rw [hes] at hl
    injection hl with hl
    injection hl with e1' e2'
    subst e1' e2'
    refine trie_Trie_Longest_ok _ _ ?_
    unfold trie_Trie_Longest
    refine newC_i (cs := (lastE []).enc) fun h1 e1 c1 b1 z1 => newC_i (cs := (lastE []).enc) fun h2 e2 c2 b2 z2 => ?_
    refine newV (cs := [Value.bool false]) (us := [Value.bool (!([] : List En).isEmpty)]) rfl rfl size4 rfl fun h3 e3 c3 b3 z3 => ?_
    have e13 := (e1.trans e2).trans e3
    obtain ⟨A, c, qg⟩ := (q.ext e13).ag
    refine ⟨_, eqNil eq32, br_f rfl ⟨_, ld (qg.cl.at_ 0 _ rfl) (by kernel_rfl), ?_⟩⟩
    refine above_s _ _ _ fun h4 a1 a2 a3 e4 l1 l2 l3 m1 m2 m3 k1 k2 k3 => ⟨_, rfl, ?_⟩
    refine ⟨55, _, rfl, by kernel_rfl, fun r ok => ?_⟩
    show CallsH Try.prog 55 #[yieldV (h4.size + 1), .pointer (some ⟨a1, 0, none⟩), .pointer (some ⟨a2, 0, none⟩), .pointer (some ⟨a3, 0, none⟩)] _ _
    have e5 : Ext h4 ((h4.push (.deferred (some []))).push (.loop r)) := (Ext.push h4 _).trans (Ext.push _ _)
    have hD1 : ((h4.push (.deferred (some []))).push (.loop r))[h4.size]? = some (.deferred (some [])) := by
      rw [Array.getElem?_push, if_neg (by simp), Array.getElem?_push, if_pos rfl]
    have hL1 : ((h4.push (.deferred (some []))).push (.loop r))[h4.size + 1]? = some (.loop r) := by rw [Array.getElem?_push, if_pos (by simp)]
    revert e5 hD1 hL1
    generalize (h4.push (.deferred (some []))).push (.loop r) = g1
    intro e5 hD1 hL1
    have s4 := e4.size
    have s5 := e5.size
    have e45 := e4.trans e5
    have fN := fun (x y : Hp) (e : Ext x y) => e.fr (fun _ => False)
    have ab : Above (LInv g1 h1.size h2.size (h4.size + 1) r) b S t key t.width ⟨a1, 0, none⟩ ⟨a2, 0, none⟩ ⟨a3, 0, none⟩ (yieldV (h4.size + 1)) := by
      refine ⟨fun done h' inv => ?_, fun done h' h'' inv f => inv.ext f, fun done e h' K' inv H' => long_round ok (by omega) (by omega) (by omega) done e h' K' inv H'⟩
      have fi := inv.1
      refine ⟨((q.ext e13).ext e45).keep fi (fun k hk hb => ?_), fi.cl (k1.ext e5) ?_, fi.cl (k2.ext e5) ?_, fi.cl (k3.ext e5) ?_⟩
      · have := q.2.1 k hk
        rcases hb with e | e | e <;> omega
      all_goals
        rintro (e | e | e) <;> simp at e <;> omega
    refine above1_s ab hw hes ⟨Fr.refl _ _, (fN _ _ ((e2.trans e3).trans e45)).get b1 (fun h => h) |> fun _ => (fN _ _ (e3.trans e45)).get b2 (fun h => h), (fN _ _ e45).get b3 (fun h => h), hL1⟩ fun h6 inv => ?_
    obtain ⟨f, hb6, hb8, hrec⟩ := inv
    refine ⟨r, hrec, by rw [ok.state]; decide, ?_⟩
    rw [ok.pending]
    have f7 : Fr (fun k => k = h4.size + 1) h6 (h6.setIfInBounds (h4.size + 1) (.loop { r with state := .done })) := set_fr rfl
    have F : ∀ o, Fr (fun k => k = h1.size ∨ k = h2.size ∨ k = h4.size + 1) g1 (h6.setIfInBounds (h4.size + 1) o) := fun o => f.trans (set_fr (.inr (.inr rfl)))
    have B6 : ∀ o, (h6.setIfInBounds (h4.size + 1) o)[h1.size]? = some (.cells (lastE es).enc.toArray 66 (0, 0)) := fun o => by rw [Array.getElem?_setIfInBounds_ne (by omega)]; exact hb6
    have B8 : ∀ o, (h6.setIfInBounds (h4.size + 1) o)[h2.size]? = some (.cells [Value.bool (!es.isEmpty)].toArray 4 (0, 0)) := fun o => by rw [Array.getElem?_setIfInBounds_ne (by omega)]; exact hb8
    have BD : ∀ o, (h6.setIfInBounds (h4.size + 1) o)[h4.size]? = some (.deferred (some [])) := fun o => (F o).get hD1 (by rintro (e | e | e) <;> omega)
    have BA : ∀ o, (h6.setIfInBounds (h4.size + 1) o)[h.size]? = some (.cells (lastE []).enc.toArray 66 (0, 0)) := fun o => (F o).get ((fN _ _ ((e2.trans e3).trans e45)).get b1 (fun h => h)) (by rintro (e | e | e) <;> omega)
    have clb : ∀ {hh : Hp} {bb : Nat} {vs : List Value} {T : TypeId}, hh[bb]? = some (.cells vs.toArray T (0, 0)) → Cl hh ⟨bb, 0, none⟩ vs := fun hb => Cl.of_block hb fun j v hj => by rw [Nat.zero_add]; exact hj
    refine ⟨_, _, _, ldS (clb (B6 _)) (by kernel_rfl), _, ld (clb (B8 _)).head (by kernel_rfl), ?_⟩
    refine HU_box (us := (lastE es).enc) (cs := (lastE []).enc) (BA _) rfl rfl size39 rfl fun h8 c8 b8 f8 z8 => ?_
    have B88 := f8.get (B8 _) (by omega)
    have s6 := f.size
    have s8 : h6.size ≤ h8.size := by have := f8.size; rwa [Array.size_setIfInBounds] at this
    have BD8 := f8.get (BD _) (by omega)
    refine ⟨ld (clb B88).head (by kernel_rfl), shut1 BD8 ?_⟩
    have f9 : Fr (fun k => k = h4.size) h8 (h8.setIfInBounds h4.size (.deferred none)) := set_fr rfl
    refine ⟨_, _, _, ldS (f9.cl c8 (by intro e; simp at e; omega)) (by kernel_rfl), H _ ⟨?_, fun k hk => ?_⟩⟩
    · have := e13.size
      have := f9.size
      omega
    · have := e13.size
      rw [f9.keep k (by omega) (by omega), f8.keep k (by rw [Array.size_setIfInBounds]; omega) (by omega), (F _).keep k (by omega) (by rintro (e | e | e) <;> omega), e45.old k (by omega), e13.old k hk]
def st0 : TT := ⟨8, 20, [], 0, 0, false⟩
def sndT (o : Option (Int × TT)) : TT := match o with
  | some (_, t) => t
  | none => st0
def st1 : TT := sndT (putT 40 st0 128 1 5)
def st2 : TT := sndT (putT 40 st1 160 3 6)
def st3 : TT := sndT (cutT 40 st2 160 3)
theorem ex1 : putT 40 st0 128 1 5 = some (0, st1) := by decide +kernel
theorem ex2 : putT 40 st1 160 3 6 = some (0, st2) := by decide +kernel
theorem ex3 : longT 40 st2 191 = some ((160, 3, 6), true) := by decide +kernel
theorem ex4 : cutT 40 st2 160 3 = some (0, st3) := by decide +kernel
theorem ex5 : getT st3 128 1 = some (5, true) := by decide +kernel
theorem ex6 : putT 40 st3 160 2 0 = some (120, st3) := by decide +kernel
theorem ex7 : st2.nodes = 4 ∧ st3.nodes = 2 ∧ st3.ns.length = 4 ∧ st2.width = 8 ∧ st1.width = 8 ∧ st3.width = 8 := by decide +kernel
theorem eq39 (a b c a' b' c' : Int) : PV Try.prog (binOp .eql 66 (.agg #[.int .u32 a, .int .i64 b, .int .i64 c]) (.agg #[.int .u32 a', .int .i64 b', .int .i64 c'])) (.bool (decide (a = a' ∧ b = b' ∧ c = c'))) := by
  intro w
  rw [run_eql_struct, run_equalIn_struct w 9999 66 _ _ (by kernel_rfl) (by kernel_rfl)]
  simp [go_sem]
  by_cases h0 : a = a' <;> by_cases h1 : b = b' <;> by_cases h2 : c = c' <;> simp [h0, h1, h2]
theorem awake_s {h : Hp} {K : Value → Hp → Prop} (H : ∀ h', Ext h h' → K (.bool true) h') : CallsH Try.prog 38 #[] h K := by
  refine quintetlaw12_awake_ok ?_
  unfold quintetlaw12_awake quintetlaw12_awake_j1
  refine tnew_s 8 20 (fun hn => absurd ⟨.inl rfl, by omega, by omega⟩ hn) fun _ h1 b e1 hb q0 => ⟨_, _, rfl, br_f rfl ⟨_, eqNil eq32, br_f rfl ?_⟩⟩
  have hS : ∀ k, (fun k => k = b) k → h.size ≤ k := fun k hk => by have : k = b := hk; omega
  refine put_s (f := 40) (t := st0) q0 ⟨by decide, by decide⟩ 128 1 5 ex1 fun h2 T2 => ⟨_, rfl, ?_⟩
  obtain ⟨S2, q2, s2, f2⟩ := T2
  have w1 : st1.width = 8 := ex7.2.2.2.2.1
  have w2 : st2.width = 8 := ex7.2.2.2.1
  have w3 : st3.width = 8 := ex7.2.2.2.2.2
  refine put_s (f := 40) (t := st1) q2 ⟨by rw [w1]; decide, by rw [w1]; decide⟩ 160 3 6 ex2 fun h3 T3 => ⟨_, rfl, ?_⟩
  obtain ⟨S3, q3, s3, f3⟩ := T3
  refine longest_s (F := 40) q3 ⟨by rw [w2]; decide, by rw [w2]; decide⟩ 191 ex3 fun h4 e4 => ⟨_, _, _, _, rfl, ?_⟩
  refine newV (us := En.enc (160, 3, 6)) rfl rfl size39 rfl fun h5 e5 c5 b5 z5 => ?_
  have q5 := (q3.ext e4).ext e5
  refine tnodes_s q5 ⟨_, rfl, ?_⟩
  refine cut_s (f := 40) q5 ⟨by rw [w2]; decide, by rw [w2]; decide⟩ 160 3 ex4 fun h6 q6 f6 => ⟨_, rfl, ?_⟩
  refine get_s q6 ⟨by rw [w3]; decide, by rw [w3]; decide⟩ 128 1 ex5 ⟨_, _, rfl, br_t rfl (br_t rfl (br_t rfl ?_))⟩
  have hS3 : ∀ k, S3 k → h.size ≤ k := by
    intro k hk
    have a1 := e1.size
    have a2 := f2.size
    rcases s3 k hk with hk | hk
    · rcases s2 k hk with hk | hk
      · exact hS k hk
      · omega
    · omega
  have c6 : Cl h6 ⟨h4.size, 0, none⟩ (En.enc (160, 3, 6)) := f6.cl c5 (fun hS' => by have := (q3.ext e4).2.1 _ hS'; exact absurd this (Nat.lt_irrefl _))
  refine ⟨_, _, _, ldS c6 (by kernel_rfl), _, eq39 _ _ _ _ _ _, br_t (by decide) (br_t (by rw [ex7.1]; rfl) (br_t rfl (br_t rfl (br_t rfl ?_))))⟩
  refine tnodes_s q6 ⟨_, rfl, br_t (by rw [ex7.2.1]; rfl) ?_⟩
  refine tarena_s q6 ⟨_, rfl, br_t (by rw [ex7.2.2.1]; rfl) ?_⟩
  refine put_s (f := 40) (t := st3) q6 ⟨by rw [w3]; decide, by rw [w3]; decide⟩ 160 2 0 ex6 fun h7 T7 => ⟨_, rfl, ?_⟩
  obtain ⟨S7, q7, s7, f7⟩ := T7
  refine H h7 ⟨?_, fun k hk => ?_⟩
  · have := e1.size; have := f2.size; have := f3.size; have := e4.size; have := e5.size; have := f6.size; have := f7.size
    omega
  · have := e1.size; have := f2.size; have := f3.size; have := e4.size; have := e5.size; have := f6.size; have := f7.size
    have n2 : ¬ k = b := by omega
    have n3 : ¬ S2 k := fun hk2 => by rcases s2 k hk2 with e | e
                                      · exact n2 e
                                      · omega
    have n6 : ¬ S3 k := fun hk2 => by have := hS3 k hk2; omega
    rw [f7.keep k (by omega) n6, f6.keep k (by omega) n6, e5.old k (by omega), e4.old k (by omega), f3.keep k (by omega) n3, f2.keep k (by omega) n2, e1.old k hk]
theorem noRoundE {P : Program} {n : Nat} {f : FuncId} {lb : Array Value} {ps : Array Tmp} {cas bd : Code} {tm : Tm} {h : Hp} {Kn : Nat → Hp → Prop} {Kj : Code → Nat → Hp → Prop} (hen : enters P f = true)
    (hc : ∀ l h1, Ext h h1 → CallsH P f (#[yieldV l] ++ lb) h1 fun _ h2 => Ext h1 h2)
    (H : ∀ h', Ext h h' → h'[h.size]? = some (.deferred (some [])) → h.size < h'.size → Kn h.size h') : RangeW P n (.func (.func f) #[] lb) ps cas bd tm h Kn Kj := by
  refine ⟨f, lb, rfl, hen, fun r hr => ?_⟩
  have e2 : Ext h ((h.push (.deferred (some []))).push (.loop r)) := (Ext.push h _).trans (Ext.push _ _)
  refine (hc _ _ e2).mono fun v h2 hh => ?_
  have hz := hh.size
  have hs : ((h.push (.deferred (some []))).push (.loop r)).size = h.size + 2 := by simp
  refine ⟨r, by rw [hh.old _ (by omega), Array.getElem?_push, if_pos (by simp)], by rw [hr.state]; decide, ?_⟩
  rw [hr.pending]
  refine H _ ((e2.trans hh).set (by omega) _) ?_ (by simp; omega)
  rw [Array.getElem?_setIfInBounds_ne (by omega), hh.old _ (by omega), Array.getElem?_push, if_neg (by simp), Array.getElem?_push, if_pos rfl]
theorem above1N {a1 a2 a3 : Addr} {h : Hp} (c : Cl h a1 [.pointer none]) (l : Nat) {K : Value → Hp → Prop} (H : K (.tuple #[]) h) : CallsH Try.prog 55 #[yieldV l, .pointer (some a1), .pointer (some a2), .pointer (some a3)] h K := by
  refine trie_Trie_Above_1_ok _ _ _ _ _ _ ?_
  unfold trie_Trie_Above_1
  exact ⟨_, ld c.head (by kernel_rfl), _, eqNil eq32, br_t rfl H⟩
theorem walk1N {a1 : Addr} {h : Hp} (c : Cl h a1 [.pointer none]) (l : Nat) {K : Value → Hp → Prop} (H : ∀ h', Ext h h' → K (.tuple #[]) h') : CallsH Try.prog 56 #[yieldV l, .pointer (some a1)] h K := by
  refine trie_Trie_Walk_1_ok _ _ _ _ ?_
  unfold trie_Trie_Walk_1
  exact newC_i fun h1 e1 c1 b1 z1 => ⟨_, ld (c.ext e1).head (by kernel_rfl), _, eqNil eq32, br_t rfl (H h1 e1)⟩
theorem walk1_empty {a1 : Addr} {h : Hp} {b : Nat} {S : Nat → Prop} {t : TT} (q : TrAt h b S t) (hr : t.rooted = false) (c : Cl h a1 [.pointer (some ⟨b, 0, none⟩)]) (l : Nat) {K : Value → Hp → Prop} (H : ∀ h', Ext h h' → K (.tuple #[]) h') : CallsH Try.prog 56 #[yieldV l, .pointer (some a1)] h K := by
  refine trie_Trie_Walk_1_ok _ _ _ _ ?_
  unfold trie_Trie_Walk_1
  refine newC_i fun h1 e1 c1 b1 z1 => ⟨_, ld (c.ext e1).head (by kernel_rfl), _, eqNil eq32, br_f rfl ⟨_, ld (c.ext e1).head (by kernel_rfl), ?_⟩⟩
  obtain ⟨A, cc, qg⟩ := (q.ext e1).ag
  exact ⟨_, ld (qg.cl.at_ 5 _ rfl) (by kernel_rfl), br_t (by rw [hr]; rfl) (H h1 e1)⟩
theorem longestN (key : Int) {h : Hp} {K : Value → Hp → Prop} (H : ∀ h', Ext h h' → K (.tuple #[En.val (0, 0, 0), .bool false]) h') : CallsH Try.prog 30 #[.pointer none, .int .u32 key] h K := by
  refine trie_Trie_Longest_ok _ _ ?_
  unfold trie_Trie_Longest
  refine newC_i (cs := (lastE []).enc) fun h1 e1 c1 b1 z1 => newC_i (cs := (lastE []).enc) fun h2 e2 c2 b2 z2 => ?_
  refine newV (cs := [Value.bool false]) (us := [Value.bool false]) rfl rfl size4 rfl fun h3 e3 c3 b3 z3 => ?_
  refine ⟨_, eqNil eq32, br_t rfl ⟨_, _, _, ldS (c2.ext e3) (by kernel_rfl), ?_⟩⟩
  have b1' := ((e2.trans e3).fr (fun _ => False)).get b1 (fun h => h)
  refine HU_box (us := (lastE []).enc) (cs := (lastE []).enc) b1' rfl rfl size39 rfl fun h4 c4 b4 f4 z4 => ?_
  refine ⟨_, _, _, ldS c4 (by kernel_rfl), H h4 ⟨?_, fun k hk => ?_⟩⟩
  · have := e1.size; have := e2.size; have := e3.size; omega
  · have := e1.size; have := e2.size; have := e3.size
    rw [f4.keep k (by omega) (by omega), e3.old k (by omega), e2.old k (by omega), e1.old k hk]
theorem size3 : (Try.prog.info? 3).map (·.size) = some 1 := by kernel_rfl
theorem same0 {g : FuncId} {lb : Array Value} (hen : enters Try.prog g = true) {h : Hp} (hc : ∀ l h1, Ext h h1 → CallsH Try.prog g (#[yieldV l] ++ lb) h1 fun _ h2 => Ext h1 h2) {K : Value → Hp → Prop} (H : ∀ h', Ext h h' → K (.bool true) h') :
    CallsH Try.prog 33 #[.func (.func g) #[] lb, .slice none 0 0, .int .i64 0] h K := by
  refine quintetlaw12_same_ok _ _ _ _ _ _ _ ?_
  unfold quintetlaw12_same
  refine newC_i fun h1 e1 c1 b1 z1 => newC_i fun h2 e2 c2 b2 z2 => newC_i fun h3 e3 c3 b3 z3 => newC_i (cs := [Value.bool false]) fun h4 e4 c4 b4 z4 => ?_
  refine ⟨_, ld (((c1.ext e2).ext e3).ext e4).head (by kernel_rfl), ?_⟩
  refine ⟨false, fun w => pureRun_run Try.prog _ _ (by kernel_rfl) w, br_f rfl ?_⟩
  refine ⟨_, ld (c3.ext e4).head (by kernel_rfl), br_f rfl ?_⟩
  refine ⟨_, ld (c3.ext e4).head (by kernel_rfl), _, _, _, ld ((c2.ext e3).ext e4).head (by kernel_rfl), 0, fun w => pureRun_run Try.prog _ _ (by kernel_rfl) w, ?_⟩
  have fN := fun (x y : Hp) (e : Ext x y) => e.fr (fun _ => False)
  refine HU_box (us := [.int .i64 0]) (cs := [.int .i64 0]) ((fN _ _ e4).get b3 (fun h => h)) rfl rfl size3 rfl fun h5 c5 b5 f5 z5 => ?_
  refine newV (us := [.int .i64 0]) (cs := [.int .i64 0]) rfl rfl size3 rfl fun h6 e6 c6 b6 z6 => ?_
  have cA := (f5.cl (((c1.ext e2).ext e3).ext e4) (by intro e; simp at e; omega)).ext e6
  have cB := (f5.cl ((c2.ext e3).ext e4) (by intro e; simp at e; omega)).ext e6
  have bD := (fN _ _ e6).get (f5.get b4 (by omega)) (fun h => h)
  have E6 : Ext h h6 := ⟨by omega, fun k hk => by rw [e6.old k (by omega), f5.keep k (by omega) (by omega), e4.old k (by omega), e3.old k (by omega), e2.old k (by omega), e1.old k hk]⟩
  refine ⟨_, ld cA.head (by kernel_rfl), noRoundE hen (fun l hh e => hc l hh (E6.trans e)) fun h7 e7 hD7 hlt7 => ?_⟩
  have s7 := e7.size
  refine ⟨_, ld ((c5.ext e6).ext e7).head (by kernel_rfl), br_f rfl ?_⟩
  refine HU_box (us := [.int .i64 0]) (cs := [.int .i64 0]) ((fN _ _ e7).get b6 (fun h => h)) rfl rfl size3 rfl fun h8 c8 b8 f8 z8 => ?_
  have cA8 := f8.cl (cA.ext e7) (by intro e; simp at e; omega)
  have cB8 := f8.cl (cB.ext e7) (by intro e; simp at e; omega)
  have bD8 := f8.get ((fN _ _ e7).get bD (fun h => h)) (by omega)
  have hD8 := f8.get hD7 (by omega)
  have E8 : Ext h h8 := ⟨by omega, fun k hk => by rw [f8.keep k (by omega) (by omega), e7.old k (by omega), E6.old k hk]⟩
  refine ⟨_, ld cA8.head (by kernel_rfl), noRoundE hen (fun l hh e => hc l hh (E8.trans e)) fun h9 e9 hD9 hlt9 => ?_⟩
  have s9 := e9.size
  refine ⟨_, ld (c8.ext e9).head (by kernel_rfl), _, _, _, ld (cB8.ext e9).head (by kernel_rfl), ?_⟩
  refine HU_box (us := [.bool true]) (cs := [Value.bool false]) ((fN _ _ e9).get bD8 (fun h => h)) rfl rfl size4 rfl fun h10 c10 b10 f10 z10 => ?_
  have d1 := f10.get hD9 (by omega)
  have d2 := f10.get ((fN _ _ e9).get hD8 (fun h => h)) (by omega)
  refine ⟨d1, ?_, ?_⟩
  · rw [Array.getElem?_setIfInBounds_ne (by omega)]
    exact d2
  refine ⟨_, ld (cell_set (cell_set c10.head (by show h3.size ≠ _; omega)) (by show h3.size ≠ _; omega)) (by kernel_rfl), H _ ⟨by simp; omega, fun k hk => ?_⟩⟩
  rw [Array.getElem?_setIfInBounds_ne (by omega), Array.getElem?_setIfInBounds_ne (by omega), f10.keep k (by omega) (by omega), e9.old k (by omega), E8.old k hk]
end Go.Proofs.Ytofjbbfnkefoaaa.Fs
