/- The engine of tries in tries: its arena in the heap; what the small functions leave. -/
import Derived.Test.YtomhkbhgpmcbiaaGreatPnTab
import Derived.Test.YtomhkbhgpmcbiaaGreatPnNest
import Derived.Test.YtomhkbhgpmcbiaaGreatFsC
import Derived.Test.YtomhkbhgpmcbiaaGreatSxCut
namespace Go.Proofs.YtomhkbhgpmcbiaaGreat.Fs
open Go Go.RowKit Go.Proofs.YtomhkbhgpmcbiaaGreat.Sx
set_option linter.unusedVariables false
set_option linter.unusedSimpArgs false
set_option maxRecDepth 10000
/-- A step: what it may change, what it owns then. -/
structure Tg (S S' : Nat → Prop) (h h' : Hp) : Prop where
  fr : Fr S h h'
  own : ∀ k, S' k → S k ∨ h.size ≤ k
theorem Tg.refl (S : Nat → Prop) (h : Hp) : Tg S S h h := ⟨Fr.refl _ _, fun _ h => .inl h⟩
theorem Tg.trans {S S1 S2 : Nat → Prop} {a b c : Hp} (f : Tg S S1 a b) (g : Tg S1 S2 b c) : Tg S S2 a c :=
  ⟨f.fr.then_ g.fr f.own, fun k hk => by
    rcases g.own k hk with h | h
    · exact f.own k h
    · exact .inr (Nat.le_trans f.fr.size h)⟩
theorem Fr.tg {S : Nat → Prop} {h h' : Hp} (f : Fr S h h') : Tg S S h h' := ⟨f, fun _ h => .inl h⟩
theorem Ext.tg {S : Nat → Prop} {h h' : Hp} (e : Ext h h') : Tg S S h h' := Fr.tg (e.fr S)
theorem Tg.not {S S' : Nat → Prop} {h h' : Hp} (t : Tg S S' h h') {k : Nat} (hk : k < h.size) (hn : ¬ S k) : ¬ S' k := fun hs => by
  rcases t.own k hs with h | h
  · exact hn h
  · omega
/-! ### the arena, plain -/
structure Nd where
  k0 : Nat
  k1 : Nat
  hang : Nat
  whole : Bool
  list : List Nat
  deriving DecidableEq
def zNd : Nd := ⟨0, 0, 0, false, []⟩
def Nd.kid (n : Nd) (b : Bool) : Nat := if b then n.k1 else n.k0
def Nd.setKid (n : Nd) (b : Bool) (v : Nat) : Nd := if b then { n with k1 := v } else { n with k0 := v }
def ndAt (ar : List Nd) (i : Nat) : Nd := ar.getD i zNd
def downI (ar : List Nd) (at_ : Nat) : List Bool → List Nd × Nat
  | [] => (ar, at_)
  | b :: bs => if (ndAt ar at_).kid b = 0 then downI ((ar ++ [zNd]).set at_ ((ndAt ar at_).setKid b ar.length)) ar.length bs else downI ar ((ndAt ar at_).kid b) bs
structure WF (ar : List Nd) : Prop where
  ok : ∀ n, n ∈ ar → n.k0 < ar.length ∧ n.k1 < ar.length ∧ n.hang < ar.length
theorem ndAt_get {ar : List Nd} {i : Nat} (hi : i < ar.length) : ar[i]? = some (ndAt ar i) := by
  unfold ndAt
  rw [List.getD_eq_getElem?_getD, List.getElem?_eq_getElem hi]
  rfl
theorem ndAt_mem {ar : List Nd} {i : Nat} (hi : i < ar.length) : ndAt ar i ∈ ar := List.mem_of_getElem? (ndAt_get hi)
theorem WF.kid {ar : List Nd} (w : WF ar) {i : Nat} (hi : i < ar.length) (b : Bool) : (ndAt ar i).kid b < ar.length := by
  have := w.ok _ (ndAt_mem hi)
  cases b
  · exact this.1
  · exact this.2.1
theorem WF.snoc {ar : List Nd} (w : WF ar) : WF (ar ++ [zNd]) := ⟨fun n hn => by
  rw [List.length_append, List.length_singleton]
  rcases List.mem_append.1 hn with h | h
  · have := w.ok n h; omega
  · rw [List.mem_singleton.1 h]
    show 0 < _ ∧ 0 < _ ∧ 0 < _
    omega⟩
theorem WF.set {ar : List Nd} (w : WF ar) (i : Nat) {n : Nd} (hn : n.k0 < ar.length ∧ n.k1 < ar.length ∧ n.hang < ar.length) : WF (ar.set i n) := ⟨fun x hx => by
  rw [List.length_set]
  rcases List.mem_or_eq_of_mem_set hx with h | h
  · exact w.ok x h
  · rw [h]; exact hn⟩
theorem WF.grow {ar : List Nd} (w : WF ar) {i : Nat} (hi : i < ar.length) (b : Bool) : WF ((ar ++ [zNd]).set i ((ndAt ar i).setKid b ar.length)) := by
  refine w.snoc.set i ?_
  have := w.ok _ (ndAt_mem hi)
  rw [List.length_append, List.length_singleton]
  cases b
  · exact ⟨Nat.lt_succ_self _, Nat.lt_succ_of_lt this.2.1, Nat.lt_succ_of_lt this.2.2⟩
  · exact ⟨Nat.lt_succ_of_lt this.1, Nat.lt_succ_self _, Nat.lt_succ_of_lt this.2.2⟩
theorem down_ok : ∀ (bs : List Bool) (ar : List Nd) (i : Nat), WF ar → i < ar.length → WF (downI ar i bs).1 ∧ (downI ar i bs).2 < (downI ar i bs).1.length ∧ ar.length ≤ (downI ar i bs).1.length ∧ (downI ar i bs).1.length ≤ ar.length + bs.length
  | [], ar, i, w, hi => ⟨w, hi, Nat.le_refl _, Nat.le_refl _⟩
  | b :: bs, ar, i, w, hi => by
    rw [downI]
    split
    · have := down_ok bs _ ar.length (w.grow hi b) (by simp)
      simp only [List.length_set, List.length_append, List.length_singleton] at this
      rw [List.length_cons]
      exact ⟨this.1, this.2.1, by omega, by omega⟩
    · have := down_ok bs ar _ w (w.kid hi b)
      rw [List.length_cons]
      exact ⟨this.1, this.2.1, by omega, by omega⟩
/-! ### the arena in the heap -/
structure HNd where
  nd : Nd
  A : Option Addr
  c : Nat
def HNd.enc (x : HNd) : List Value := [.int .i64 (x.nd.k0 : Int), .int .i64 (x.nd.k1 : Int), .int .i64 (x.nd.hang : Int), .bool x.nd.whole, .slice x.A x.nd.list.length x.c]
theorem HNd.len (x : HNd) : x.enc.length = 5 := rfl
theorem HNd.flat (x : HNd) : x.enc.all flatV = true := rfl
def zH : HNd := ⟨zNd, none, 0⟩
abbrev ints (os : List Nat) : List Int := os.map (fun (i : Nat) => (i : Int))
abbrev RowN (h : Hp) (A : Option Addr) (c : Nat) (l : List HNd) : Prop := RowC h 94 HNd.enc 5 A c l
theorem und_nd : Tryz.prog.underlying 72 = some (.slice 94) := by kernel_rfl
theorem size_nd : (Tryz.prog.info? 94).map (·.size) = some 5 := by kernel_rfl
theorem info_nd : ∃ i z, Tryz.prog.info? 94 = some i ∧ i.zero = some z ∧ z.cells.size = 5 ∧ i.size = 5 ∧ 0 < i.bytes ∧ i.bytes ≤ 1000 := ⟨_, _, rfl, rfl, rfl, rfl, by decide, by decide⟩
theorem ixA {a : Addr} {x : Int} (h0 : 0 ≤ x) (h1 : x < 2) : PV Tryz.prog (Instr.indexAt 91 (.pointer (some a)) (.int .i64 x)) (.pointer (some (a.add x.toNat))) := by
  intro w
  have hu : Tryz.prog.underlying 91 = some (.array 2 3) := by kernel_rfl
  obtain ⟨j, hj, hjs⟩ : ∃ j, Tryz.prog.info? 3 = some j ∧ j.size = 1 := ⟨_, rfl, rfl⟩
  simp [Instr.indexAt, asIntOf, run_underlying hu, Instr.sureAddr, h0, h1, sizeOf, typeInfo, hj, hjs]
section
variable {α : Type} {enc : α → List Value} {sz : Nat}
theorem appG {P : Program} {T E : TypeId} {i : TypeInfo} {z : Value} (he : ∀ x, (enc x).length = sz) (hf : ∀ x, (enc x).all flatV = true) {h : Hp} {A : Option Addr} {c cx : Nat} {ax : Addr} {xs : List α} {x : α} {K : Value → Hp → Prop}
    (hu : P.underlying T = some (.slice E)) (hi : P.info? E = some i) (hz : i.zero = some z) (hzl : z.cells.size = sz) (hsz : i.size = sz) (hb0 : 0 < i.bytes) (hb1 : i.bytes ≤ 1000)
    (r : RowC h E enc sz A c xs) (hx : Cl h ax (enc x)) (hl : xs.length ≤ 1000000000)
    (H : ∀ h' g c', RowC h' E enc sz (some ⟨g, 0, none⟩) c' (xs ++ [x]) → (blk A g ∨ h.size ≤ g) → Fr (blk A) h h' → K (.slice (some ⟨g, 0, none⟩) (xs ++ [x]).length c') h') :
    HW P (Builtin.append_ #[T, T] T #[.slice A xs.length c, .slice (some ax) 1 cx]) h K := by
  have hb : (2 * (xs.length + 1) + 768) * i.bytes ≤ 2 ^ 48 := by
    have h1 := Nat.mul_le_mul_left (2 * (xs.length + 1) + 768) hb1
    have h2 : (2 * (xs.length + 1) + 768) * 1000 ≤ 2 ^ 48 := by
      have : (2 * (xs.length + 1) + 768) ≤ 2000000770 := by omega
      exact Nat.le_trans (Nat.mul_le_mul_right 1000 this) (by decide)
    exact Nat.le_trans h1 h2
  refine HW_append1C he hf hu hi hz hzl hsz hb0 r.row hx hb fun h' g c' r' hg f hc => ?_
  have := H h' g c' ⟨r', hc.elim (fun e => e ▸ r.cap) id⟩ hg f
  simpa using this
end
/-- The engine's block, its arena, the nodes' lists; S: what is its own. -/
structure Ar (h : Hp) (b : Nat) (S : Nat → Prop) (cfv : List Value) (A : Option Addr) (c : Nat) (hs : List HNd) (ent : Nat) : Prop where
  l8 : cfv.length = 8
  sb : S b
  old : ∀ k, S k → k < h.size
  bx : h[b]? = some (.cells (cfv ++ [Value.slice A hs.length c, Value.int .i64 (ent : Int)]).toArray 74 (0, 0))
  row : RowN h A c hs
  sA : ∀ k, blk A k → S k ∧ k ≠ b
  ls : ∀ x, x ∈ hs → RowI h x.A x.c (ints x.nd.list)
  sl : ∀ x, x ∈ hs → ∀ k, blk x.A k → S k ∧ k ≠ b ∧ ¬ blk A k
  dj : ∀ (i j : Nat) (x y : HNd), hs[i]? = some x → hs[j]? = some y → i ≠ j → ∀ k, blk x.A k → ¬ blk y.A k
theorem Ar.keep {h h' : Hp} {b : Nat} {S S' : Nat → Prop} {cfv : List Value} {A : Option Addr} {c : Nat} {hs : List HNd} {ent : Nat} (q : Ar h b S cfv A c hs ent) (f : Fr S' h h') (hn : ∀ k, S k → ¬ S' k) : Ar h' b S cfv A c hs ent :=
  ⟨q.l8, q.sb, fun k hk => Nat.lt_of_lt_of_le (q.old k hk) f.size, f.get q.bx (hn _ q.sb), q.row.keep f (fun k hk => hn k (q.sA k hk).1), q.sA, fun x hx => (q.ls x hx).keep f (fun k hk => hn k (q.sl x hx k hk).1), q.sl, q.dj⟩
theorem Ar.ext {h h' : Hp} {b : Nat} {S : Nat → Prop} {cfv : List Value} {A : Option Addr} {c : Nat} {hs : List HNd} {ent : Nat} (q : Ar h b S cfv A c hs ent) (e : Ext h h') : Ar h' b S cfv A c hs ent := q.keep (e.fr (fun _ => False)) (fun _ _ h => h)
theorem Ar.cl {h : Hp} {b : Nat} {S : Nat → Prop} {cfv : List Value} {A : Option Addr} {c : Nat} {hs : List HNd} {ent : Nat} (q : Ar h b S cfv A c hs ent) : Cl h ⟨b, 0, none⟩ (cfv ++ [Value.slice A hs.length c, Value.int .i64 (ent : Int)]) := Cl.of_block q.bx fun j v hj => by rw [Nat.zero_add]; exact hj
theorem Ar.ld8 {h : Hp} {b : Nat} {S : Nat → Prop} {cfv : List Value} {A : Option Addr} {c : Nat} {hs : List HNd} {ent : Nat} (q : Ar h b S cfv A c hs ent) : HV Tryz.prog (Instr.loadAt 72 (.pointer (some ((⟨b, 0, none⟩ : Addr).add 8)))) h (.slice A hs.length c) :=
  ld (q.cl.at_ 8 _ (by rw [List.getElem?_append_right (by rw [q.l8]; exact Nat.le_refl _), q.l8]; rfl)) (by kernel_rfl)
theorem Ar.ld9 {h : Hp} {b : Nat} {S : Nat → Prop} {cfv : List Value} {A : Option Addr} {c : Nat} {hs : List HNd} {ent : Nat} (q : Ar h b S cfv A c hs ent) : HV Tryz.prog (Instr.loadAt 3 (.pointer (some ((⟨b, 0, none⟩ : Addr).add 9)))) h (.int .i64 (ent : Int)) :=
  ld (q.cl.at_ 9 _ (by rw [List.getElem?_append_right (by rw [q.l8]; decide), q.l8]; rfl)) (by kernel_rfl)
theorem Ar.blkA {h : Hp} {b : Nat} {S : Nat → Prop} {cfv : List Value} {A : Option Addr} {c : Nat} {hs : List HNd} {ent : Nat} (q : Ar h b S cfv A c hs ent) (h0 : 0 < hs.length) : ∃ g, A = some ⟨g, 0, none⟩ := q.row.blk0 HNd.len h0
theorem blk_one {g k : Nat} (h : blk (some ⟨g, 0, none⟩ : Option Addr) k) : k = g := by
  obtain ⟨a, ha, rfl⟩ := h
  injection ha with ha
  subst ha
  rfl
theorem blk_self (g : Nat) : blk (some ⟨g, 0, none⟩ : Option Addr) g := ⟨_, rfl, rfl⟩
theorem fresh_s {h : Hp} {b : Nat} {S : Nat → Prop} {cfv : List Value} {A : Option Addr} {c : Nat} {hs : List HNd} {ent : Nat} (q : Ar h b S cfv A c hs ent) (hl : hs.length ≤ 900000000) {K : Value → Hp → Prop}
    (H : ∀ h' S' A' c', Ar h' b S' cfv A' c' (hs ++ [zH]) ent → Tg S S' h h' → K (.int .i64 (hs.length : Int)) h') : CallsH Tryz.prog 39 #[.pointer (some ⟨b, 0, none⟩)] h K := by
  refine prune_Engine_fresh_ok _ ?_
  unfold prune_Engine_fresh
  refine ⟨_, _, _, q.ld8, newC_i (cs := zH.enc) fun h1 e1 c1 b1 z1 => ?_⟩
  obtain ⟨i, z, hi, hz, hzl, hsz, hb0, hb1⟩ := info_nd
  have q1 := q.ext e1
  refine appG HNd.len HNd.flat und_nd hi hz hzl hsz hb0 hb1 q1.row (x := zH) c1 (by omega) fun h2 g c2 r2 hg f2 => ⟨_, _, _, rfl, ?_⟩
  have hgb : g ≠ b := by
    rcases hg with hg | hg
    · exact (q.sA g hg).2
    · have := q1.old b q.sb; omega
  have hb2 : ¬ blk A b := fun hk => (q.sA b hk).2 rfl
  have bx2 := f2.get q1.bx hb2
  show HU Tryz.prog (Instr.storeAt 72 (.pointer (some ((⟨b, 0, none⟩ : Addr).add 8))) _) h2 _
  rw [add_eq0]
  have hc8 : (cfv ++ [Value.slice A hs.length c, Value.int .i64 (ent : Int)]).take 8 ++ [Value.slice (some ⟨g, 0, none⟩) (hs ++ [zH]).length c2] ++ (cfv ++ [Value.slice A hs.length c, Value.int .i64 (ent : Int)]).drop (8 + [Value.slice (some ⟨g, 0, none⟩) (hs ++ [zH]).length c2].length) = cfv ++ [Value.slice (some ⟨g, 0, none⟩) (hs ++ [zH]).length c2, Value.int .i64 (ent : Int)] := by
    have hl8 := q.l8
    match cfv, hl8 with
    | [_, _, _, _, _, _, _, _], _ => rfl
  refine HU_st (us := [Value.slice (some ⟨g, 0, none⟩) (hs ++ [zH]).length c2]) bx2 rfl (by kernel_rfl) (by have := q.l8; simp; omega) rfl ?_
  rw [hc8]
  have hblt : b < h2.size := lt_of_get bx2
  have f3 : Fr (fun k => k = b) h2 (setB h2 b (cfv ++ [Value.slice (some ⟨g, 0, none⟩) (hs ++ [zH]).length c2, Value.int .i64 (ent : Int)]) 74) := setB_fr rfl
  have hb3 := setB_get (cs := cfv ++ [Value.slice (some ⟨g, 0, none⟩) (hs ++ [zH]).length c2, Value.int .i64 (ent : Int)]) (T := 74) hblt
  revert f3 hb3
  generalize setB h2 b (cfv ++ [Value.slice (some ⟨g, 0, none⟩) (hs ++ [zH]).length c2, Value.int .i64 (ent : Int)]) 74 = h3
  intro f3 hb3
  have hgl : g < h2.size := r2.old g (blk_self g)
  have q3 : Ar h3 b (fun k => S k ∨ k = g) cfv (some ⟨g, 0, none⟩) c2 (hs ++ [zH]) ent := by
    refine ⟨q.l8, .inl q.sb, fun k hk => ?_, hb3, r2.keep f3 (fun k hk e => hgb ((blk_one hk).symm.trans e)), fun k hk => ⟨.inr (blk_one hk), by rw [blk_one hk]; exact hgb⟩, fun x hx => ?_, fun x hx k hk => ?_, fun i j x y hx hy hij k hk hk2 => ?_⟩
    · have := f3.size
      rcases hk with hk | rfl
      · have := q1.old k hk; have := f2.size; omega
      · omega
    · rcases List.mem_append.1 hx with hx | hx
      · exact ((q1.ls x hx).keep f2 (fun k hk hA => (q.sl x hx k hk).2.2 hA)).keep f3 (fun k hk => (q.sl x hx k hk).2.1)
      · rw [List.mem_singleton.1 hx]; exact RowC.nil
    · rcases List.mem_append.1 hx with hx | hx
      · obtain ⟨s1, s2, s3⟩ := q.sl x hx k hk
        refine ⟨.inl s1, s2, fun hkg => ?_⟩
        have hkg := blk_one hkg
        subst hkg
        rcases hg with hg | hg
        · exact s3 hg
        · have := q1.old k s1; omega
      · rw [List.mem_singleton.1 hx] at hk
        obtain ⟨a, ha, _⟩ := hk
        cases ha
    · have key : ∀ (i : Nat) (x : HNd), (hs ++ [zH])[i]? = some x → hs[i]? = some x ∨ x = zH := fun i x hx => by
        rw [List.getElem?_append] at hx
        split at hx
        · exact .inl hx
        · exact .inr (by
            have := List.mem_of_getElem? hx
            exact List.mem_singleton.1 this)
      rcases key i x hx with hx | rfl
      · rcases key j y hy with hy | rfl
        · exact q.dj i j x y hx hy hij k hk hk2
        · obtain ⟨a, ha, _⟩ := hk2; cases ha
      · obtain ⟨a, ha, _⟩ := hk; cases ha
  refine ⟨_, _, _, q3.ld8, ?_⟩
  have hw : IntKind.i64.wrap (((hs ++ [zH]).length : Int) - 1) = (hs.length : Int) := by
    rw [List.length_append, List.length_singleton, wrap_in (by omega) (by omega)]; omega
  rw [hw]
  refine H h3 _ _ _ q3 ⟨?_, fun k hk => ?_⟩
  · exact ((e1.fr S).trans (f2.mono fun k hk => (q.sA k hk).1)).trans (f3.mono fun k hk => hk ▸ q.sb)
  · rcases hk with hk | rfl
    · exact .inl hk
    · rcases hg with hg | hg
      · exact .inl (q.sA k hg).1
      · exact .inr (Nat.le_trans e1.size hg)
/-- A part of a node is laid anew; its list stays. -/
theorem Ar.part {h : Hp} {b g : Nat} {S : Nat → Prop} {cfv : List Value} {c : Nat} {hs : List HNd} {ent : Nat} (q : Ar h b S cfv (some ⟨g, 0, none⟩) c hs ent) {t : TypeId} {j o : Nat} {x : HNd} (hj : hs[j]? = some x) (nd' : Nd) (hnl : nd'.list = x.nd.list) {v : Value} {us : List Value}
    (hv : v.cells = us.toArray) (hsz : (Tryz.prog.info? t).map (·.size) = some us.length) (hf : us.all flatV = true) (ho : o + us.length ≤ 5) (hx' : (⟨nd', x.A, x.c⟩ : HNd).enc = x.enc.take o ++ us ++ x.enc.drop (o + us.length)) {K : Hp → Prop}
    (H : ∀ h', Ar h' b S cfv (some ⟨g, 0, none⟩) c (hs.set j ⟨nd', x.A, x.c⟩) ent → Fr S h h' → h'.size = h.size → K h') : HU Tryz.prog (Instr.storeAt t (.pointer (some ⟨g, j * 5 + o, none⟩)) v) h K := by
  have hS := q.sA g (blk_self g)
  refine HU_part (x' := (⟨nd', x.A, x.c⟩ : HNd)) (us := us) HNd.len q.row.row hj hv hsz hf ho hx' fun h' r' f z => H h' ?_ (f.mono fun k hk => hk ▸ hS.1) z
  have hmem := List.mem_of_getElem? hj
  have key : ∀ (i : Nat) (y : HNd), (hs.set j ⟨nd', x.A, x.c⟩)[i]? = some y → ∃ y0, hs[i]? = some y0 ∧ y.A = y0.A ∧ y.c = y0.c ∧ y.nd.list = y0.nd.list := fun i y hy => by
    by_cases e : j = i
    · subst e
      rw [List.getElem?_set_self (List.getElem?_eq_some_iff.1 hj).1] at hy
      injection hy with hy
      subst hy
      exact ⟨x, hj, rfl, rfl, hnl⟩
    · rw [List.getElem?_set_ne e] at hy
      exact ⟨y, hy, rfl, rfl, rfl⟩
  refine ⟨q.l8, q.sb, fun k hk => by rw [z]; exact q.old k hk, ?_, ⟨r', q.row.cap⟩, q.sA, fun y hy => ?_, fun y hy k hk => ?_, fun i1 i2 y1 y2 h1 h2 hne k hk1 hk2 => ?_⟩
  · rw [List.length_set]
    exact f.get q.bx (fun e => hS.2 e.symm)
  · obtain ⟨i, hi⟩ := List.mem_iff_getElem?.1 hy
    obtain ⟨y0, hy0, e1, e2, e3⟩ := key i y hi
    rw [e1, e2, e3]
    exact (q.ls y0 (List.mem_of_getElem? hy0)).keep f (fun k hk e => (q.sl y0 (List.mem_of_getElem? hy0) k hk).2.2 (e ▸ blk_self g))
  · obtain ⟨i, hi⟩ := List.mem_iff_getElem?.1 hy
    obtain ⟨y0, hy0, e1, e2, e3⟩ := key i y hi
    rw [e1] at hk
    exact q.sl y0 (List.mem_of_getElem? hy0) k hk
  · obtain ⟨z1, hz1, a1, _⟩ := key i1 y1 h1
    obtain ⟨z2, hz2, a2, _⟩ := key i2 y2 h2
    rw [a1] at hk1
    rw [a2] at hk2
    exact q.dj i1 i2 z1 z2 hz1 hz2 hne k hk1 hk2
/-- The arena, told by its nodes alone. -/
def ArN (h : Hp) (b : Nat) (S : Nat → Prop) (cfv : List Value) (ar : List Nd) (ent : Nat) : Prop := ∃ A c hs, Ar h b S cfv A c hs ent ∧ hs.map (·.nd) = ar
theorem ArN.ext {h h' : Hp} {b : Nat} {S : Nat → Prop} {cfv : List Value} {ar : List Nd} {ent : Nat} (q : ArN h b S cfv ar ent) (e : Ext h h') : ArN h' b S cfv ar ent := by
  obtain ⟨A, c, hs, q, m⟩ := q
  exact ⟨A, c, hs, q.ext e, m⟩
theorem ArN.keep {h h' : Hp} {b : Nat} {S S' : Nat → Prop} {cfv : List Value} {ar : List Nd} {ent : Nat} (q : ArN h b S cfv ar ent) (f : Fr S' h h') (hn : ∀ k, S k → ¬ S' k) : ArN h' b S cfv ar ent := by
  obtain ⟨A, c, hs, q, m⟩ := q
  exact ⟨A, c, hs, q.keep f hn, m⟩
theorem at_of {hs : List HNd} {ar : List Nd} (m : hs.map (·.nd) = ar) {i : Nat} (hi : i < ar.length) : ∃ x, hs[i]? = some x ∧ x.nd = ndAt ar i := by
  subst m
  rw [List.length_map] at hi
  refine ⟨hs[i], List.getElem?_eq_getElem hi, ?_⟩
  unfold ndAt
  rw [List.getD_eq_getElem?_getD, List.getElem?_map, List.getElem?_eq_getElem hi]
  rfl
/-! ### bits, down -/
theorem shr32 (x y : Int) (hy : 0 ≤ y) : PV Tryz.prog (binOp .shr 43 (.int .u32 x) (.int .i64 y)) (.int .u32 (x.fdiv (2 ^ min y.toNat 32))) := by
  intro w
  have hn : ¬ (y < 0) := by omega
  simp only [binOp, Op.shift, hn, if_false]
  rfl
def bitP (a : Int) (i : Nat) : Bool := decide (bAnd .u32 (a.fdiv (2 ^ (31 - i))) 1 = 1)
theorem and1 (x : Int) : bAnd .u32 x 1 = 0 ∨ bAnd .u32 x 1 = 1 := by
  unfold bAnd
  have h1 : (BitVec.ofInt 32 x &&& BitVec.ofInt 32 1).toNat ≤ 1 := by
    rw [BitVec.toNat_and]
    exact Nat.and_le_right
  have h2 : IntKind.u32.wrap (((BitVec.ofInt 32 x &&& BitVec.ofInt 32 1).toNat : Nat) : Int) = (((BitVec.ofInt 32 x &&& BitVec.ofInt 32 1).toNat : Nat) : Int) := by
    simp [IntKind.wrap, IntKind.bits, IntKind.signed]
    omega
  show IntKind.u32.wrap (((BitVec.ofInt 32 x &&& BitVec.ofInt 32 1).toNat : Nat) : Int) = 0 ∨ IntKind.u32.wrap (((BitVec.ofInt 32 x &&& BitVec.ofInt 32 1).toNat : Nat) : Int) = 1
  rw [h2]
  omega
theorem bit_s (a : Int) {i : Nat} (hi : i ≤ 31) {h : Hp} {K : Value → Hp → Prop} (H : K (.int .i64 (if bitP a i then 1 else 0)) h) : CallsH Tryz.prog 56 #[.int .u32 a, .int .i64 (i : Int)] h K := by
  refine prune_bit_ok _ _ ?_
  unfold prune_bit
  rw [wrap_in (n := 31 - (i : Int)) (by omega) (by omega)]
  refine ⟨_, shr32 _ _ (by omega), ?_⟩
  have e : min (31 - (i : Int)).toNat 32 = 31 - i := by omega
  rw [e]
  have : IntKind.i64.wrap (bAnd .u32 (a.fdiv (2 ^ (31 - i))) 1) = if bitP a i then 1 else 0 := by
    unfold bitP
    rcases and1 (a.fdiv (2 ^ (31 - i))) with h | h <;> rw [h] <;> decide
  rw [this]
  exact H
def bitsOf (a : Int) (n : Nat) : List Bool := (List.range n).map (bitP a)
theorem bits_get {a : Int} {n i : Nat} (hi : i < n) : (bitsOf a n)[i]? = some (bitP a i) := by
  unfold bitsOf
  rw [List.getElem?_map, List.getElem?_range hi]
  rfl
theorem bits_len (a : Int) (n : Nat) : (bitsOf a n).length = n := by unfold bitsOf; rw [List.length_map, List.length_range]
theorem down_l1 {b : Nat} {cfv : List Value} {a : Int} {n : Nat} (hn : n ≤ 32) {a10 : Addr} {ent : Nat} {K0 : Int → Hp → Prop} :
    ∀ (bs pre : List Bool) (h : Hp) (S : Nat → Prop) (ar : List Nd) (i : Nat), ArN h b S cfv ar ent → WF ar → i < ar.length → bitsOf a n = pre ++ bs → ar.length + bs.length ≤ 900000000 → Cl h a10 [.int .u32 a, .int .i64 (n : Int)] → ¬ S a10.block →
      (∀ h' S', ArN h' b S' cfv (downI ar i bs).1 ent → Tg S S' h h' → K0 ((downI ar i bs).2 : Int) h') → prune_Engine_down_l1 (some ⟨b, 0, none⟩) a10 (n : Int) K0 (bs.length + 1) (i : Int) (pre.length : Int) h := by
  intro bs
  induction bs with
  | nil =>
    intro pre h S ar i q w hi hb hl ca hn0 H
    unfold prune_Engine_down_l1
    have : pre.length = n := by have := congrArg List.length hb; rw [bits_len] at this; simpa using this.symm
    refine br_f (by simp; omega) (H h S q (Tg.refl _ _))
  | cons c bs ih =>
    intro pre h S ar i q w hi hb hl ca hn0 H
    unfold prune_Engine_down_l1
    have hlen : n = pre.length + (bs.length + 1) := by have := congrArg List.length hb; rw [bits_len] at this; simpa using this
    have hc : c = bitP a pre.length := by
      have h1 := bits_get (a := a) (n := n) (i := pre.length) (by omega)
      rw [hb] at h1
      simpa using h1
    rw [downI] at H
    obtain ⟨A, cc, hs, q, m⟩ := q
    have hsl : hs.length = ar.length := by rw [← m, List.length_map]
    obtain ⟨x, hx, hxn⟩ := at_of m hi
    obtain ⟨g, rfl⟩ := q.blkA (by omega)
    have hix : PV Tryz.prog (Instr.indexAt 72 (.slice (some ⟨g, 0, none⟩) hs.length cc) (.int .i64 (i : Int))) (.pointer (some ⟨g, i * 5, none⟩)) := ix0 (by omega) und_nd size_nd
    have hcl := q.row.elem0 HNd.len hx
    have hw : IntKind.i64.wrap ((pre.length : Int) + 1) = ((pre ++ [c]).length : Int) := by rw [wrap_in (by omega) (by omega)]; simp
    have hb' : bitsOf a n = (pre ++ [c]) ++ bs := by rw [hb]; simp
    have kidc : ∀ {g' : Nat} {h' : Hp} {y : HNd}, Cl h' ⟨g', i * 5, none⟩ y.enc → HV Tryz.prog (Instr.loadAt 3 (.pointer (some ((⟨g', i * 5, none⟩ : Addr).add (if bitP a pre.length then (1 : Int) else 0).toNat)))) h' (.int .i64 (y.nd.kid c : Int)) := fun hc1 => by
      rw [← hc]
      cases c
      · exact ld (hc1.at_ 0 _ rfl) (by kernel_rfl)
      · exact ld (hc1.at_ 1 _ rfl) (by kernel_rfl)
    have hx01 : 0 ≤ (if bitP a pre.length then (1 : Int) else 0) ∧ (if bitP a pre.length then (1 : Int) else 0) < 2 := by split <;> omega
    refine br_t (by simp; omega) ⟨_, _, _, q.ld8, _, ld ca.head (by kernel_rfl), bit_s a (by omega) ⟨_, rfl, q.ld8, _, hix, _, ixA hx01.1 hx01.2, _, kidc hcl, ?_⟩⟩
    rw [hxn, hw]
    refine br_i (fun p => ?_) (fun p => ?_)
    · have p : (ndAt ar i).kid c = 0 := by simp at p; omega
      rw [if_pos p] at H
      refine fresh_s q (by omega) fun h1 S1 A1 c1 q1 t1 => ⟨_, rfl, ?_⟩
      obtain ⟨g1, rfl⟩ := q1.blkA (by simp)
      have ha1 : a10.block < h.size := cell_lt ca.head
      have ca1 := t1.fr.cl ca hn0
      have hn1 := t1.not ha1 hn0
      have hix1 : PV Tryz.prog (Instr.indexAt 72 (.slice (some ⟨g1, 0, none⟩) (hs ++ [zH]).length c1) (.int .i64 (i : Int))) (.pointer (some ⟨g1, i * 5, none⟩)) := ix0 (by rw [List.length_append]; omega) und_nd size_nd
      refine ⟨_, _, _, q1.ld8, _, ld ca1.head (by kernel_rfl), bit_s a (by omega) ⟨_, rfl, q1.ld8, _, hix1, _, ixA hx01.1 hx01.2, ?_⟩⟩
      have hx1 : (hs ++ [zH])[i]? = some x := by rw [List.getElem?_append_left (by omega)]; exact hx
      have hadd : ((⟨g1, i * 5, none⟩ : Addr).add (if bitP a pre.length then (1 : Int) else 0).toNat) = ⟨g1, i * 5 + (if c then 1 else 0), none⟩ := by
        rw [add_off rfl, ← hc]
        cases c <;> rfl
      rw [hadd]
      have fin : ∀ h2, Ar h2 b S1 cfv (some ⟨g1, 0, none⟩) c1 ((hs ++ [zH]).set i ⟨x.nd.setKid c hs.length, x.A, x.c⟩) ent → Fr S1 h1 h2 → h2.size = h1.size → prune_Engine_down_l1 (some ⟨b, 0, none⟩) a10 (n : Int) K0 (bs.length + 1) (hs.length : Int) ((pre ++ [c]).length : Int) h2 := fun h2 q2 f2 z2 => by
        have hm2 : ((hs ++ [zH]).set i (⟨x.nd.setKid c hs.length, x.A, x.c⟩ : HNd)).map (·.nd) = (ar ++ [zNd]).set i ((ndAt ar i).setKid c ar.length) := by
          rw [List.map_set, List.map_append, m, hsl]
          show (ar ++ [zNd]).set i (x.nd.setKid c ar.length) = _
          rw [hxn]
        rw [hsl]
        refine ih (pre ++ [c]) h2 S1 _ ar.length ⟨_, _, _, q2, hm2⟩ (w.grow hi c) (by simp) hb' ?_ (f2.cl ca1 hn1) hn1 fun h3 S3 q3 t3 => H h3 S3 q3 (t1.trans ((Fr.tg f2).trans t3))
        rw [List.length_set, List.length_append, List.length_singleton]
        rw [List.length_cons] at hl
        omega
      have hnl : (x.nd.setKid c hs.length).list = x.nd.list := by cases c <;> rfl
      cases c
      · exact q1.part hx1 _ hnl (us := [.int .i64 (hs.length : Int)]) rfl (by kernel_rfl) rfl (by show 0 + 1 ≤ 5; decide) rfl fin
      · exact q1.part hx1 _ hnl (us := [.int .i64 (hs.length : Int)]) rfl (by kernel_rfl) rfl (by show 1 + 1 ≤ 5; decide) rfl fin
    · have p : ¬ (ndAt ar i).kid c = 0 := by simp at p; omega
      rw [if_neg p] at H
      rw [List.length_cons] at hl
      exact ih (pre ++ [c]) h S ar _ ⟨_, _, _, q, m⟩ w (w.kid hi c) hb' (by omega) ca hn0 H
theorem down_s {h : Hp} {b : Nat} {S : Nat → Prop} {cfv : List Value} {ar : List Nd} {ent : Nat} (q : ArN h b S cfv ar ent) (w : WF ar) {i : Nat} (hi : i < ar.length) (hl : ar.length ≤ 800000000) (p : Pf) {n : Nat} (hp : p.len = n) (hn : n ≤ 32) {K : Value → Hp → Prop}
    (H : ∀ h' S', ArN h' b S' cfv (downI ar i (bitsOf p.addr n)).1 ent → Tg S S' h h' → K (.int .i64 ((downI ar i (bitsOf p.addr n)).2 : Int)) h') : CallsH Tryz.prog 40 #[.pointer (some ⟨b, 0, none⟩), .int .i64 (i : Int), p.val] h K := by
  refine prune_Engine_down_ok _ _ _ _ ?_
  unfold prune_Engine_down
  refine newC_i (cs := p.enc) fun h1 e1 c1 b1 z1 => ⟨_, ld (c1.at_ 1 _ rfl) (by kernel_rfl), ?_⟩
  rw [hp]
  have hS : ¬ S h.size := fun hs => by
    obtain ⟨A, c, hs', q, _⟩ := q
    have := q.old _ hs
    omega
  have c1' : Cl h1 ⟨h.size, 0, none⟩ [.int .u32 p.addr, .int .i64 (n : Int)] := by rw [← hp]; exact c1
  refine ⟨(bitsOf p.addr n).length + 1, ?_⟩
  exact down_l1 hn (bitsOf p.addr n) [] h1 S ar i (q.ext e1) w hi rfl (by rw [bits_len]; omega) c1' hS fun h2 S2 q2 t2 => H h2 S2 q2 ((Ext.tg e1).trans t2)
end Go.Proofs.YtomhkbhgpmcbiaaGreat.Fs
