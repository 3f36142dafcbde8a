/- The library's sort over the heap alone, at elements of one cell; the order may leave some apart. -/
import Derived.Test.YtgahbkbmolfpnaaGreatSxSort
namespace Go.Proofs.YtgahbkbmolfpnaaGreat.Sx
open Go Go.RowKit Go.Sort
set_option linter.unusedVariables false
set_option linter.unusedSimpArgs false
section
variable {α : Type} [Inhabited α]
theorem flatK_one (enc : α → Value) (d : Array α) : flatK (fun x => [enc x]) 1 d = d.map enc := by
  apply Array.ext
  · simp
  · intro i h1 h2
    have h3 : i < d.size := by simpa using h2
    simp only [flatK, Nat.mul_one, Array.getElem_map, Array.getElem_range, Nat.div_one, Nat.mod_one]
    simp [h3]
theorem sw1 (enc : α → Value) (w : World) (blk off m : Nat) (d : Array α) (os : Array Obj) : sortWorld enc w blk off m d os = sortWorldK (fun x => [enc x]) 1 w blk off m d os := by
  unfold sortWorld sortWorldK putRowK
  rw [flatK_one]
  congr 1
  unfold putRow
  congr 1
  funext c
  unfold putCells
  apply Array.ext
  · simp
  · intro i h1 h2
    simp only [Array.getElem_mapIdx, Array.size_map]
    split
    · rename_i hh
      have h3 : i - off < d.size := by omega
      simp [h3]
    · rfl
theorem holds1 {enc : α → Value} {w : World} {blk off : Nat} {d : Array α} (h : HoldsK (fun x => [enc x]) 1 w blk off d) : Holds enc w blk off d := by
  intro j hj
  have := h j (by simpa using hj)
  refine ⟨?_, this.2⟩
  rw [this.1, flatK_one]
  simp [hj]
theorem cmp_lays1 {P : Program} {g : Nat} {cb : Array Value} {enc : α → Value} {cf : α → α → Int} {blk size : Nat} {w : World}
    (hf : ∀ h', Fr (fun k => k = blk) w.heap h' → ∀ x y, CallsH P g (#[enc x, enc y] ++ cb) h' fun v h'' => v = .int .i64 (cf x y) ∧ Ext h' h'') : CmpLays1 P g cb enc cf blk 0 size w := by
  intro m os dk _ x y
  rw [sw1]
  refine (hf _ (sw_fr w blk 0 m dk os) x y _ rfl).mono ?_
  rintro e w' ⟨v, rfl, hs, rfl, hx⟩
  exact ⟨rfl, world_grow hs hx⟩
theorem perm_in {lt : α → α → Bool} {xs : List α} {d' : Array α} (hp : PermIn 0 xs.toArray.size xs.toArray d') (hs : SortedIn lt 0 xs.toArray.size d') : d'.toList.Perm xs ∧ d'.toList.Pairwise (fun a b => lt b a = false) := by
  obtain ⟨h1, _, h3⟩ := hp
  have hsz : d'.size = xs.length := by simpa using h1
  constructor
  · have e1 : (d'.extract 0 xs.toArray.size).toList = d'.toList := by simp [← hsz]
    have e2 : (xs.toArray.extract 0 xs.toArray.size).toList = xs := by simp
    rw [e1, e2] at h3
    exact h3
  · rw [List.pairwise_iff_getElem]
    intro i j hi hj hij
    have hj' : j < d'.size := by simpa using hj
    have := hs i j (Nat.zero_le _) hij (by simpa [hsz] using hj')
    have h1 : d'[i]! = d'.toList[i] := by simp [show i < d'.size by omega]
    have h2 : d'[j]! = d'.toList[j] := by simp [hj']
    rw [h1, h2] at this
    exact this
theorem sort_row1 {P : Program} {f g : Nat} {cb : Array Value} {enc : α → Value} {lt : α → α → Bool} {h : Hp} {E gb c : Nat} {xs : List α} (r : Row h E (fun x => [enc x]) 1 (some ⟨gb, 0, none⟩) c xs) {K : Value → Hp → Prop}
    (hT : ∀ w : World, w.heap = h → gb < w.heap.size → Holds enc w gb 0 xs.toArray → Calls P f #[.slice (some ⟨gb, 0, none⟩) xs.length c, .func (.func g) #[] cb] w fun e w' => e = .returned (.tuple #[]) ∧ ∃ d' n os, PermIn 0 xs.toArray.size xs.toArray d' ∧ SortedIn lt 0 xs.toArray.size d' ∧ w' = sortWorld enc w gb 0 n d' os)
    (H : ∀ h' ys, ys.Perm xs → ys.Pairwise (fun a b => lt b a = false) → Row h' E (fun x => [enc x]) 1 (some ⟨gb, 0, none⟩) c ys → Fr (fun k => k = gb) h h' → K (.tuple #[]) h') : CallsH P f #[.slice (some ⟨gb, 0, none⟩) xs.length c, .func (.func g) #[] cb] h K := by
  intro w hw
  subst hw
  have hl : ∀ x : α, ((fun x => [enc x]) x).length = 1 := fun _ => rfl
  obtain ⟨hlt, hH⟩ := row_holds hl (by decide) r
  refine (hT w rfl hlt (holds1 hH)).mono ?_
  rintro e w' ⟨rfl, d', n, os, hp, hs, rfl⟩
  obtain ⟨p1, p2⟩ := perm_in hp hs
  rw [sw1]
  refine ⟨_, rfl, sw_same .., H _ d'.toList p1 p2 ?_ (sw_fr ..)⟩
  have := sw_row hl (by decide) r p1.length_eq n os
  rwa [Array.toArray_toList] at this
/-- .. at structs. -/
theorem sort_rowK {P : Program} {f g : Nat} {cb : Array Value} {enc : α → List Value} {sz : Nat} (he : ∀ x, (enc x).length = sz) (hs0 : 0 < sz) {lt : α → α → Bool} {h : Hp} {E gb c : Nat} {xs : List α} (r : Row h E enc sz (some ⟨gb, 0, none⟩) c xs) {K : Value → Hp → Prop}
    (hT : ∀ w : World, w.heap = h → gb < w.heap.size → HoldsK enc sz w gb 0 xs.toArray → Calls P f #[.slice (some ⟨gb, 0, none⟩) xs.length c, .func (.func g) #[] cb] w fun e w' => e = .returned (.tuple #[]) ∧ ∃ d' n os, PermIn 0 xs.toArray.size xs.toArray d' ∧ SortedIn lt 0 xs.toArray.size d' ∧ w' = sortWorldK enc sz w gb 0 n d' os)
    (H : ∀ h' ys, ys.Perm xs → ys.Pairwise (fun a b => lt b a = false) → Row h' E enc sz (some ⟨gb, 0, none⟩) c ys → Fr (fun k => k = gb) h h' → K (.tuple #[]) h') : CallsH P f #[.slice (some ⟨gb, 0, none⟩) xs.length c, .func (.func g) #[] cb] h K := by
  intro w hw
  subst hw
  obtain ⟨hlt, hH⟩ := row_holds he hs0 r
  refine (hT w rfl hlt hH).mono ?_
  rintro e w' ⟨rfl, d', n, os, hp, hs, rfl⟩
  obtain ⟨p1, p2⟩ := perm_in hp hs
  refine ⟨_, rfl, sw_same .., H _ d'.toList p1 p2 ?_ (sw_fr ..)⟩
  have := sw_row he hs0 r p1.length_eq n os
  rwa [Array.toArray_toList] at this
end
end Go.Proofs.YtgahbkbmolfpnaaGreat.Sx
