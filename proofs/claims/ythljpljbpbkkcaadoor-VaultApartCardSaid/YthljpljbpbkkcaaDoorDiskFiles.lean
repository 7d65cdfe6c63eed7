/-
  One file of a disk's files taken out and put back.
-/
import Derived.Test.YthljpljbpbkkcaaDoorDiskPure
set_option linter.unusedVariables false
namespace Go.Proofs.YthljpljbpbkkcaaDoor
open Go.Sl

theorem pfiles_out {w0 w : World} {A : List HProp} : ∀ {l : List DF} {j : Nat} {x : DF}, l[j]? = some x → Own w0 (pfiles l :: A) w → Own w0 (pfile x.ptr x.bs x.safe :: pfiles (l.eraseIdx j) :: A) w
  | [], _, _, h, _ => by simp at h
  | y :: l, 0, x, h, H => by
    simp at h; subst h
    exact H.star
  | y :: l, j + 1, x, h, H => by
    have h1 := H.star.pk1
    have h2 := pfiles_out (l := l) (j := j) (x := x) (by simpa using h) h1
    exact h2.pk2.pk2.pk1.intro_star.pk1
theorem pfiles_set {w0 w : World} {A : List HProp} {y : DF} : ∀ {l : List DF} {j : Nat} {x : DF}, l[j]? = some x → Own w0 (pfile y.ptr y.bs y.safe :: pfiles (l.eraseIdx j) :: A) w → Own w0 (pfiles (l.set j y) :: A) w
  | [], _, _, h, _ => by simp at h
  | z :: l, 0, x, h, H => H.intro_star
  | z :: l, j + 1, x, h, H => by
    have h1 : Own w0 (star (pfile z.ptr z.bs z.safe) (pfiles (l.eraseIdx j)) :: pfile y.ptr y.bs y.safe :: A) w := H.pk1
    have h2 := pfiles_set (l := l) (j := j) (x := x) (by simpa using h) (h1.star.pk1.pk2)
    exact h2.pk1.intro_star
theorem pfiles_snoc {w0 w : World} {y : DF} : ∀ {l : List DF} {A : List HProp}, Own w0 (pfile y.ptr y.bs y.safe :: pfiles l :: A) w → Own w0 (pfiles (l ++ [y]) :: A) w
  | [], A, H => H.intro_star
  | z :: l, A, H => by
    have h1 := H.pk1.star.pk1.pk2
    exact (pfiles_snoc (l := l) (h1.ix [0, 1, 2])).ix [1, 0] |>.intro_star
theorem ents_set {l : List DF} {j : Nat} {x y : DF} (h : l[j]? = some x) (hn : y.name = x.name) (hp : y.ptr = x.ptr) : ents (l.set j y) = ents l := by
  unfold ents
  rw [List.map_set]
  apply List.ext_getElem?
  intro i
  rw [List.getElem?_set]
  by_cases hi : j = i
  · subst hi
    have := (List.getElem?_eq_some_iff.1 h).1
    have hx : l[j] = x := (List.getElem?_eq_some_iff.1 h).2
    simp [this, hn, hp, hx]
  · simp [hi]
theorem ents_snoc {l : List DF} {y : DF} : ents (l ++ [y]) = ents l ++ [(.string y.name, .pointer (some ⟨y.ptr, 0, none⟩))] := by simp [ents]
theorem look_set {y x : DF} (hy : y.name = x.name) {k : ByteArray} : ∀ {l : List DF} {j : Nat}, (l.map (·.name)).Nodup → l[j]? = some x → lookL (l.set j y) k = if k = x.name then some (y.bs, y.safe) else lookL l k
  | [], _, _, h => by simp at h
  | z :: l, 0, hn, h => by
    simp at h; subst h
    simp only [List.set_cons_zero, lookL, hy]
    by_cases hk : z.name = k
    · simp [hk]
    · rw [if_neg hk, if_neg (Ne.symm hk), if_neg hk]
  | z :: l, j + 1, hn, h => by
    simp only [List.map_cons, List.nodup_cons] at hn
    have h' : l[j]? = some x := by simpa using h
    have hx : x ∈ l := List.mem_of_getElem? h'
    simp only [List.set_cons_succ, lookL]
    rw [look_set hy hn.2 h']
    by_cases hk : z.name = k
    · have : k ≠ x.name := fun he => hn.1 (List.mem_map.2 ⟨x, hx, by rw [← he, hk]⟩)
      rw [if_pos hk, if_neg this, if_pos hk]
    · rw [if_neg hk, if_neg hk]
theorem Rep.put {l : List DF} {st st' : DSt} {j : Nat} {x y : DF} (h : Rep l st) (hj : l[j]? = some x) (hy : y.name = x.name) (hok : y.safe ≤ y.bs.length ∧ y.bs.length ≤ 16777216) (hf : st'.files = putV x.name (y.bs, y.safe) st.files) (hu : 0 ≤ st'.fuse ∧ st'.fuse ≤ 9223372036854775807) :
    Rep (l.set j y) st' := by
  refine ⟨?_, fun k => ?_, fun z hz => ?_, hu⟩
  · have : (l.set j y).map (·.name) = l.map (·.name) := by
      rw [List.map_set]
      apply List.ext_getElem?
      intro i
      rw [List.getElem?_set]
      by_cases hi : j = i
      · subst hi
        have := (List.getElem?_eq_some_iff.1 hj).1
        have hx : l[j] = x := (List.getElem?_eq_some_iff.1 hj).2
        simp [this, hy, hx]
      · simp [hi]
    rw [this]; exact h.nodup
  · rw [look_set hy h.nodup hj, hf, h.look]; rfl
  · rcases List.mem_or_eq_of_mem_set hz with hz | rfl
    · exact h.ok z hz
    · exact hok
theorem look_snoc {l : List DF} {y : DF} {k : ByteArray} (h : ∀ x ∈ l, x.name ≠ y.name) : lookL (l ++ [y]) k = if k = y.name then some (y.bs, y.safe) else lookL l k := by
  induction l with
  | nil => simp only [List.nil_append, lookL]; by_cases hk : y.name = k
           · simp [hk]
           · rw [if_neg hk, if_neg (Ne.symm hk)]
  | cons z l ih =>
    simp only [List.cons_append, lookL]
    rw [ih fun x hx => h x (List.mem_cons_of_mem _ hx)]
    by_cases hk : z.name = k
    · have : k ≠ y.name := fun he => h z (List.mem_cons_self ..) (by rw [hk, he])
      rw [if_pos hk, if_neg this, if_pos hk]
    · rw [if_neg hk, if_neg hk]
theorem Rep.add {l : List DF} {st st' : DSt} {y : DF} (h : Rep l st) (hn : st.files y.name = none) (hok : y.safe ≤ y.bs.length ∧ y.bs.length ≤ 16777216) (hf : st'.files = putV y.name (y.bs, y.safe) st.files) (hu : 0 ≤ st'.fuse ∧ st'.fuse ≤ 9223372036854775807) :
    Rep (l ++ [y]) st' := by
  have hno := h.no hn
  refine ⟨?_, fun k => ?_, fun z hz => ?_, hu⟩
  · rw [List.map_append, List.nodup_append]
    refine ⟨h.nodup, by simp, fun a ha b hb => ?_⟩
    obtain ⟨x, hx, rfl⟩ := List.mem_map.1 ha
    simp at hb; subst hb
    exact hno x hx
  · rw [look_snoc hno, hf, h.look]; rfl
  · rcases List.mem_append.1 hz with hz | hz
    · exact h.ok z hz
    · simp at hz; subst hz; exact hok
end Go.Proofs.YthljpljbpbkkcaaDoor
