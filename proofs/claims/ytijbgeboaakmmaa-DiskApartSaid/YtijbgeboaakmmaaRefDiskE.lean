/-
  Layer 2's reference: Append.
-/
import Derived.Test.YtijbgeboaakmmaaRefDiskD
set_option linter.unusedVariables false
set_option linter.unusedSimpArgs false
set_option maxRecDepth 4000
namespace Go.Proofs.Ytijbgeboaakmmaa
open Go.Sl Go.RowKit

instance nlessDec (a b : ByteArray) : Decidable (nless a b) := inferInstanceAs (Decidable (_ = true))
theorem nless_trans {a b c : ByteArray} (h1 : nless a b) (h2 : nless b c) : nless a c := by
  rw [nless_iff] at *
  exact List.lt_trans h1 h2
theorem nless_of {a b : ByteArray} (h : ¬ nless a b) (hn : a ≠ b) : nless b a := by
  rw [nless_iff] at *
  rcases List.le_iff_lt_or_eq.1 (List.not_lt.1 h) with h2 | h2
  · exact h2
  · exact absurd (toList_inj.1 h2).symm hn
def insR (p : Nat) (y : RF) (l : List RF) : List RF := l.take p ++ y :: l.drop p
theorem insR_length {p : Nat} {y : RF} {l : List RF} : (insR p y l).length = l.length + 1 := by simp [insR]; omega
theorem insR_at {p : Nat} {y : RF} {l : List RF} (hp : p ≤ l.length) : (insR p y l)[p]? = some y := by
  unfold insR
  have : (l.take p).length = p := by rw [List.length_take]; omega
  rw [List.getElem?_append_right (by omega), this, Nat.sub_self]; rfl
theorem insR_sorted {p : Nat} {y : RF} {l : List RF} (hp : p ≤ l.length) (hs : (l.map (·.name)).Pairwise nless) (h1 : ∀ (k : Nat) (x : RF), k < p → l[k]? = some x → nless x.name y.name) (h2 : ∀ x, l[p]? = some x → ¬ nless x.name y.name) (hno : ∀ x ∈ l, x.name ≠ y.name) :
    ((insR p y l).map (·.name)).Pairwise nless := by
  have hs' := hs
  rw [← List.take_append_drop p l, List.map_append, List.pairwise_append] at hs'
  unfold insR
  rw [List.map_append, List.map_cons, List.pairwise_append]
  have hd : ∀ b ∈ (l.drop p).map (·.name), nless y.name b := by
    intro b hb
    obtain ⟨x, hx, rfl⟩ := List.mem_map.1 hb
    cases hdp : l.drop p with
    | nil => rw [hdp] at hx; cases hx
    | cons z t =>
      have hz : l[p]? = some z := by
        have := congrArg (fun m => m[0]?) hdp
        simpa [List.getElem?_drop] using this
      have h3 : nless y.name z.name := nless_of (h2 z hz) (hno z (List.mem_of_getElem? hz))
      rw [hdp] at hx
      rcases List.mem_cons.1 hx with rfl | hx
      · exact h3
      · have h4 := hs'.2.1
        rw [hdp, List.map_cons, List.pairwise_cons] at h4
        exact nless_trans h3 (h4.1 _ (List.mem_map.2 ⟨x, hx, rfl⟩))
  refine ⟨hs'.1, List.pairwise_cons.2 ⟨hd, hs'.2.1⟩, fun a ha b hb => ?_⟩
  have h5 : nless a y.name := by
    obtain ⟨x, hx, rfl⟩ := List.mem_map.1 ha
    obtain ⟨k, hk⟩ := List.mem_iff_getElem?.1 hx
    rw [List.getElem?_take] at hk
    split at hk
    · exact h1 k x (by assumption) hk
    · cases hk
  rcases List.mem_cons.1 hb with rfl | hb
  · exact h5
  · exact nless_trans h5 (hd b hb)
theorem lookR_ins {y : RF} {k : ByteArray} : ∀ {l : List RF} {p : Nat}, (∀ x ∈ l, x.name ≠ y.name) → lookR (insR p y l) k = if k = y.name then some (y.b.xs, y.safe) else lookR l k
  | [], p, h => by
    have e : insR p y [] = [y] := by simp [insR]
    rw [e]
    simp only [lookR]
    by_cases hk : y.name = k
    · simp [hk]
    · rw [if_neg hk, if_neg (Ne.symm hk)]
  | z :: l, 0, h => by
    have e : insR 0 y (z :: l) = y :: z :: l := rfl
    rw [e]
    show (if y.name = k then _ else lookR (z :: l) k) = _
    by_cases hk : y.name = k
    · simp [hk]
    · rw [if_neg hk, if_neg (Ne.symm hk)]
  | z :: l, p + 1, h => by
    have e : insR (p + 1) y (z :: l) = z :: insR p y l := rfl
    rw [e]
    simp only [lookR]
    rw [lookR_ins fun x hx => h x (List.mem_cons_of_mem _ hx)]
    by_cases hk : z.name = k
    · have : k ≠ y.name := fun he => h z (List.mem_cons_self ..) (by rw [hk, he])
      rw [if_pos hk, if_neg this, if_pos hk]
    · rw [if_neg hk, if_neg hk]
theorem putV_same {nm : ByteArray} {v : List UInt8 × Nat} {f : ByteArray → Option (List UInt8 × Nat)} (h : f nm = some v) : putV nm v f = f := by
  funext k
  unfold putV
  split
  · rename_i hk; rw [hk, h]
  · rfl
theorem putV_put {nm : ByteArray} {v u : List UInt8 × Nat} {f : ByteArray → Option (List UInt8 × Nat)} : putV nm u (putV nm v f) = putV nm u f := by
  funext k
  unfold putV
  split <;> simp_all
theorem rows_ins {w0 w : World} {e : TypeId} {y : Sla UInt8} : ∀ {p : Nat} {l : List (Sla UInt8)} {A : List HProp}, Own w0 (row y.base y.cap 1 e (u8s y.xs) :: rows e l :: A) w → Own w0 (rows e (l.take p ++ y :: l.drop p) :: A) w
  | 0, l, A, H => H.intro_star
  | p + 1, [], A, H => H.intro_star
  | p + 1, z :: l, A, H => by
    have h1 := H.pk1.star.pk1.pk2
    exact (rows_ins (p := p) (l := l) (h1.ix [0, 1, 2])).pk1.intro_star
theorem rows_put {w0 w : World} {e : TypeId} {y : Sla UInt8} : ∀ {l : List (Sla UInt8)} {i : Nat} {A : List HProp}, i < l.length → Own w0 (row y.base y.cap 1 e (u8s y.xs) :: rows e l :: A) w → Own w0 (rows e (l.set i y) :: A) w
  | [], _, _, h, _ => by simp at h
  | z :: l, 0, A, h, H => by
    have h1 := H.pk1.star.tail
    exact h1.pk1.intro_star
  | z :: l, i + 1, A, h, H => by
    have h1 := H.pk1.star.pk1.pk2
    exact (rows_put (l := l) (by simpa using h) (h1.ix [0, 1, 2])).pk1.intro_star
theorem fcells_b {l : List RF} {i : Nat} {x : RF} (b : Sla UInt8) (h : l[i]? = some x) : fcells (l.set i ⟨x.name, b, x.safe⟩) = (fcells l).set (i * 3 + 1) (.slice b.base b.xs.length b.cap) := by
  rw [fcells_set (y := ⟨x.name, b, x.safe⟩) h rfl]
  dsimp only
  have hlt : i * 3 + 2 < ((fcells l).set (i * 3 + 1) (Value.slice b.base b.xs.length b.cap)).length := by
    rw [List.length_set, fcells_length]; have := (List.getElem?_eq_some_iff.1 h).1; omega
  exact set_same (by rw [List.getElem?_set_ne (by omega), fcells_at h (k := 2) (by omega)]; rfl)
theorem fcells_append (a b : List RF) : fcells (a ++ b) = fcells a ++ fcells b := by simp [fcells]
theorem fcells_take {l : List RF} {p : Nat} (hp : p ≤ l.length) : (fcells l).take (p * 3) = fcells (l.take p) := by
  conv => lhs; rw [← List.take_append_drop p l, fcells_append]
  exact List.take_left' (by rw [fcells_length, List.length_take]; congr 1; omega)
theorem fcells_drop {l : List RF} {p : Nat} (hp : p ≤ l.length) : (fcells l).drop (p * 3) = fcells (l.drop p) := by
  conv => lhs; rw [← List.take_append_drop p l, fcells_append]
  exact List.drop_left' (by rw [fcells_length, List.length_take]; congr 1; omega)
theorem fcells_one (l : List RF) : ∀ v ∈ fcells l, v.oneCell' = true := by
  intro v hv
  simp only [fcells, List.mem_flatMap] at hv
  obtain ⟨x, _, hx⟩ := hv
  simp only [List.mem_cons, List.not_mem_nil, or_false] at hx
  rcases hx with rfl | rfl | rfl <;> rfl
theorem ref_append_off {w0 : World} {A : List HProp} {r n c k bc : Nat} {base bb : Option Addr} {st : DSt} {nm : ByteArray} (ho : st.off = true) :
    Fun Try.prog w0 32 [.pointer (some ⟨r, 0, none⟩), .string nm, .slice bb k bc] (cel r (rcells base n c st) 45 :: A) (Ret w0 (fun _ : Unit => True) (fun _ => .int .i64 20) (fun _ => cel r (rcells base n c st) 45 :: A)) := by
  obtain ⟨files, off, fuse, keep0, deeds⟩ := st
  obtain rfl : off = true := ho
  refine Fun.enter Try.func32 rfl Try.ntmps32 rfl ?_
  refine WC.seq <| WC.region <| sv (vaI rfl) <| WL.nil <| WX.thenN <| WC.seq <| WC.seq <| WC.region <| sv (vmP rfl) <| sv (vnil rfl) <| sv (vfld fl45f1 rfl) <| sv (vldc pl4 rfl) <| WL.nil <| WX.thenN <| ?_
  refine WC.tt rfl ?_
  exact WC.seq <| WC.region <| sv (vaI rfl) <| WL.nil <| WX.thenN <| WC.ret <| WX.thenR <| WX.ret1 rfl (()) (trivial) rfl (fun _ h => h)
theorem ref_append_name {w0 : World} {A : List HProp} {r n c k bc : Nat} {base bb : Option Addr} {st : DSt} {nm : ByteArray} (ho : st.off = false) (hn : ¬ okName nm) :
    Fun Try.prog w0 32 [.pointer (some ⟨r, 0, none⟩), .string nm, .slice bb k bc] (cel r (rcells base n c st) 45 :: A) (Ret w0 (fun _ : Unit => True) (fun _ => .int .i64 51) (fun _ => cel r (rcells base n c st) 45 :: A)) := by
  obtain ⟨files, off, fuse, keep0, deeds⟩ := st
  obtain rfl : off = false := ho
  have hd : decide (okName nm) = false := by simpa using hn
  refine Fun.enter Try.func32 rfl Try.ntmps32 rfl ?_
  refine WC.seq <| WC.region <| sv (vaI rfl) <| WL.nil <| WX.thenN <| WC.seq <| WC.seq <| WC.region <| sv (vmP rfl) <| sv (vnil rfl) <| sv (vfld fl45f1 rfl) <| sv (vldc pl4 rfl) <| WL.nil <| WX.thenN <| ?_
  refine WC.ff rfl ?_
  refine WC.skip <| WX.thenN <| WC.seq <| WC.seq <| WC.region <| sv (vmT rfl) <| cl (hd ▸ ref_name) ct16 rfl fun _ _ => sv (vnot rfl) <| WL.nil <| WX.thenN <| ?_
  refine WC.tt rfl ?_
  exact WC.seq <| WC.region <| sv (vaI rfl) <| WL.nil <| WX.thenN <| WC.ret <| WX.thenR <| WX.ret1 rfl (()) (trivial) rfl (fun _ h => h)
end Go.Proofs.Ytijbgeboaakmmaa
