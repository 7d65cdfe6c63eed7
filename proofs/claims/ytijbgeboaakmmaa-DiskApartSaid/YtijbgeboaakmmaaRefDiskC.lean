/-
  Layer 2's reference: names, Sync, Cut, Read.
-/
import Derived.Test.YtijbgeboaakmmaaRefDiskB
set_option linter.unusedVariables false
set_option linter.unusedSimpArgs false
set_option maxRecDepth 4000
namespace Go.Proofs.Ytijbgeboaakmmaa
open Go.Sl Go.RowKit

theorem strB_at {s : ByteArray} {i : Nat} (h : i < s.size) : s[((i : Int)).toNat]? = some (s.data.toList.getD i 0) := by
  have e : ((i : Int)).toNat = i := by omega
  have h2 : i < s.data.toList.length := by simpa using h
  rw [e, List.getD_eq_getElem?_getD, List.getElem?_eq_getElem h2, getElem?_pos s i h]
  rfl
theorem okNameB_at {s : ByteArray} (h : okName s) {i : Nat} (hi : i < s.size) : okByte (s.data.toList.getD i 0) := by
  have h2 : i < s.data.toList.length := by simpa using hi
  rw [List.getD_eq_getElem?_getD, List.getElem?_eq_getElem h2]
  exact h.1 _ (List.getElem_mem h2)
theorem okNameB_of {s : ByteArray} (h0 : s.size ≠ 0) (h16 : s.size ≤ 16) (h : ∀ j, j < s.size → okByte (s.data.toList.getD j 0)) : okName s := by
  refine ⟨fun c hc => ?_, h0, h16⟩
  obtain ⟨j, hj⟩ := List.mem_iff_getElem?.1 hc
  obtain ⟨hl, rfl⟩ := List.getElem?_eq_some_iff.1 hj
  have := h j (by simpa using hl)
  rwa [List.getD_eq_getElem?_getD, List.getElem?_eq_getElem hl] at this
theorem ref_name {w0 : World} {A : List HProp} {s : ByteArray} : Fun Try.prog w0 16 [.string s] A (Ret w0 (fun _ : Unit => True) (fun _ => .bool (decide (okName s))) (fun _ => A)) := by
  refine Fun.enter Try.func16 rfl Try.ntmps16 rfl ?_
  refine WC.seq <| WC.region <| sv (vaB rfl) <| WL.nil <| WX.thenN <| WC.seq <| ?_
  refine WC.cut0 [(12, .bool (decide (¬ (s.size ≠ 0 ∧ s.size ≤ 16))))] [(0, .string _)] (A) ⟨rfl, trivial⟩ ?_ fun ρh => ?_
  · -- ref.go:11
    refine WC.region <| sv (vmT rfl) <| sv (vlens Try.underlying9 rfl) <| svs (vlt rfl rfl) (fun q1 => ?_) (fun q1 => ?_)
    ·
      exact sv (vmB rfl) <| sng rfl <| sng rfl <| sng rfl <| sv (vpkt rfl) <| WL.nil <| WX.mid () trivial ⟨bT (by omega), trivial⟩ ⟨rfl, trivial⟩ (fun _ h => h)
    ·
      exact sv (vmB rfl) <| svg rfl (vmT rfl) <| svg rfl (vlens Try.underlying9 rfl) <| svg rfl (vgt rfl rfl) <| sv (vpkf rfl) <| WL.nil <| WX.mid () trivial ⟨bI (by omega), trivial⟩ ⟨rfl, trivial⟩ (fun _ h => h)
  refine WC.ite rfl (fun h1 => ?_) (fun h1 => ?_)
  · -- then
    exact WC.seq <| WC.region <| sv (vaB rfl) <| WL.nil <| WX.thenN <| WC.ret <| WX.thenR <| WX.ret1 rfl (()) (trivial) (bF (fun h => h1 h.2)) (fun _ h => h)
  · -- else
    refine WC.skip <| WX.thenN <| WC.seq <| WC.seq <| WC.region <| sv (vaI rfl) <| WL.nil <| WX.thenN <| WC.block <| ?_
    refine WC.loop (ι := Nat) (fun i => [(3, .int .i64 i)]) [(0, .string _)] (fun i => A) (fun i => i ≤ s.size ∧ ∀ j, j < i → okByte (s.data.toList.getD j 0)) (fun i => s.size - i) (0) (⟨Nat.zero_le _, fun j h => by omega⟩) ⟨rfl, trivial⟩ ⟨rfl, trivial⟩ (fun _ h => h) ?_
    intro i hi ρh
    refine WC.seq <| WC.seq <| WC.region <| sv (vmI rfl) <| sv (vmT rfl) <| sv (vlens Try.underlying9 rfl) <| sv (vlt rfl rfl) <| WL.nil <| WX.thenN <| ?_
    refine WC.ite rfl (fun h2 => ?_) (fun h2 => ?_)
    · -- then
      obtain ⟨c, hc⟩ : ∃ c, c = s.data.toList.getD i 0 := ⟨_, rfl⟩
      have hat := strB_at (s := s) (i := i) (by omega)
      rw [← hc] at hat
      refine WC.skip <| WX.thenN <| WC.seq <| WC.block <| WC.seq <| WC.region <| sv (vmT rfl) <| sv (vmI rfl) <| sv (vixs Try.underlying9 rfl rfl (by omega) hat) <| sv (vaI rfl) <| WL.nil <| WX.thenN <| ?_
      refine WC.cut0 [(43, .bool (decide (¬ okByte c)))] [(0, .string _), (3, .int _ _)] (A) ⟨rfl, rfl, trivial⟩ ?_ fun ρh => ?_
      · -- ref.go:16
        refine WC.region <| sv (vmI rfl) <| svs (vlt rfl rfl) (fun q2 => ?_) (fun q2 => ?_)
        ·
          refine sv (vmB rfl) <| sng rfl <| sng rfl <| sv (vpkt rfl) <| sv (vmB rfl) <| svg rfl (vmI rfl) <| svsg rfl (vlt rfl rfl) (fun q3 => ?_) (fun q3 => ?_)
          ·
            refine svg rfl (vmB rfl) <| sng rfl <| sng rfl <| svg rfl (vpkt rfl) <| sv (vpkt rfl) <| sv (vmB rfl) <| svg rfl (vmI rfl) <| svsg rfl (vne rfl rfl) (fun q4 => ?_) (fun q4 => ?_)
            ·
              exact sv (vpkt rfl) <| sv (vmB rfl) <| svg rfl (vmI rfl) <| svg rfl (vne rfl rfl) <| sv (vpkt rfl) <| WL.nil <| WX.mid () trivial ⟨bI (by unfold okByte; omega), trivial⟩ ⟨rfl, rfl, trivial⟩ (fun _ h => h)
            ·
              exact sv (vpkt rfl) <| sv (vmB rfl) <| sng rfl <| sng rfl <| sv (vpkf rfl) <| WL.nil <| WX.mid () trivial ⟨bF (by unfold okByte; omega), trivial⟩ ⟨rfl, rfl, trivial⟩ (fun _ h => h)
          ·
            refine svg rfl (vmB rfl) <| svg rfl (vmI rfl) <| svsg rfl (vgt rfl rfl) (fun q5 => ?_) (fun q5 => ?_)
            ·
              refine svg rfl (vpkf rfl) <| sv (vpkt rfl) <| sv (vmB rfl) <| svg rfl (vmI rfl) <| svsg rfl (vne rfl rfl) (fun q6 => ?_) (fun q6 => ?_)
              ·
                exact sv (vpkt rfl) <| sv (vmB rfl) <| svg rfl (vmI rfl) <| svg rfl (vne rfl rfl) <| sv (vpkt rfl) <| WL.nil <| WX.mid () trivial ⟨bI (by unfold okByte; omega), trivial⟩ ⟨rfl, rfl, trivial⟩ (fun _ h => h)
              ·
                exact sv (vpkt rfl) <| sv (vmB rfl) <| sng rfl <| sng rfl <| sv (vpkf rfl) <| WL.nil <| WX.mid () trivial ⟨bF (by unfold okByte; omega), trivial⟩ ⟨rfl, rfl, trivial⟩ (fun _ h => h)
            ·
              exact svg rfl (vpkf rfl) <| sv (vpkt rfl) <| sv (vmB rfl) <| sng rfl <| sng rfl <| sv (vpkf rfl) <| sv (vmB rfl) <| sng rfl <| sng rfl <| sv (vpkf rfl) <| WL.nil <| WX.mid () trivial ⟨bF (by unfold okByte; omega), trivial⟩ ⟨rfl, rfl, trivial⟩ (fun _ h => h)
        ·
          refine sv (vmB rfl) <| svg rfl (vmI rfl) <| svsg rfl (vgt rfl rfl) (fun q7 => ?_) (fun q7 => ?_)
          ·
            refine sv (vpkf rfl) <| sv (vmB rfl) <| svg rfl (vmI rfl) <| svsg rfl (vlt rfl rfl) (fun q8 => ?_) (fun q8 => ?_)
            ·
              refine svg rfl (vmB rfl) <| sng rfl <| sng rfl <| svg rfl (vpkt rfl) <| sv (vpkt rfl) <| sv (vmB rfl) <| svg rfl (vmI rfl) <| svsg rfl (vne rfl rfl) (fun q9 => ?_) (fun q9 => ?_)
              ·
                exact sv (vpkt rfl) <| sv (vmB rfl) <| svg rfl (vmI rfl) <| svg rfl (vne rfl rfl) <| sv (vpkt rfl) <| WL.nil <| WX.mid () trivial ⟨bI (by unfold okByte; omega), trivial⟩ ⟨rfl, rfl, trivial⟩ (fun _ h => h)
              ·
                exact sv (vpkt rfl) <| sv (vmB rfl) <| sng rfl <| sng rfl <| sv (vpkf rfl) <| WL.nil <| WX.mid () trivial ⟨bF (by unfold okByte; omega), trivial⟩ ⟨rfl, rfl, trivial⟩ (fun _ h => h)
            ·
              refine svg rfl (vmB rfl) <| svg rfl (vmI rfl) <| svsg rfl (vgt rfl rfl) (fun q10 => ?_) (fun q10 => ?_)
              ·
                refine svg rfl (vpkf rfl) <| sv (vpkt rfl) <| sv (vmB rfl) <| svg rfl (vmI rfl) <| svsg rfl (vne rfl rfl) (fun q11 => ?_) (fun q11 => ?_)
                ·
                  exact sv (vpkt rfl) <| sv (vmB rfl) <| svg rfl (vmI rfl) <| svg rfl (vne rfl rfl) <| sv (vpkt rfl) <| WL.nil <| WX.mid () trivial ⟨bI (by unfold okByte; omega), trivial⟩ ⟨rfl, rfl, trivial⟩ (fun _ h => h)
                ·
                  exact sv (vpkt rfl) <| sv (vmB rfl) <| sng rfl <| sng rfl <| sv (vpkf rfl) <| WL.nil <| WX.mid () trivial ⟨bF (by unfold okByte; omega), trivial⟩ ⟨rfl, rfl, trivial⟩ (fun _ h => h)
              ·
                exact svg rfl (vpkf rfl) <| sv (vpkt rfl) <| sv (vmB rfl) <| sng rfl <| sng rfl <| sv (vpkf rfl) <| sv (vmB rfl) <| sng rfl <| sng rfl <| sv (vpkf rfl) <| WL.nil <| WX.mid () trivial ⟨bF (by unfold okByte; omega), trivial⟩ ⟨rfl, rfl, trivial⟩ (fun _ h => h)
          ·
            exact sv (vpkf rfl) <| sv (vmB rfl) <| sng rfl <| sng rfl <| sng rfl <| sng rfl <| sng rfl <| sng rfl <| sv (vpkf rfl) <| sv (vmB rfl) <| sng rfl <| sng rfl <| sv (vpkf rfl) <| sv (vmB rfl) <| sng rfl <| sng rfl <| sv (vpkf rfl) <| WL.nil <| WX.mid () trivial ⟨bF (by unfold okByte; omega), trivial⟩ ⟨rfl, rfl, trivial⟩ (fun _ h => h)
      refine WC.ite rfl (fun h3 => ?_) (fun h3 => ?_)
      · -- then
        exact WC.seq <| WC.region <| sv (vaB rfl) <| WL.nil <| WX.thenN <| WC.ret <| WX.blockR <| WX.thenR <| WX.thenR <| WX.blockR <| WX.thenR <| WX.ret1 rfl (()) (trivial) (bF (fun h => h3 (by rw [hc]; exact okNameB_at h (by omega)))) (fun _ h => h)
      · -- else
        exact WC.skip <| WX.blockN <| WX.thenN <| WC.region <| sv (vmI rfl) <| sv (vadd rfl rfl (by omega)) <| sv (vaI rfl) <| WL.nil <| WX.again (i + 1) (⟨by omega, fun j hj => by rcases Nat.lt_succ_iff_lt_or_eq.1 hj with h | rfl; exact hi.2 j h; rw [← hc]; exact Decidable.not_not.1 h3⟩) (by omega) ⟨rfl, trivial⟩ ⟨rfl, trivial⟩ (fun _ h => h)
    · -- else
      exact WC.exit <| WX.thenE <| WX.thenE <| WX.blockH <| WX.thenN <| WC.seq <| WC.region <| sv (vaB rfl) <| WL.nil <| WX.thenN <| WC.ret <| WX.ret1 rfl (()) (trivial) (bT (okNameB_of (by omega) (by omega) (fun j hj => hi.2 j (by omega)))) (fun _ h => h)
theorem ref_off {w0 : World} {A : List HProp} {r N : Nat} {st : DSt} {keep : Int} :
    Fun Try.prog w0 37 [.pointer (some ⟨r, 0, none⟩), .int .i64 keep] (rdisk r N st :: A) (Ret w0 (fun _ : Unit => True) (fun _ => .tuple #[]) (fun _ => rdisk r N (offS keep st) :: A)) := by
  cases ho : st.off with
  | true =>
    have he : offS keep st = st := by unfold offS; rw [if_pos ho]
    rw [he]; exact ref_off_off ho
  | false => exact ref_off_on ho
theorem same_name {l : List RF} {i j : Nat} {x y : RF} (hn : (l.map (·.name)).Nodup) (hi : l[i]? = some x) (hj : l[j]? = some y) (h : x.name = y.name) : i = j := by
  have g1 : (l.map (·.name))[i]? = some x.name := by simp [hi]
  have g2 : (l.map (·.name))[j]? = some x.name := by simp [hj, h]
  exact (List.getElem?_inj (by simpa using (List.getElem?_eq_some_iff.1 hi).1) hn).1 (g1.trans g2.symm)
section
variable {w0 : World} {R A : List HProp} {r c j : Nat} {base : Option Addr} {st : DSt} {l : List RF} {nm : ByteArray} {x : RF}
theorem ref_find_j (hl : l.length ≤ 1099511627776) (hn : (l.map (·.name)).Nodup) (hj : l[j]? = some x) :
    Fun Try.prog w0 44 [.pointer (some ⟨r, 0, none⟩), .string x.name] (cel r (rcells base l.length c st) 45 :: row base c 3 51 (fcells l) :: R)
      (Ret w0 (fun _ : Unit => True) (fun _ => .int .i64 j) (fun _ => cel r (rcells base l.length c st) 45 :: row base c 3 51 (fcells l) :: R)) :=
  ref_find hl (fun i y hi hy _ => by rw [same_name hn hi hj hy]) (fun h => absurd rfl (h x (List.mem_of_getElem? hj)))
theorem ref_find_no (hl : l.length ≤ 1099511627776) (hno : ∀ x ∈ l, x.name ≠ nm) :
    Fun Try.prog w0 44 [.pointer (some ⟨r, 0, none⟩), .string nm] (cel r (rcells base l.length c st) 45 :: row base c 3 51 (fcells l) :: R)
      (Ret w0 (fun _ : Unit => True) (fun _ => .int .i64 (-1)) (fun _ => cel r (rcells base l.length c st) 45 :: row base c 3 51 (fcells l) :: R)) :=
  ref_find hl (fun i y hi hy _ => absurd hy (hno y (List.mem_of_getElem? hi))) (fun _ => rfl)
end
theorem lookR_at {l : List RF} {k : ByteArray} {v : List UInt8 × Nat} (h : lookR l k = some v) : ∃ (j : Nat) (x : RF), l[j]? = some x ∧ x.name = k ∧ (x.b.xs, x.safe) = v := by
  induction l with
  | nil => cases h
  | cons y l ih =>
    unfold lookR at h
    split at h
    · exact ⟨0, y, rfl, by assumption, Option.some.inj h⟩
    · obtain ⟨j, x, h1, h2⟩ := ih h
      exact ⟨j + 1, x, by simpa using h1, h2⟩
theorem lookR_no {l : List RF} {k : ByteArray} (h : lookR l k = none) : ∀ x ∈ l, x.name ≠ k := by
  induction l with
  | nil => intro x hx; cases hx
  | cons y l ih =>
    unfold lookR at h
    split at h
    · cases h
    · intro x hx
      rcases List.mem_cons.1 hx with rfl | hx
      · assumption
      · exact ih h x hx
theorem RRep.at {l : List RF} {st : DSt} {k : ByteArray} {v : List UInt8 × Nat} (h : RRep l st) (hk : st.files k = some v) : ∃ (j : Nat) (x : RF), l[j]? = some x ∧ x.name = k ∧ (x.b.xs, x.safe) = v := lookR_at ((h.look k).trans hk)
theorem RRep.no {l : List RF} {st : DSt} {k : ByteArray} (h : RRep l st) (hk : st.files k = none) : ∀ x ∈ l, x.name ≠ k := lookR_no ((h.look k).trans hk)
theorem lookR_set {y x : RF} (hy : y.name = x.name) {k : ByteArray} : ∀ {l : List RF} {j : Nat}, (l.map (·.name)).Nodup → l[j]? = some x → lookR (l.set j y) k = if k = x.name then some (y.b.xs, y.safe) else lookR l k
  | [], _, _, h => by simp at h
  | z :: l, 0, hn, h => by
    simp at h; subst h
    simp only [List.set_cons_zero, lookR, hy]
    by_cases hk : z.name = k
    · simp [hk]
    · rw [if_neg hk, if_neg (Ne.symm hk), if_neg hk]
  | z :: l, j + 1, hn, h => by
    simp only [List.map_cons, List.nodup_cons] at hn
    have h' : l[j]? = some x := by simpa using h
    have hx : x ∈ l := List.mem_of_getElem? h'
    simp only [List.set_cons_succ, lookR]
    rw [lookR_set hy hn.2 h']
    by_cases hk : z.name = k
    · have : k ≠ x.name := fun he => hn.1 (List.mem_map.2 ⟨x, hx, by rw [← he, hk]⟩)
      rw [if_pos hk, if_neg this, if_pos hk]
    · rw [if_neg hk, if_neg hk]
theorem map_set_name {l : List RF} {j : Nat} {x y : RF} (h : l[j]? = some x) (hy : y.name = x.name) : (l.set j y).map (·.name) = l.map (·.name) := by
  rw [List.map_set]
  apply List.ext_getElem?
  intro i
  rw [List.getElem?_set]
  by_cases hi : j = i
  · subst hi
    have h1 := (List.getElem?_eq_some_iff.1 h).1
    have hx : l[j] = x := (List.getElem?_eq_some_iff.1 h).2
    simp [h1, hy, hx]
  · simp [hi]
theorem RRep.put {l : List RF} {st st' : DSt} {j : Nat} {x y : RF} (h : RRep l st) (hj : l[j]? = some x) (hy : y.name = x.name) (hok : y.safe ≤ y.b.xs.length ∧ y.b.xs.length ≤ 16777216 ∧ y.b.xs.length ≤ y.b.cap) (hf : st'.files = putV x.name (y.b.xs, y.safe) st.files) (hu : 0 ≤ st'.fuse ∧ st'.fuse ≤ 9223372036854775807) :
    RRep (l.set j y) st' := by
  refine ⟨by rw [map_set_name hj hy]; exact h.sorted, fun k => ?_, fun z hz => ?_, hu⟩
  · rw [lookR_set hy h.nodup hj, hf, h.look]; rfl
  · rcases List.mem_or_eq_of_mem_set hz with hz | rfl
    · exact h.ok z hz
    · exact hok
theorem map_set_b {l : List RF} {j : Nat} {x : RF} {s : Nat} (h : l[j]? = some x) : (l.set j ⟨x.name, x.b, s⟩).map (·.b) = l.map (·.b) := by
  rw [List.map_set]
  exact set_same (by rw [List.getElem?_map, h]; rfl)
theorem setv_same {α : Type} {l : List α} {j : Nat} {v : α} (h : l[j]? = some v) : l.set j v = l := set_same h
theorem fcells_safe {l : List RF} {i : Nat} {x : RF} (s : Nat) (h : l[i]? = some x) : fcells (l.set i ⟨x.name, x.b, s⟩) = (fcells l).set (i * 3 + 2) (.int .i64 s) := by
  rw [fcells_set (y := ⟨x.name, x.b, s⟩) h rfl]
  dsimp only
  rw [set_same (fcells_at h (k := 1) (by omega))]
theorem ref_sync_off {w0 : World} {A : List HProp} {r n c : Nat} {base : Option Addr} {st : DSt} {nm : ByteArray} (ho : st.off = true) :
    Fun Try.prog w0 33 [.pointer (some ⟨r, 0, none⟩), .string nm] (cel r (rcells base n c st) 45 :: A) (Ret w0 (fun _ : Unit => True) (fun _ => .int .i64 20) (fun _ => cel r (rcells base n c st) 45 :: A)) := by
  obtain ⟨files, off, fuse, keep0, deeds⟩ := st
  obtain rfl : off = true := ho
  refine Fun.enter Try.func33 rfl Try.ntmps33 rfl ?_
  refine WC.seq <| WC.region <| sv (vaI rfl) <| WL.nil <| WX.thenN <| WC.seq <| WC.seq <| WC.region <| sv (vmP rfl) <| sv (vnil rfl) <| sv (vfld fl45f1 rfl) <| sv (vldc pl4 rfl) <| WL.nil <| WX.thenN <| ?_
  refine WC.tt rfl ?_
  exact WC.seq <| WC.region <| sv (vaI rfl) <| WL.nil <| WX.thenN <| WC.ret <| WX.thenR <| WX.ret1 rfl (()) (trivial) rfl (fun _ h => h)
theorem ref_sync_no {w0 : World} {R : List HProp} {r c : Nat} {base : Option Addr} {st : DSt} {nm : ByteArray} {l : List RF} (hl : l.length ≤ 1099511627776) (ho : st.off = false) (hno : ∀ x ∈ l, x.name ≠ nm) :
    Fun Try.prog w0 33 [.pointer (some ⟨r, 0, none⟩), .string nm] (cel r (rcells base l.length c st) 45 :: row base c 3 51 (fcells l) :: R) (Ret w0 (fun _ : Unit => True) (fun _ => .int .i64 21) (fun _ => cel r (rcells base l.length c st) 45 :: row base c 3 51 (fcells l) :: R)) := by
  obtain ⟨files, off, fuse, keep0, deeds⟩ := st
  obtain rfl : off = false := ho
  refine Fun.enter Try.func33 rfl Try.ntmps33 rfl ?_
  refine WC.seq <| WC.region <| sv (vaI rfl) <| WL.nil <| WX.thenN <| WC.seq <| WC.seq <| WC.region <| sv (vmP rfl) <| sv (vnil rfl) <| sv (vfld fl45f1 rfl) <| sv (vldc pl4 rfl) <| WL.nil <| WX.thenN <| ?_
  refine WC.ff rfl ?_
  refine WC.skip <| WX.thenN <| WC.seq <| WC.region <| sv (vmP rfl) <| sv (vmT rfl) <| cl (ref_find_no hl hno) ct44 rfl fun _ _ => sv (vaI rfl) <| WL.nil <| WX.thenN <| WC.seq <| WC.seq <| WC.region <| sv (vmI rfl) <| sv (vlt rfl rfl) <| WL.nil <| WX.thenN <| ?_
  refine WC.ite rfl (fun h2 => ?_) (fun h2 => ?_)
  · -- then
    exact WC.seq <| WC.region <| sv (vaI rfl) <| WL.nil <| WX.thenN <| WC.ret <| WX.thenR <| WX.ret1 rfl (()) (trivial) rfl (fun _ h => h)
  · -- else
    exact absurd (by decide) h2
theorem ref_sync_ok {w0 : World} {A : List HProp} {r c j N : Nat} {base : Option Addr} {st : DSt} {l : List RF} {x : RF} (hN : N ≤ 1099511627776) (hr : RRep l st) (hc : l.length ≤ c ∧ l.length ≤ N) (ho : st.off = false) (hj : l[j]? = some x) (hd : 0 ≤ st.deeds ∧ st.deeds + 1 ≤ 9223372036854775807) :
    Fun Try.prog w0 33 [.pointer (some ⟨r, 0, none⟩), .string x.name] (cel r (rcells base l.length c st) 45 :: row base c 3 51 (fcells l) :: rows 5 (l.map (·.b)) :: A)
      (Ret w0 (fun _ : Unit => True) (fun _ => .int .i64 (if st.fuse - 1 = 0 then 20 else 0)) (fun _ => if st.fuse - 1 = 0 then rdisk r N (offS st.keep { st with deeds := st.deeds + 1, fuse := 0 }) :: A
        else rdisk r N { st with deeds := st.deeds + 1, fuse := max (st.fuse - 1) 0, files := putV x.name (x.b.xs, x.b.xs.length) st.files } :: A)) := by
  obtain ⟨files, off, fuse, keep0, deeds⟩ := st
  obtain rfl : off = false := ho
  have hu := hr.fuse
  dsimp only at hu hd
  have hjl := (List.getElem?_eq_some_iff.1 hj).1
  have hfl := fcells_length l
  have hpos : 0 < (fcells l).length := by omega
  have hf1 := fc1 hj
  have hst : ((j : Int)).toNat * 3 + 2 < (fcells l).length := by omega
  have hok := hr.ok x (List.mem_of_getElem? hj)
  refine Fun.known (fun w h => row_some hpos h.pk1) fun hb => ?_
  refine Fun.enter Try.func33 rfl Try.ntmps33 rfl ?_
  refine WC.seq <| WC.region <| sv (vaI rfl) <| WL.nil <| WX.thenN <| WC.seq <| WC.seq <| WC.region <| sv (vmP rfl) <| sv (vnil rfl) <| sv (vfld fl45f1 rfl) <| sv (vldc pl4 rfl) <| WL.nil <| WX.thenN <| ?_
  refine WC.ff rfl ?_
  refine WC.skip <| WX.thenN <| WC.seq <| WC.region <| sv (vmP rfl) <| sv (vmT rfl) <| cl (ref_find_j (by omega) hr.nodup hj) ct44 rfl fun _ _ => sv (vaI rfl) <| WL.nil <| WX.thenN <| WC.seq <| WC.seq <| WC.region <| sv (vmI rfl) <| sv (vlt rfl rfl) <| WL.nil <| WX.thenN <| ?_
  refine WC.ite rfl (fun h2 => ?_) (fun h2 => ?_)
  · -- then
    omega
  · -- else
    refine WC.skip <| WX.thenN <| WC.seq <| WC.seq <| WC.region <| sv (vmP rfl) <| cl (ref_deed hu hd) ct45 rfl fun _ _ => WL.nil <| WX.thenN <| ?_
    refine WC.ite rfl (fun h3 => ?_) (fun h3 => ?_)
    · -- then
      simp only [if_pos h3]
      dsimp only at h3
      refine WC.seq <| WC.region <| sv (vmP rfl) <| sv (vmP rfl) <| sv (vnil rfl) <| sv (vfld fl45f3 rfl) <| sv (vldc pl3 rfl) <| pm (fun _ h => rdisk_mk (st := ⟨files, false, max (fuse - 1) 0, keep0, deeds + 1⟩) (hr.same rfl (by dsimp only; omega)) hc h) <| cl (ref_off) ct37 rfl fun _ _ => WL.nil <| WX.thenN <| WC.seq <| WC.region <| sv (vaI rfl) <| WL.nil <| WX.thenN <| WC.ret <| WX.thenR <| WX.ret1 rfl (()) (trivial) rfl (fun w h => ?_)
      have e : max (fuse - 1) 0 = 0 := by omega
      rw [e] at h; exact h
    · -- else
      simp only [if_neg h3]
      refine WC.skip <| WX.thenN <| WC.seq <| WC.plan (.bar [0, 1, 2, 3, 4, 5, 6, 7, 8, 9, 10, 11, 12, 13, 14, 15] 16 (.done [])) rfl (by kernel_rfl) <| WPl.bar (trivial) <| dv (fun g => (vmP rfl)) <| dv (fun g => (vnil rfl)) <| dv (fun g => (vfld fl45f0 rfl)) <| dv (fun g => (vldc pl43 rfl)) <| dv (fun g => (vmI rfl)) <| dv (fun g => (vmP rfl)) <| dv (fun g => (vnil rfl)) <| dv (fun g => (vfld fl45f0 rfl)) <| dv (fun g => (vldc pl43 rfl)) <| dv (fun g => (vmI rfl)) <| dv (fun g => (vix Try.underlying43 sz51 rfl rfl (by omega) (by omega) reads (hpos))) <| dv (fun g => (vfldr (hb) fl51f1 rfl)) <| dv (fun g => (vldo pl27 rfl reads (hf1))) <| dv (fun g => (vlen Try.underlying27 rfl)) <| dv (fun g => (vix Try.underlying43 sz51 rfl rfl (by omega) (by omega) reads (hpos))) <| dv (fun g => (vfldr (hb) fl51f2 rfl)) <| WD.eff rfl <| pm (fun _ h => h.pk1) <| str (v := .int _ _) pl3 sz3 rfl rfl rfl (hst) <| WL.nil <| WX.brT <| WPl.fin (trivial) <| WD.nil <| WX.thenN <| WC.seq <| WC.region <| sv (vaI rfl) <| WL.nil <| WX.thenN <| WC.ret <| WX.ret1 rfl (()) (trivial) rfl (fun w h => ?_)
      have e := fcells_safe x.b.xs.length hj
      rw [Int.toNat_natCast, ← e] at h
      have h1 := h.pk1
      refine rdisk_mk (l := l.set j ⟨x.name, x.b, x.b.xs.length⟩) (base := base) (c := c) (hr.put hj rfl ⟨Nat.le_refl _, hok.2.1, hok.2.2⟩ rfl (by dsimp only; omega)) (by rw [List.length_set]; exact hc) ?_
      rw [List.length_set, map_set_b hj]
      exact h1
theorem ref_sync {w0 : World} {A : List HProp} {r N : Nat} {st : DSt} {nm : ByteArray} (hd : 0 ≤ st.deeds ∧ st.deeds + 1 ≤ 9223372036854775807) (hN : N ≤ 1099511627776) :
    Fun Try.prog w0 33 [.pointer (some ⟨r, 0, none⟩), .string nm] (rdisk r N st :: A) (Ret w0 (fun _ : Unit => True) (fun _ => .int .i64 (syncS nm st).2) (fun _ => rdisk r N (syncS nm st).1 :: A)) := by
  refine Fun.ex (fun w h => rdisk_open h) ?_
  rintro ⟨base, c, l⟩ ⟨hr, hc⟩
  dsimp only at hr hc ⊢
  by_cases hne : findE nm st = 0
  · obtain ⟨ho, v, hf⟩ := findE_ok hne
    obtain ⟨j, x, hj, rfl, rfl⟩ := hr.at hf
    have hk : syncS x.name st = deedS (putV x.name (x.b.xs, x.b.xs.length)) id st := by unfold syncS; rw [if_neg (by rw [ho]; decide), hf]
    refine (ref_sync_ok hN hr hc ho hj hd).mono fun e w ⟨i, hi, he, hO⟩ => ⟨i, hi, ?_, ?_⟩
    · rw [he, hk]; unfold deedS; split <;> rfl
    · rw [hk]; unfold deedS
      dsimp only at hO
      split at hO
      · rename_i h; rw [if_pos h]; exact hO
      · rename_i h; rw [if_neg h]; exact hO
  · rw [(readS_bad hne).2.1]
    unfold findE at hne ⊢
    cases ho : st.off with
    | true =>
      simp only [if_true]
      exact (ref_sync_off ho).mono fun e w ⟨i, hi, he, hO⟩ => ⟨i, hi, he, rdisk_mk hr hc hO⟩
    | false =>
      cases hf : st.files nm with
      | some v => simp [ho, hf] at hne
      | none =>
        simp only [Bool.false_eq_true, if_false, Option.isSome_none]
        exact (ref_sync_no (by omega) ho (hr.no hf)).mono fun e w ⟨i, hi, he, hO⟩ => ⟨i, hi, he, rdisk_mk hr hc hO⟩
theorem ref_read_off {w0 : World} {A : List HProp} {r n c : Nat} {base : Option Addr} {st : DSt} {nm : ByteArray} (ho : st.off = true) :
    Fun Try.prog w0 35 [.pointer (some ⟨r, 0, none⟩), .string nm] (cel r (rcells base n c st) 45 :: A) (Ret w0 (fun _ : Unit => True) (fun _ => .tuple #[.slice none 0 0, .int .i64 20]) (fun _ => cel r (rcells base n c st) 45 :: A)) := by
  obtain ⟨files, off, fuse, keep0, deeds⟩ := st
  obtain rfl : off = true := ho
  refine Fun.enter Try.func35 rfl Try.ntmps35 rfl ?_
  refine WC.seq <| WC.region <| sv (vaS rfl) <| sv (vaI rfl) <| WL.nil <| WX.thenN <| WC.seq <| WC.seq <| WC.region <| sv (vmP rfl) <| sv (vnil rfl) <| sv (vfld fl45f1 rfl) <| sv (vldc pl4 rfl) <| WL.nil <| WX.thenN <| ?_
  refine WC.tt rfl ?_
  exact WC.seq <| WC.region <| sv (vaS rfl) <| sv (vaI rfl) <| WL.nil <| WX.thenN <| WC.ret <| WX.thenR <| WX.ret2 rfl (()) (trivial) rfl (fun _ h => h)
theorem ref_read_no {w0 : World} {R : List HProp} {r c : Nat} {base : Option Addr} {st : DSt} {nm : ByteArray} {l : List RF} (hl : l.length ≤ 1099511627776) (ho : st.off = false) (hno : ∀ x ∈ l, x.name ≠ nm) :
    Fun Try.prog w0 35 [.pointer (some ⟨r, 0, none⟩), .string nm] (cel r (rcells base l.length c st) 45 :: row base c 3 51 (fcells l) :: R) (Ret w0 (fun _ : Unit => True) (fun _ => .tuple #[.slice none 0 0, .int .i64 21]) (fun _ => cel r (rcells base l.length c st) 45 :: row base c 3 51 (fcells l) :: R)) := by
  obtain ⟨files, off, fuse, keep0, deeds⟩ := st
  obtain rfl : off = false := ho
  refine Fun.enter Try.func35 rfl Try.ntmps35 rfl ?_
  refine WC.seq <| WC.region <| sv (vaS rfl) <| sv (vaI rfl) <| WL.nil <| WX.thenN <| WC.seq <| WC.seq <| WC.region <| sv (vmP rfl) <| sv (vnil rfl) <| sv (vfld fl45f1 rfl) <| sv (vldc pl4 rfl) <| WL.nil <| WX.thenN <| ?_
  refine WC.ff rfl ?_
  refine WC.skip <| WX.thenN <| WC.seq <| WC.region <| sv (vmP rfl) <| sv (vmT rfl) <| cl (ref_find_no hl hno) ct44 rfl fun _ _ => sv (vaI rfl) <| WL.nil <| WX.thenN <| WC.seq <| WC.seq <| WC.region <| sv (vmI rfl) <| sv (vlt rfl rfl) <| WL.nil <| WX.thenN <| ?_
  refine WC.ite rfl (fun h2 => ?_) (fun h2 => ?_)
  · -- then
    exact WC.seq <| WC.region <| sv (vaS rfl) <| sv (vaI rfl) <| WL.nil <| WX.thenN <| WC.ret <| WX.thenR <| WX.ret2 rfl (()) (trivial) rfl (fun _ h => h)
  · -- else
    exact absurd (by decide) h2
theorem ref_read_ok {w0 : World} {R : List HProp} {r c j : Nat} {base : Option Addr} {st : DSt} {l : List RF} {x : RF} (hl : l.length ≤ 1099511627776) (hr : RRep l st) (ho : st.off = false) (hj : l[j]? = some x) :
    Fun Try.prog w0 35 [.pointer (some ⟨r, 0, none⟩), .string x.name] (cel r (rcells base l.length c st) 45 :: row base c 3 51 (fcells l) :: R)
      (Ret w0 (fun _ : Unit => True) (fun _ => .tuple #[.slice x.b.base x.b.xs.length x.b.cap, .int .i64 0]) (fun _ => cel r (rcells base l.length c st) 45 :: row base c 3 51 (fcells l) :: R)) := by
  obtain ⟨files, off, fuse, keep0, deeds⟩ := st
  obtain rfl : off = false := ho
  have hjl := (List.getElem?_eq_some_iff.1 hj).1
  have hfl := fcells_length l
  have hpos : 0 < (fcells l).length := by omega
  have hf1 := fc1 hj
  refine Fun.known (fun w h => row_some hpos h.pk1) fun hb => ?_
  refine Fun.enter Try.func35 rfl Try.ntmps35 rfl ?_
  refine WC.seq <| WC.region <| sv (vaS rfl) <| sv (vaI rfl) <| WL.nil <| WX.thenN <| WC.seq <| WC.seq <| WC.region <| sv (vmP rfl) <| sv (vnil rfl) <| sv (vfld fl45f1 rfl) <| sv (vldc pl4 rfl) <| WL.nil <| WX.thenN <| ?_
  refine WC.ff rfl ?_
  refine WC.skip <| WX.thenN <| WC.seq <| WC.region <| sv (vmP rfl) <| sv (vmT rfl) <| cl (ref_find_j (by omega) hr.nodup hj) ct44 rfl fun _ _ => sv (vaI rfl) <| WL.nil <| WX.thenN <| WC.seq <| WC.seq <| WC.region <| sv (vmI rfl) <| sv (vlt rfl rfl) <| WL.nil <| WX.thenN <| ?_
  refine WC.ite rfl (fun h2 => ?_) (fun h2 => ?_)
  · -- then
    omega
  · -- else
    exact WC.skip <| WX.thenN <| WC.seq <| WC.region <| sv (vmP rfl) <| sv (vnil rfl) <| sv (vfld fl45f0 rfl) <| sv (vldc pl43 rfl) <| sv (vmI rfl) <| sv (vix Try.underlying43 sz51 rfl rfl (by omega) (by omega) reads (hpos)) <| sv (vfldr (hb) fl51f1 rfl) <| sv (vldo pl27 rfl reads (hf1)) <| sv (vaS rfl) <| sv (vaI rfl) <| WL.nil <| WX.thenN <| WC.ret <| WX.ret2 rfl (()) (trivial) rfl (fun _ h => h)
end Go.Proofs.Ytijbgeboaakmmaa
