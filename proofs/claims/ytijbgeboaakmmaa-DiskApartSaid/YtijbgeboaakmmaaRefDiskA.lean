/-
  Layer 2's reference as a chunk of memory: files in the order of their names.
-/
import Derived.Test.YtijbgeboaakmmaaDiskLawA
import Derived.Test.YtijbgeboaakmmaaSlAgg
import Derived.Sort.Walk0
set_option linter.unusedVariables false
set_option linter.unusedSimpArgs false
set_option maxRecDepth 4000
namespace Go.Proofs.Ytijbgeboaakmmaa
open Go.Sl Go.RowKit

/-- a file of the reference's: name, bytes, how many are safe -/
structure RF where
  name : ByteArray
  b : Sla UInt8
  safe : Nat
def fcells (l : List RF) : List Value := l.flatMap fun x => [.string x.name, .slice x.b.base x.b.xs.length x.b.cap, .int .i64 x.safe]
def lookR : List RF → ByteArray → Option (List UInt8 × Nat)
  | [], _ => none
  | x :: l, k => if x.name = k then some (x.b.xs, x.safe) else lookR l k
def nless (a b : ByteArray) : Prop := Op.bytesLess a.toList b.toList = true
structure RRep (l : List RF) (st : DSt) : Prop where
  sorted : (l.map (·.name)).Pairwise nless
  look : ∀ k, lookR l k = st.files k
  ok : ∀ x ∈ l, x.safe ≤ x.b.xs.length ∧ x.b.xs.length ≤ 16777216 ∧ x.b.xs.length ≤ x.b.cap
  fuse : 0 ≤ st.fuse ∧ st.fuse ≤ 9223372036854775807
abbrev rcells (base : Option Addr) (n c : Nat) (st : DSt) : List Value := [.slice base n c, .bool st.off, .int .i64 st.fuse, .int .i64 st.keep, .int .i64 st.deeds]
def rdisk (r N : Nat) (st : DSt) : HProp := fun h => ∃ base c l, RRep l st ∧ (l.length ≤ c ∧ l.length ≤ N) ∧ star (cel r (rcells base l.length c st) 45) (star (row base c 3 51 (fcells l)) (rows 5 (l.map (·.b)))) h
theorem rdisk_open {w0 w : World} {r N : Nat} {st : DSt} {A : List HProp} (H : Own w0 (rdisk r N st :: A) w) :
    ∃ x : Option Addr × Nat × List RF, (RRep x.2.2 st ∧ (x.2.2.length ≤ x.2.1 ∧ x.2.2.length ≤ N)) ∧ Own w0 (cel r (rcells x.1 x.2.2.length x.2.1 st) 45 :: row x.1 x.2.1 3 51 (fcells x.2.2) :: rows 5 (x.2.2.map (·.b)) :: A) w := by
  obtain ⟨hb, h, ⟨h1, h2, ⟨base, c, l, hc, hl, a⟩, a2, dd, x⟩, hw⟩ := H
  have h3 : Own w0 (star (cel r (rcells base l.length c st) 45) (star (row base c 3 51 (fcells l)) (rows 5 (l.map (·.b)))) :: A) w := ⟨hb, h, ⟨h1, h2, a, a2, dd, x⟩, hw⟩
  exact ⟨(base, c, l), ⟨hc, hl⟩, h3.star.pk1.star.pk2⟩
theorem rdisk_mk {w0 w : World} {r c N : Nat} {base : Option Addr} {st : DSt} {l : List RF} {A : List HProp} (hl : RRep l st) (hc : l.length ≤ c ∧ l.length ≤ N) (H : Own w0 (cel r (rcells base l.length c st) 45 :: row base c 3 51 (fcells l) :: rows 5 (l.map (·.b)) :: A) w) :
    Own w0 (rdisk r N st :: A) w := H.pk2.pk2.intro_star.pk1.intro_star.head fun _ h => ⟨base, c, l, hl, hc, h⟩
theorem RRep.new : RRep [] newD := ⟨by simp, fun _ => rfl, by simp, by simp [newD]⟩
theorem RRep.same {l : List RF} {st st' : DSt} (h : RRep l st) (hf : st'.files = st.files) (hu : 0 ≤ st'.fuse ∧ st'.fuse ≤ 9223372036854775807) : RRep l st' := ⟨h.sorted, fun k => by rw [h.look, hf], h.ok, hu⟩
theorem nless_iff {a b : ByteArray} : nless a b ↔ a.toList < b.toList := by unfold nless; rw [bytesLess_eq]; simp
theorem nless_ne {a b : ByteArray} (h : nless a b) : a ≠ b := by
  rintro rfl
  rw [nless_iff] at h
  exact List.lt_irrefl _ h
theorem RRep.nodup {l : List RF} {st : DSt} (h : RRep l st) : (l.map (·.name)).Nodup := h.sorted.imp fun h => nless_ne h
theorem fcells_length (l : List RF) : (fcells l).length = l.length * 3 := by
  induction l with
  | nil => rfl
  | cons x l ih => have e : fcells (x :: l) = [.string x.name, .slice x.b.base x.b.xs.length x.b.cap, .int .i64 x.safe] ++ fcells l := rfl
                   rw [e, List.length_append, ih]; simp; omega
theorem fcells_at : ∀ {l : List RF} {i k : Nat} {x : RF}, l[i]? = some x → k < 3 → (fcells l)[i * 3 + k]? = [Value.string x.name, .slice x.b.base x.b.xs.length x.b.cap, .int .i64 x.safe][k]?
  | [], _, _, _, h, _ => by simp at h
  | y :: l, 0, k, x, h, hk => by
    simp at h; subst h
    have e : fcells (y :: l) = [.string y.name, .slice y.b.base y.b.xs.length y.b.cap, .int .i64 y.safe] ++ fcells l := rfl
    rw [e, Nat.zero_mul, Nat.zero_add, List.getElem?_append_left (by simpa using hk)]
  | y :: l, i + 1, k, x, h, hk => by
    have e : fcells (y :: l) = [.string y.name, .slice y.b.base y.b.xs.length y.b.cap, .int .i64 y.safe] ++ fcells l := rfl
    rw [e, List.getElem?_append_right (by simp; omega)]
    have e2 : (i + 1) * 3 + k - [Value.string y.name, .slice y.b.base y.b.xs.length y.b.cap, .int .i64 y.safe].length = i * 3 + k := by simp; omega
    rw [e2]
    exact fcells_at (by simpa using h) hk
theorem fc0 {l : List RF} {i : Nat} {x : RF} (h : l[i]? = some x) : (fcells l)[((i : Int)).toNat * 3 + 0]? = some (.string x.name) := by rw [Int.toNat_natCast, fcells_at h (by omega)]; rfl
theorem fc1 {l : List RF} {i : Nat} {x : RF} (h : l[i]? = some x) : (fcells l)[((i : Int)).toNat * 3 + 1]? = some (.slice x.b.base x.b.xs.length x.b.cap) := by rw [Int.toNat_natCast, fcells_at h (by omega)]; rfl
theorem fc2 {l : List RF} {i : Nat} {x : RF} (h : l[i]? = some x) : (fcells l)[((i : Int)).toNat * 3 + 2]? = some (.int .i64 x.safe) := by rw [Int.toNat_natCast, fcells_at h (by omega)]; rfl
theorem row_some {w0 w : World} {A : List HProp} {base : Option Addr} {c s : Nat} {e : TypeId} {vs : List Value} (hp : 0 < vs.length) (H : Own w0 (row base c s e vs :: A) w) : base.isSome = true := by
  rcases H.row with ⟨_, rfl, _⟩ | ⟨g, o, cur, rfl, _⟩
  · simp at hp
  · rfl
theorem ref_find {w0 : World} {R : List HProp} {r c : Nat} {base : Option Addr} {st : DSt} {l : List RF} {nm : ByteArray} {v : Int} (hl : l.length ≤ 1099511627776) (k1 : ∀ (i : Nat) (x : RF), l[i]? = some x → x.name = nm → (∀ (k : Nat) (y : RF), k < i → l[k]? = some y → y.name ≠ nm) → v = i) (k2 : (∀ x ∈ l, x.name ≠ nm) → v = -1) :
    Fun Try.prog w0 44 [.pointer (some ⟨r, 0, none⟩), .string nm] (cel r (rcells base l.length c st) 45 :: row base c 3 51 (fcells l) :: R)
      (Ret w0 (fun _ : Unit => True) (fun _ => .int .i64 v) (fun _ => cel r (rcells base l.length c st) 45 :: row base c 3 51 (fcells l) :: R)) := by
  refine Fun.enter Try.func44 rfl Try.ntmps44 rfl ?_
  refine WC.seq <| WC.region <| sv (vaI rfl) <| WL.nil <| WX.thenN <| WC.seq <| WC.seq <| WC.region <| sv (vaI rfl) <| WL.nil <| WX.thenN <| WC.block <| ?_
  refine WC.loop (ι := Nat) (fun i => [(5, .int .i64 i)]) [(0, .pointer _), (1, .string _)] (fun i => cel r (rcells base l.length c st) 45 :: row base c 3 51 (fcells l) :: R) (fun i => i ≤ l.length ∧ ∀ (k : Nat) (y : RF), k < i → l[k]? = some y → y.name ≠ nm) (fun i => l.length - i) (0) (⟨by omega, fun k y h => by omega⟩) ⟨rfl, trivial⟩ ⟨rfl, rfl, trivial⟩ (fun _ h => h) ?_
  intro i hi ρh
  refine WC.seq <| WC.seq <| WC.region <| sv (vmI rfl) <| sv (vmP rfl) <| sv (vnil rfl) <| sv (vfld fl45f0 rfl) <| sv (vldc pl43 rfl) <| sv (vlen Try.underlying43 rfl) <| sv (vlt rfl rfl) <| WL.nil <| WX.thenN <| ?_
  refine WC.ite rfl (fun h1 => ?_) (fun h1 => ?_)
  · -- then
    have hil : i < l.length := by omega
    obtain ⟨x, hx⟩ : ∃ x, l[i]? = some x := ⟨_, List.getElem?_eq_getElem hil⟩
    have hpos : 0 < (fcells l).length := by rw [fcells_length]; omega
    have hf0 := fc0 hx
    refine WC.known (fun w h => row_some hpos h.pk1) fun hb => ?_
    refine WC.skip <| WX.thenN <| WC.seq <| WC.block <| WC.seq <| WC.region <| sv (vmP rfl) <| sv (vnil rfl) <| sv (vfld fl45f0 rfl) <| sv (vldc pl43 rfl) <| sv (vmI rfl) <| sv (vix Try.underlying43 sz51 rfl rfl (by omega) (by omega) reads (hpos)) <| sv (vfldr (hb) fl51f0 rfl) <| sv (vldo pl9 rfl reads (hf0)) <| sv (vmT rfl) <| sv (veqs rfl rfl) <| WL.nil <| WX.thenN <| ?_
    refine WC.ite rfl (fun h2 => ?_) (fun h2 => ?_)
    · -- then
      exact WC.seq <| WC.region <| sv (vmI rfl) <| sv (vaI rfl) <| WL.nil <| WX.thenN <| WC.ret <| WX.blockR <| WX.thenR <| WX.thenR <| WX.blockR <| WX.thenR <| WX.ret1 rfl (()) (trivial) (iv (k1 i x hx h2 hi.2).symm) (fun _ h => h)
    · -- else
      exact WC.skip <| WX.blockN <| WX.thenN <| WC.region <| sv (vmI rfl) <| sv (vadd rfl rfl (by omega)) <| sv (vaI rfl) <| WL.nil <| WX.again (i + 1) (⟨by omega, fun k y hk hy => by rcases Nat.lt_succ_iff_lt_or_eq.1 hk with h | rfl; exact hi.2 k y h hy; rw [hx] at hy; cases hy; exact h2⟩) (by omega) ⟨rfl, trivial⟩ ⟨rfl, rfl, trivial⟩ (fun _ h => h)
  · -- else
    refine WC.exit <| WX.thenE <| WX.thenE <| WX.blockH <| WX.thenN <| WC.seq <| WC.region <| sv (vaI rfl) <| WL.nil <| WX.thenN <| WC.ret <| WX.ret1 rfl (()) (trivial) (iv (k2 (fun x hx => by obtain ⟨k, hk⟩ := List.mem_iff_getElem?.1 hx; exact hi.2 k x (by have := (List.getElem?_eq_some_iff.1 hk).1; omega) hk)).symm) (fun _ h => h)
end Go.Proofs.Ytijbgeboaakmmaa
