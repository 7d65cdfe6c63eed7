/-
  Layer 2's reference: Append, the walk.
-/
import Derived.Test.YtijbgeboaakmmaaRefDiskE
set_option linter.unusedVariables false
set_option linter.unusedSimpArgs false
set_option maxRecDepth 4000
namespace Go.Proofs.Ytijbgeboaakmmaa
open Go.Sl Go.RowKit

/-- where a name stands, or -1 -/
structure At (l : List RF) (nm : ByteArray) (v : Int) (x : RF) : Prop where
  ge : -1 ≤ v ∧ v < l.length
  at_ : 0 ≤ v → l[v.toNat]? = some x ∧ x.name = nm
  no : v < 0 → (∀ y ∈ l, y.name ≠ nm) ∧ x = ⟨nm, ⟨none, [], 0⟩, 0⟩
theorem RRep.where_ {l : List RF} {st : DSt} (h : RRep l st) (nm : ByteArray) : ∃ v x, At l nm v x ∧ (st.files nm).getD ([], 0) = (x.b.xs, x.safe) := by
  cases hf : st.files nm with
  | none => exact ⟨-1, ⟨nm, ⟨none, [], 0⟩, 0⟩, ⟨by omega, fun h => by omega, fun _ => ⟨h.no hf, rfl⟩⟩, rfl⟩
  | some v =>
    obtain ⟨j, x, hj, rfl, rfl⟩ := h.at hf
    have := (List.getElem?_eq_some_iff.1 hj).1
    exact ⟨j, x, ⟨by omega, fun _ => ⟨by simpa using hj, rfl⟩, fun h => by omega⟩, rfl⟩
theorem ref_find_at {w0 : World} {R : List HProp} {r c : Nat} {base : Option Addr} {st : DSt} {l : List RF} {nm : ByteArray} {x : RF} {v : Int} (hl : l.length ≤ 1099511627776) (hn : (l.map (·.name)).Nodup) (hv : At l nm v x) :
    Fun Try.prog w0 44 [.pointer (some ⟨r, 0, none⟩), .string nm] (cel r (rcells base l.length c st) 45 :: row base c 3 51 (fcells l) :: R)
      (Ret w0 (fun _ : Unit => True) (fun _ => .int .i64 v) (fun _ => cel r (rcells base l.length c st) 45 :: row base c 3 51 (fcells l) :: R)) :=
  ref_find hl (fun i y hi hy _ => by
    by_cases h0 : 0 ≤ v
    · have := same_name hn hi (hv.at_ h0).1 (hy.trans (hv.at_ h0).2.symm); omega
    · exact absurd hy ((hv.no (by omega)).1 y (List.mem_of_getElem? hi))) (fun h => by
    by_cases h0 : 0 ≤ v
    · exact absurd (hv.at_ h0).2 (h x (List.mem_of_getElem? (hv.at_ h0).1))
    · have := hv.ge; omega)
structure ApI where
  l : List RF
  base : Option Addr
  c : Nat
  j : Nat
  x : RF
structure ApR (nm : ByteArray) (st : DSt) (V : List UInt8 × Nat) (n : Nat) (i : ApI) : Prop where
  rep : RRep i.l { st with files := putV nm V st.files }
  cap : i.l.length ≤ i.c ∧ i.l.length ≤ n
  at_ : i.l[i.j]? = some i.x
  name : i.x.name = nm
  cur : (i.x.b.xs, i.x.safe) = V
theorem fv1 {l : List RF} {v : Int} {x : RF} (h0 : 0 ≤ v) (h : l[v.toNat]? = some x) : (fcells l)[v.toNat * 3 + 1]? = some (.slice x.b.base x.b.xs.length x.b.cap) := by rw [fcells_at h (by omega)]; rfl
theorem ref_append_long {w0 : World} {R : List HProp} {r c k bc : Nat} {base bb : Option Addr} {st : DSt} {nm : ByteArray} {l : List RF} {x : RF} {v : Int} (hl : l.length ≤ 1099511627776) (hr : RRep l st) (ho : st.off = false) (hn : okName nm) (hv : At l nm v x) (hk : 16777216 < x.b.xs.length + k) :
    Fun Try.prog w0 32 [.pointer (some ⟨r, 0, none⟩), .string nm, .slice bb k bc] (cel r (rcells base l.length c st) 45 :: row base c 3 51 (fcells l) :: R) (Ret w0 (fun _ : Unit => True) (fun _ => .int .i64 2) (fun _ => cel r (rcells base l.length c st) 45 :: row base c 3 51 (fcells l) :: R)) := by
  obtain ⟨files, off, fuse, keep0, deeds⟩ := st
  obtain rfl : off = false := ho
  have hd : decide (okName nm) = true := by simpa using hn
  have hge := hv.ge
  have hxl : 0 ≤ v → x.b.xs.length ≤ 16777216 := fun h => (hr.ok x (List.mem_of_getElem? (hv.at_ h).1)).2.1
  have hx0 : v < 0 → x.b.xs.length = 0 := fun h => by rw [(hv.no h).2]; rfl
  have hfl := fcells_length l
  have hpos : 0 ≤ v → 0 < (fcells l).length := fun h => by omega
  have hf1 : 0 ≤ v → (fcells l)[v.toNat * 3 + 1]? = some (.slice x.b.base x.b.xs.length x.b.cap) := fun h => fv1 h (hv.at_ h).1
  refine Fun.known (p := 0 ≤ v → base.isSome = true) (fun w h hv0 => row_some (hpos hv0) h.pk1) fun hb => ?_
  refine Fun.enter Try.func32 rfl Try.ntmps32 rfl ?_
  refine WC.seq <| WC.region <| sv (vaI rfl) <| WL.nil <| WX.thenN <| WC.seq <| WC.seq <| WC.region <| sv (vmP rfl) <| sv (vnil rfl) <| sv (vfld fl45f1 rfl) <| sv (vldc pl4 rfl) <| WL.nil <| WX.thenN <| ?_
  refine WC.ff rfl ?_
  refine WC.skip <| WX.thenN <| WC.seq <| WC.seq <| WC.region <| sv (vmT rfl) <| cl (hd ▸ ref_name) ct16 rfl fun _ _ => sv (vnot rfl) <| WL.nil <| WX.thenN <| ?_
  refine WC.ff rfl ?_
  refine WC.skip <| WX.thenN <| WC.seq <| WC.region <| sv (vmP rfl) <| sv (vmT rfl) <| cl (ref_find_at hl hr.nodup hv) ct44 rfl fun _ _ => sv (vaI rfl) <| WL.nil <| WX.thenN <| WC.seq <| ?_
  refine WC.cut0 [(42, .bool (decide ((0 ≤ v ∧ (16777216 : Int) - x.b.xs.length < k) ∨ (16777216 : Int) < k)))] [(0, .pointer _), (1, .string _), (2, .slice _ _ _), (7, .int _ _)] (cel r (rcells base l.length c ⟨files, false, fuse, keep0, deeds⟩) 45 :: row base c 3 51 (fcells l) :: R) ⟨rfl, rfl, rfl, rfl, trivial⟩ ?_ fun ρh => ?_
  · -- ref.go:67
    refine WC.region <| sv (vmI rfl) <| svs (vge rfl rfl) (fun q1 => ?_) (fun q1 => ?_)
    ·
      refine sv (vmB rfl) <| svg rfl (vmS rfl) <| svg rfl (vlen Try.underlying27 rfl) <| svg rfl (vmP rfl) <| svg rfl (vnil rfl) <| svg rfl (vfld fl45f0 rfl) <| svg rfl (vldc pl43 rfl) <| svg rfl (vmI rfl) <| svg rfl (vix Try.underlying43 sz51 rfl rfl (by omega) (by omega) reads (hpos q1)) <| svg rfl (vfldr (hb q1) fl51f1 rfl) <| svg rfl (vldo pl27 rfl reads (hf1 q1)) <| svg rfl (vlen Try.underlying27 rfl) <| svg rfl (vsub rfl rfl (by have := hxl q1; omega)) <| svsg rfl (vgt rfl rfl) (fun q2 => ?_) (fun q2 => ?_)
      ·
        exact sv (vpkt rfl) <| sv (vmB rfl) <| sng rfl <| sng rfl <| sng rfl <| sv (vpkt rfl) <| WL.nil <| WX.mid () trivial ⟨bT (by first | omega | simp_all | grind), trivial⟩ ⟨rfl, rfl, rfl, rfl, trivial⟩ (fun _ h => h)
      ·
        exact sv (vpkt rfl) <| sv (vmB rfl) <| svg rfl (vmS rfl) <| svg rfl (vlen Try.underlying27 rfl) <| svg rfl (vgt rfl rfl) <| sv (vpkf rfl) <| WL.nil <| WX.mid () trivial ⟨bI (by first | omega | simp_all | grind), trivial⟩ ⟨rfl, rfl, rfl, rfl, trivial⟩ (fun _ h => h)
    ·
      exact sv (vmB rfl) <| sng rfl <| sng rfl <| sng rfl <| sng rfl <| sng rfl <| sng rfl <| sng rfl <| sng rfl <| sng rfl <| sng rfl <| sng rfl <| sng rfl <| sng rfl <| sv (vpkf rfl) <| sv (vmB rfl) <| svg rfl (vmS rfl) <| svg rfl (vlen Try.underlying27 rfl) <| svg rfl (vgt rfl rfl) <| sv (vpkf rfl) <| WL.nil <| WX.mid () trivial ⟨bI (by first | omega | simp_all | grind), trivial⟩ ⟨rfl, rfl, rfl, rfl, trivial⟩ (fun _ h => h)
  refine WC.ite rfl (fun h3 => ?_) (fun h3 => ?_)
  · -- then
    exact WC.seq <| WC.region <| sv (vaI rfl) <| WL.nil <| WX.thenN <| WC.ret <| WX.thenR <| WX.ret1 rfl (()) (trivial) rfl (fun _ h => h)
  · -- else
    exact absurd (by by_cases h0 : 0 ≤ v; exact .inl ⟨h0, by omega⟩; exact .inr (by have := hx0 (by omega); omega)) h3
theorem one3 {a b c : Value} (h1 : a.oneCell' = true) (h2 : b.oneCell' = true) (h3 : c.oneCell' = true) : ∀ v ∈ [a, b, c], v.oneCell' = true := by
  intro v hv
  simp only [List.mem_cons, List.not_mem_nil, or_false] at hv
  rcases hv with h | h | h <;> rw [h] <;> assumption
theorem rd_fdrop {w0 : World} {A : List HProp} {base : Option Addr} {l : List RF} {p c : Nat} (h : RdC w0 A base (fcells l)) (hp : p ≤ l.length) (hc : l.length ≤ c) : RdC w0 A (slB base p c 3) (fcells (l.drop p)) := by
  have := h.slice p c 3 ((l.length - p) * 3) (fun h => by have : l.length - p = 0 := by omega
                                                          rw [this, Nat.zero_mul])
  rwa [fcells_drop hp, List.take_of_length_le (by rw [fcells_length, List.length_drop]; exact Nat.le_refl _)] at this
theorem ap_len {w0 w : World} {A : List HProp} {r n n' c : Nat} {base : Option Addr} {st : DSt} (h : n = n') (H : Own w0 (cel r (rcells base n c st) 45 :: A) w) : Own w0 (cel r (rcells base n' c st) 45 :: A) w := h ▸ H
theorem RRep.file {l : List RF} {st : DSt} {j : Nat} {x : RF} {nm : ByteArray} (h : RRep l st) (hj : l[j]? = some x) (hn : x.name = nm) : st.files nm = some (x.b.xs, x.safe) := by
  cases hf : st.files nm with
  | none => exact absurd hn (h.no hf x (List.mem_of_getElem? hj))
  | some v =>
    obtain ⟨i, y, hi, hy, rfl⟩ := h.at hf
    have := same_name h.nodup hi hj (hy.trans hn.symm)
    subst this
    rw [hi] at hj; cases hj; rfl
theorem ap_close {w0 w : World} {A : List HProp} {r N c1 j c2 n2 : Nat} {base1 base2 : Option Addr} {st1 st' : DSt} {l1 : List RF} {x1 : RF} {all : List UInt8} (g1 : RRep l1 st1) (g2 : l1.length ≤ c1 ∧ l1.length ≤ N) (g3 : l1[j]? = some x1) (hn : n2 = all.length) (hc2 : n2 ≤ c2) (hl : x1.b.xs.length ≤ all.length ∧ all.length ≤ 16777216) (hf : st'.files = putV x1.name (all, x1.safe) st1.files) (hu : 0 ≤ st'.fuse ∧ st'.fuse ≤ 9223372036854775807)
    (h : Own w0 (row base1 c1 3 51 ((fcells l1).set (((j : Int)).toNat * 3 + 1) (.slice base2 n2 c2)) :: row base2 c2 1 5 (u8s all) :: cel r (rcells base1 l1.length c1 st') 45 :: rows 5 (l1.map (·.b)) :: A) w) : Own w0 (rdisk r N st' :: A) w := by
  have hok := g1.ok x1 (List.mem_of_getElem? g3)
  have hjl := (List.getElem?_eq_some_iff.1 g3).1
  subst hn
  have e := fcells_b ⟨base2, all, c2⟩ g3
  dsimp only at e
  rw [Int.toNat_natCast, ← e] at h
  have h1 := rows_put (i := j) (y := ⟨base2, all, c2⟩) (by simpa using hjl) (h.ix [1, 3, 0, 2])
  refine rdisk_mk (l := l1.set j ⟨x1.name, ⟨base2, all, c2⟩, x1.safe⟩) (base := base1) (c := c1) (g1.put g3 rfl ⟨by dsimp only; omega, hl.2, hc2⟩ hf hu) (by rw [List.length_set]; exact g2) ?_
  rw [List.length_set, List.map_set]
  exact h1.ix [2, 1, 0]
theorem ref_append_ok {w0 : World} {A : List HProp} {r c k bc N : Nat} {base bb : Option Addr} {st : DSt} {nm : ByteArray} {l : List RF} {x : RF} {v : Int} {b : List UInt8} (hN : N + 1 ≤ 1099511627776) (hr : RRep l st) (hc : l.length ≤ c ∧ l.length ≤ N) (ho : st.off = false) (hn : okName nm) (hv : At l nm v x) (hR : RdC w0 A bb (u8s b)) (hkb : k = b.length) (hk : x.b.xs.length + k ≤ 16777216) (hd : 0 ≤ st.deeds ∧ st.deeds + 1 ≤ 9223372036854775807) :
    Fun Try.prog w0 32 [.pointer (some ⟨r, 0, none⟩), .string nm, .slice bb k bc] (cel r (rcells base l.length c st) 45 :: row base c 3 51 (fcells l) :: rows 5 (l.map (·.b)) :: A)
      (Ret w0 (fun _ : Unit => True) (fun _ => .int .i64 (if st.fuse - 1 = 0 then 20 else 0)) (fun _ => if st.fuse - 1 = 0 then rdisk r (N + 1) (offS st.keep { st with deeds := st.deeds + 1, fuse := 0, files := putV nm (x.b.xs ++ b, x.safe) st.files }) :: A
        else rdisk r (N + 1) { st with deeds := st.deeds + 1, fuse := max (st.fuse - 1) 0, files := putV nm (x.b.xs ++ b, x.safe) st.files } :: A)) := by
  obtain ⟨files, off, fuse, keep0, deeds⟩ := st
  obtain rfl : off = false := ho
  have hdn : decide (okName nm) = true := by simpa using hn
  have hu := hr.fuse
  dsimp only at hu hd
  have hge := hv.ge
  have hxl : 0 ≤ v → x.b.xs.length ≤ 16777216 := fun h => (hr.ok x (List.mem_of_getElem? (hv.at_ h).1)).2.1
  have hfl := fcells_length l
  have hpos : 0 ≤ v → 0 < (fcells l).length := fun h => by omega
  have hf1 : 0 ≤ v → (fcells l)[v.toNat * 3 + 1]? = some (.slice x.b.base x.b.xs.length x.b.cap) := fun h => fv1 h (hv.at_ h).1
  refine Fun.known (p := 0 ≤ v → base.isSome = true) (fun w h hv0 => row_some (hpos hv0) h.pk1) fun hb => ?_
  refine Fun.enter Try.func32 rfl Try.ntmps32 rfl ?_
  refine WC.seq <| WC.region <| sv (vaI rfl) <| WL.nil <| WX.thenN <| WC.seq <| WC.seq <| WC.region <| sv (vmP rfl) <| sv (vnil rfl) <| sv (vfld fl45f1 rfl) <| sv (vldc pl4 rfl) <| WL.nil <| WX.thenN <| ?_
  refine WC.ff rfl ?_
  refine WC.skip <| WX.thenN <| WC.seq <| WC.seq <| WC.region <| sv (vmT rfl) <| cl (hdn ▸ ref_name) ct16 rfl fun _ _ => sv (vnot rfl) <| WL.nil <| WX.thenN <| ?_
  refine WC.ff rfl ?_
  refine WC.skip <| WX.thenN <| WC.seq <| WC.region <| sv (vmP rfl) <| sv (vmT rfl) <| cl (ref_find_at (by omega) hr.nodup hv) ct44 rfl fun _ _ => sv (vaI rfl) <| WL.nil <| WX.thenN <| WC.seq <| ?_
  refine WC.cut0 [(42, .bool (decide ((0 ≤ v ∧ (16777216 : Int) - x.b.xs.length < k) ∨ (16777216 : Int) < k)))] [(0, .pointer _), (1, .string _), (2, .slice _ _ _), (7, .int _ _)] (cel r (rcells base l.length c ⟨files, false, fuse, keep0, deeds⟩) 45 :: row base c 3 51 (fcells l) :: rows 5 (l.map (·.b)) :: A) ⟨rfl, rfl, rfl, rfl, trivial⟩ ?_ fun ρh => ?_
  · -- ref.go:67
    refine WC.region <| sv (vmI rfl) <| svs (vge rfl rfl) (fun q1 => ?_) (fun q1 => ?_)
    ·
      refine sv (vmB rfl) <| svg rfl (vmS rfl) <| svg rfl (vlen Try.underlying27 rfl) <| svg rfl (vmP rfl) <| svg rfl (vnil rfl) <| svg rfl (vfld fl45f0 rfl) <| svg rfl (vldc pl43 rfl) <| svg rfl (vmI rfl) <| svg rfl (vix Try.underlying43 sz51 rfl rfl (by omega) (by omega) reads (hpos q1)) <| svg rfl (vfldr (hb q1) fl51f1 rfl) <| svg rfl (vldo pl27 rfl reads (hf1 q1)) <| svg rfl (vlen Try.underlying27 rfl) <| svg rfl (vsub rfl rfl (by have := hxl q1; omega)) <| svsg rfl (vgt rfl rfl) (fun q2 => ?_) (fun q2 => ?_)
      ·
        exact sv (vpkt rfl) <| sv (vmB rfl) <| sng rfl <| sng rfl <| sng rfl <| sv (vpkt rfl) <| WL.nil <| WX.mid () trivial ⟨bT (by first | omega | simp_all | grind), trivial⟩ ⟨rfl, rfl, rfl, rfl, trivial⟩ (fun _ h => h)
      ·
        exact sv (vpkt rfl) <| sv (vmB rfl) <| svg rfl (vmS rfl) <| svg rfl (vlen Try.underlying27 rfl) <| svg rfl (vgt rfl rfl) <| sv (vpkf rfl) <| WL.nil <| WX.mid () trivial ⟨bI (by first | omega | simp_all | grind), trivial⟩ ⟨rfl, rfl, rfl, rfl, trivial⟩ (fun _ h => h)
    ·
      exact sv (vmB rfl) <| sng rfl <| sng rfl <| sng rfl <| sng rfl <| sng rfl <| sng rfl <| sng rfl <| sng rfl <| sng rfl <| sng rfl <| sng rfl <| sng rfl <| sng rfl <| sv (vpkf rfl) <| sv (vmB rfl) <| svg rfl (vmS rfl) <| svg rfl (vlen Try.underlying27 rfl) <| svg rfl (vgt rfl rfl) <| sv (vpkf rfl) <| WL.nil <| WX.mid () trivial ⟨bI (by first | omega | simp_all | grind), trivial⟩ ⟨rfl, rfl, rfl, rfl, trivial⟩ (fun _ h => h)
  refine WC.ite rfl (fun h3 => ?_) (fun h3 => ?_)
  · -- then
    exact absurd h3 (by omega)
  · -- else
    refine WC.skip <| WX.thenN <| ?_
    refine WC.cutv (ι := ApI) (fun i => [(7, .int .i64 i.j)]) [(0, .pointer _), (2, .slice _ _ _)] (fun i => cel r (rcells i.base i.l.length i.c ⟨files, false, fuse, keep0, deeds⟩) 45 :: row i.base i.c 3 51 (fcells i.l) :: rows 5 (i.l.map (·.b)) :: A) (fun i => ApR nm ⟨files, false, fuse, keep0, deeds⟩ (x.b.xs, x.safe) (N + 1) i) ⟨rfl, rfl, trivial⟩ ?_ ?_
    · -- up to the join
      refine WC.seq <| WC.region <| sv (vmI rfl) <| sv (vlt rfl rfl) <| WL.nil <| WX.thenN <| ?_
      refine WC.ite rfl (fun h4 => ?_) (fun h4 => ?_)
      · -- then
        obtain ⟨hno, hxe⟩ := hv.no h4
        subst hxe
        refine WC.seq <| WC.region <| sv (vaI rfl) <| WL.nil <| WX.thenN <| WC.seq <| WC.block <| ?_
        refine WC.loop (ι := Nat) (fun i => [(7, .int .i64 i)]) [(0, .pointer _), (1, .string _), (2, .slice _ _ _)] (fun i => cel r (rcells base l.length c ⟨files, false, fuse, keep0, deeds⟩) 45 :: row base c 3 51 (fcells l) :: rows 5 (l.map (·.b)) :: A) (fun i => i ≤ l.length ∧ ∀ (k : Nat) (y : RF), k < i → l[k]? = some y → nless y.name nm) (fun i => l.length - i) (0) (⟨by omega, fun k y h => by omega⟩) ⟨rfl, trivial⟩ ⟨rfl, rfl, rfl, trivial⟩ (fun _ h => h) ?_
        intro p ⟨hp, hlt⟩ ρh
        have hpos2 : (p : Int) < l.length → 0 < (fcells l).length := fun h => by omega
        have hf02 : (p : Int) < l.length → (fcells l)[((p : Int)).toNat * 3 + 0]? = some (.string ((l.map (·.name)).getD p ByteArray.empty)) := fun h => by
          have hx : l[p]? = some l[p] := List.getElem?_eq_getElem (by omega)
          rw [fc0 hx, List.getD_eq_getElem?_getD, List.getElem?_map, hx]; rfl
        refine WC.known (p := (p : Int) < l.length → base.isSome = true) (fun w h h0 => row_some (hpos2 h0) h.pk1) fun hb2 => ?_
        refine WC.seq <| ?_
        refine WC.cut0 [(63, .bool (decide (p < l.length ∧ nless ((l.map (·.name)).getD p ByteArray.empty) nm)))] [(0, .pointer _), (1, .string _), (2, .slice _ _ _), (7, .int _ _)] (cel r (rcells base l.length c ⟨files, false, fuse, keep0, deeds⟩) 45 :: row base c 3 51 (fcells l) :: rows 5 (l.map (·.b)) :: A) ⟨rfl, rfl, rfl, rfl, trivial⟩ ?_ fun ρh => ?_
        · -- ref.go:72
          refine WC.region <| sv (vmI rfl) <| sv (vmP rfl) <| sv (vnil rfl) <| sv (vfld fl45f0 rfl) <| sv (vldc pl43 rfl) <| sv (vlen Try.underlying43 rfl) <| svs (vlt rfl rfl) (fun q3 => ?_) (fun q3 => ?_)
          ·
            exact sv (vmB rfl) <| svg rfl (vmP rfl) <| svg rfl (vnil rfl) <| svg rfl (vfld fl45f0 rfl) <| svg rfl (vldc pl43 rfl) <| svg rfl (vmI rfl) <| svg rfl (vix Try.underlying43 sz51 rfl rfl (by omega) (by omega) reads (hpos2 q3)) <| svg rfl (vfldr (hb2 q3) fl51f0 rfl) <| svg rfl (vldo pl9 rfl reads (hf02 q3)) <| svg rfl (vmT rfl) <| svg rfl (vlts rfl rfl) <| sv (vpkt rfl) <| WL.nil <| WX.mid () trivial ⟨bB ⟨fun h => ⟨by omega, h⟩, fun h => h.2⟩, trivial⟩ ⟨rfl, rfl, rfl, rfl, trivial⟩ (fun _ h => h)
          ·
            exact sv (vmB rfl) <| sng rfl <| sng rfl <| sng rfl <| sng rfl <| sng rfl <| sng rfl <| sng rfl <| sng rfl <| sng rfl <| sng rfl <| sv (vpkf rfl) <| WL.nil <| WX.mid () trivial ⟨bF (fun h => q3 (by omega)), trivial⟩ ⟨rfl, rfl, rfl, rfl, trivial⟩ (fun _ h => h)
        refine WC.ite rfl (fun h5 => ?_) (fun h5 => ?_)
        · -- then
          refine WC.skip <| WX.thenN <| WC.block <| WC.region <| sv (vmI rfl) <| sv (vadd rfl rfl (by omega)) <| sv (vaI rfl) <| WL.nil <| WX.blockN <| WX.again (p + 1) (⟨by omega, fun k y hk hy => by rcases Nat.lt_succ_iff_lt_or_eq.1 hk with h | rfl; exact hlt k y h hy; have := h5.2; rwa [List.getD_eq_getElem?_getD, List.getElem?_map, hy] at this⟩) (by have := h5.1; omega) ⟨rfl, trivial⟩ ⟨rfl, rfl, rfl, trivial⟩ (fun _ h => h)
        · -- else
          refine WC.exit <| WX.thenE <| WX.thenE <| WX.blockH <| WX.thenN <| WC.seq <| WC.region <| sv (vaS rfl) <| WL.nil <| WX.thenN <| WC.seq <| WC.region <| sv (vmS rfl) <| sv (vmP rfl) <| sv (vnil rfl) <| sv (vfld fl45f0 rfl) <| sv (vldc pl43 rfl) <| sv (vmI rfl) <| sv (vslH Try.underlying43 sz51 rfl rfl (by omega) (by omega)) <| pm (fun _ h => h.intro_row_nil) <| ap (vs := fcells []) (news := fcells (l.take p)) rfl Try.underlying43 zt51 rfl rfl rfl rfl (by rw [fcells_length, List.length_take]; omega) (fcells_one _) (by rw [← fcells_take hp]; exact reads.take _) (by simp only [maxLen]; omega) (by omega) fun base15 c15 hc15 =>sv (vaS rfl) <| WL.nil <| WX.thenN <| WC.seq <| WC.region <| sv (vmS rfl) <| sv (vmT rfl) <| sv (vbd (ps := [(0, .string _)]) (cs := [_, _, _]) bt51 zt51 rfl (by rfl)) <| apA (v := .agg _) (cs := [.string _, .slice _ _ _, .int _ _]) Try.underlying43 zt51 rfl (fun _ => rfl) (fun _ => rfl) rfl rfl rfl (by decide) (by decide) (one3 rfl rfl rfl) (by rw [List.length_append, fcells_length, fcells_length, List.length_take]; simp; omega) (by simp only [maxLen]; omega) (by omega) fun _ base17 c17 hc17 =>sv (vaS rfl) <| WL.nil <| WX.thenN <| WC.seq <| WC.region <| sv (vmS rfl) <| sv (vmP rfl) <| sv (vnil rfl) <| sv (vfld fl45f0 rfl) <| sv (vldc pl43 rfl) <| sv (vmI rfl) <| sv (vslL Try.underlying43 sz51 rfl rfl (by omega) (by omega)) <| ap (news := fcells (l.drop p)) rfl Try.underlying43 zt51 rfl rfl rfl (by rw [List.length_append, List.length_append, fcells_length, fcells_length, List.length_take]; simp; omega) (by rw [fcells_length, List.length_drop]; omega) (fcells_one _) (rd_fdrop reads hp hc.1) (by simp only [maxLen]; omega) (by omega) fun base21 c21 hc21 =>sv (vaS rfl) <| WL.nil <| WX.thenN <| WC.region <| sv (vmP rfl) <| sv (vmS rfl) <| sv (vnil rfl) <| sv (vfld fl45f0 rfl) <| pm (fun _ h => h.pk1) <| stc (v := .slice _ _ _) pl43 sz43 rfl rfl rfl <| WL.nil <| WX.mid (⟨insR p ⟨nm, ⟨none, [], 0⟩, 0⟩ l, base21, c21, p, ⟨nm, ⟨none, [], 0⟩, 0⟩⟩) (?_) ⟨rfl, trivial⟩ ⟨rfl, rfl, trivial⟩ (fun w h => ?_)
          · refine ⟨⟨insR_sorted hp hr.sorted hlt (fun z hz hn => h5 ⟨(List.getElem?_eq_some_iff.1 hz).1, by rw [List.getD_eq_getElem?_getD, List.getElem?_map, hz]; exact hn⟩) hno, fun k => ?_, fun z hz => ?_, hu⟩, ⟨by dsimp only; rw [insR_length]; omega, by dsimp only; rw [insR_length]; omega⟩, insR_at hp, rfl, rfl⟩
            · rw [lookR_ins hno, hr.look]; rfl
            · rcases List.mem_append.1 hz with hz | hz
              · exact hr.ok z (List.mem_of_mem_take hz)
              · rcases List.mem_cons.1 hz with rfl | hz
                · simp
                · exact hr.ok z (List.mem_of_mem_drop hz)
          · have e1 : fcells (insR p ⟨nm, ⟨none, [], 0⟩, 0⟩ l) = fcells [] ++ fcells (l.take p) ++ [.string nm, .slice none 0 0, .int .i64 0] ++ fcells (l.drop p) := by unfold insR; rw [fcells_append]; simp [fcells]
            have e3 : (insR p ⟨nm, ⟨none, [], 0⟩, 0⟩ l).map (·.b) = (l.map (·.b)).take p ++ ⟨none, [], 0⟩ :: (l.map (·.b)).drop p := by simp [insR, List.map_take, List.map_drop]
            have h2 := h.pk2.tail
            have h3 := rows_ins (p := p) (y := ⟨none, [], 0⟩) (h2.pk2.intro_row_nil)
            dsimp only
            rw [e1, e3]
            refine ap_len ?_ h3.pk2.pk2
            rw [insR_length]; omega
      · -- else
        exact WC.skip <| WX.mid (⟨l, base, c, v.toNat, x⟩) (⟨hr.same (putV_same (hr.file (hv.at_ (by omega)).1 (hv.at_ (by omega)).2)) hu, ⟨hc.1, by dsimp only; omega⟩, (hv.at_ (by omega)).1, (hv.at_ (by omega)).2, rfl⟩) ⟨iv (by dsimp only; omega), trivial⟩ ⟨rfl, rfl, trivial⟩ (fun _ h => h)
    · -- behind the join
      rintro ⟨l1, base1, c1, j, x1⟩ ⟨g1, g2, g3, g4, g5⟩ ρh
      dsimp only at g1 g2 g3 g4 g5 ⊢
      have gx : x1.b.xs = x.b.xs := congrArg Prod.fst g5
      have gs : x1.safe = x.safe := congrArg Prod.snd g5
      have gxl := congrArg List.length gx
      have hjl := (List.getElem?_eq_some_iff.1 g3).1
      have hfl1 := fcells_length l1
      have hposJ : 0 < (fcells l1).length := by omega
      have hf1J := fc1 g3
      have hstJ : ((j : Int)).toNat * 3 + 1 < (fcells l1).length := by omega
      have hxm : x1.b ∈ l1.map (·.b) := List.mem_map.2 ⟨x1, List.mem_of_getElem? g3, rfl⟩
      refine WC.known (fun w h => row_some hposJ h.pk1) fun hbJ => ?_
      refine WC.seq <| WC.region <| sv (vmP rfl) <| cl (ref_deed hu hd) ct45 rfl fun _ _ => sv (vaB rfl) <| WL.nil <| WX.thenN <| WC.seq <| WC.region <| sv (vaS rfl) <| WL.nil <| WX.thenN <| WC.seq <| WC.region <| sv (vmS rfl) <| sv (vmP rfl) <| sv (vnil rfl) <| sv (vfld fl45f0 rfl) <| sv (vldc pl43 rfl) <| sv (vmI rfl) <| sv (vix Try.underlying43 sz51 rfl rfl (by omega) (by omega) reads (hposJ)) <| sv (vfldr (hbJ) fl51f1 rfl) <| sv (vldo pl27 rfl reads (hf1J)) <| pm (fun _ h => h.nil_u8) <| apb Try.underlying27 zt5 rfl rfl (by simp) rfl (RdC.of_rows (e := 5) (l := l1.map (·.b)) (by simp) hxm) (by omega) fun base27 c27 hc27 =>sv (vaS rfl) <| WL.nil <| WX.thenN <| WC.seq <| WC.region <| sv (vmS rfl) <| sv (vmS rfl) <| apb Try.underlying27 zt5 rfl rfl (by simp) hkb hR.cons.cons.cons.cons (by omega) fun base28 c28 hc28 =>sv (vaS rfl) <| WL.nil <| WX.thenN <| WC.seq <| WC.region <| sv (vmP rfl) <| sv (vnil rfl) <| sv (vfld fl45f0 rfl) <| sv (vldc pl43 rfl) <| sv (vmI rfl) <| sv (vmS rfl) <| sv (vix Try.underlying43 sz51 rfl rfl (by omega) (by omega) reads (hposJ)) <| sv (vfldr (hbJ) fl51f1 rfl) <| pm (fun _ h => h.pk2) <| str (v := .slice _ _ _) pl27 sz27 rfl rfl rfl (hstJ) <| WL.nil <| WX.thenN <| WC.seq <| WC.seq <| WC.region <| sv (vmB rfl) <| WL.nil <| WX.thenN <| ?_
      refine WC.ite rfl (fun h6 => ?_) (fun h6 => ?_)
      · -- then
        simp only [if_pos h6]
        dsimp only at h6
        refine WC.seq <| WC.region <| sv (vmP rfl) <| sv (vmP rfl) <| sv (vnil rfl) <| sv (vfld fl45f3 rfl) <| sv (vldc pl3 rfl) <| pm (fun _ h => ap_close (st' := ⟨putV nm (x.b.xs ++ b, x.safe) files, false, max (fuse - 1) 0, keep0, deeds + 1⟩) g1 g2 g3 (by simp; omega) hc28 (by simp; omega) (by dsimp only; rw [g4, putV_put, gx, gs]; rfl) (by dsimp only; omega) h) <| cl (ref_off) ct37 rfl fun _ _ => WL.nil <| WX.thenN <| WC.seq <| WC.region <| sv (vaI rfl) <| WL.nil <| WX.thenN <| WC.ret <| WX.thenR <| WX.ret1 rfl (()) (trivial) rfl (fun w h => ?_)
        have e : max (fuse - 1) 0 = 0 := by omega
        rw [e] at h; exact h
      · -- else
        simp only [if_neg h6]
        exact WC.skip <| WX.thenN <| WC.seq <| WC.region <| sv (vaI rfl) <| WL.nil <| WX.thenN <| WC.ret <| WX.ret1 rfl (()) (trivial) rfl (fun w h => ap_close (st' := ⟨putV nm (x.b.xs ++ b, x.safe) files, false, max (fuse - 1) 0, keep0, deeds + 1⟩) g1 g2 g3 (by simp; omega) hc28 (by simp; omega) (by dsimp only; rw [g4, putV_put, gx, gs]; rfl) (by dsimp only; omega) h)
theorem ref_append {w0 : World} {A : List HProp} {r k bc N : Nat} {bb : Option Addr} {st : DSt} {nm : ByteArray} {b : List UInt8} (hN : N + 1 ≤ 1099511627776) (hR : RdC w0 A bb (u8s b)) (hkb : k = b.length) (hd : 0 ≤ st.deeds ∧ st.deeds + 1 ≤ 9223372036854775807) :
    Fun Try.prog w0 32 [.pointer (some ⟨r, 0, none⟩), .string nm, .slice bb k bc] (rdisk r N st :: A) (Ret w0 (fun _ : Unit => True) (fun _ => .int .i64 (appendS nm b st).2) (fun _ => rdisk r (N + 1) (appendS nm b st).1 :: A)) := by
  refine Fun.ex (fun w h => rdisk_open h) ?_
  rintro ⟨base, c, l⟩ ⟨hr, hc⟩
  dsimp only at hr hc ⊢
  have hc' : l.length ≤ c ∧ l.length ≤ N + 1 := ⟨hc.1, by omega⟩
  cases ho : st.off with
  | true =>
    have hk : appendS nm b st = (st, 20) := by unfold appendS; rw [if_pos ho]
    rw [hk]
    exact (ref_append_off ho).mono fun e w ⟨i, hi, he, hO⟩ => ⟨i, hi, he, rdisk_mk hr hc' hO⟩
  | false =>
    have hno : ¬ st.off = true := by rw [ho]; decide
    by_cases hnm : okName nm
    · obtain ⟨v, x, hv, hV⟩ := hr.where_ nm
      have hk := appendS_eq (b := b) ho hnm (V := (x.b.xs ++ b, x.safe)) (n := x.b.xs.length + k) (by unfold appendV; rw [hV]) (by simp [hkb])
      rw [hk]
      by_cases hlt : x.b.xs.length + k ≤ 16777216
      · simp only [if_pos hlt]
        refine (ref_append_ok hN hr hc ho hnm hv hR hkb hlt hd).mono fun e w ⟨i, hi, he, hO⟩ => ⟨i, hi, ?_, ?_⟩
        · rw [he]; split <;> rfl
        · dsimp only at hO; split <;> simp_all only [if_true, if_false, not_true, not_false_eq_true]
      · simp only [if_neg hlt]
        exact (ref_append_long (by omega) hr ho hnm hv (by omega)).mono fun e w ⟨i, hi, he, hO⟩ => ⟨i, hi, he, rdisk_mk hr hc' hO⟩
    · have hk : appendS nm b st = (st, 51) := by unfold appendS; rw [if_neg hno, if_pos hnm]
      rw [hk]
      exact (ref_append_name ho hnm).mono fun e w ⟨i, hi, he, hO⟩ => ⟨i, hi, he, rdisk_mk hr hc' hO⟩
end Go.Proofs.Ytijbgeboaakmmaa
