/-
  Layer 19: what a node sends when it ticks or is asked to write is in its log.
-/
import Derived.Test.YtekoilhjlofncaaRaftNetJ
set_option linter.unusedVariables false
set_option linter.unusedSimpArgs false
set_option maxRecDepth 4000
namespace Go.Proofs.Ytekoilhjlofncaa
open Go.Sl Go.RowKit Go.Raft

structure InL (log : List Cl) (m : Ml) : Prop where
  ge : 0 ≤ m.index
  le : m.index + (m.cells.length : Int) ≤ log.length
  prev : 0 < m.index → atT log m.index = m.prev
  cells : m.cells = (log.drop m.index.toNat).take m.cells.length
structure WrM (y : Rn) (m : Ml) : Prop where
  fr : m.fr = y.id
  term : m.term = y.term
  app : m.kind = 3 → InL y.log m
theorem feed_in {y : Rn} {k : Int} (h : 1 ≤ y.nx k ∧ y.nx k ≤ (y.log.length : Int) + 1) : WrM y (feedM y k) := by
  refine ⟨rfl, rfl, fun _ => ⟨?_, ?_, fun _ => rfl, ?_⟩⟩
  · show 0 ≤ y.nx k - 1; omega
  · show y.nx k - 1 + (((y.log.drop (y.nx k - 1).toNat).take 8).length : Int) ≤ _
    rw [List.length_take, List.length_drop]; omega
  · show (y.log.drop (y.nx k - 1).toNat).take 8 = (y.log.drop (y.nx k - 1).toNat).take ((y.log.drop (y.nx k - 1).toNat).take 8).length
    rw [List.length_take]
    rcases Nat.le_total 8 (y.log.drop (y.nx k - 1).toNat).length with h2 | h2
    · rw [Nat.min_eq_left h2]
    · rw [Nat.min_eq_right h2, List.take_of_length_le h2, List.take_of_length_le (Nat.le_refl _)]
theorem feeds_in {y : Rn} (h : ∀ k, 1 ≤ y.nx k ∧ y.nx k ≤ (y.log.length : Int) + 1) : ∀ m ∈ (feedAllS y).2, WrM (feedAllS y).1 m := by
  intro m hm
  obtain ⟨k, _, rfl⟩ := List.mem_map.1 hm
  exact feed_in (h k)
theorem lead_in {y : Rn} : ∀ m ∈ (leadS y).2, WrM (leadS y).1 m := by
  unfold leadS
  split
  · refine feeds_in fun k => ?_
    split
    · show 1 ≤ (y.log.length : Int) + 1 ∧ (y.log.length : Int) + 1 ≤ ((y.log ++ [_]).length : Int) + 1
      rw [List.length_append]; simp only [List.length_cons, List.length_nil]; omega
    · show 1 ≤ (y.log.length : Int) + 1 ∧ (y.log.length : Int) + 1 ≤ (y.log.length : Int) + 1
      omega
  · intro m hm; cases hm
theorem tick_in {x : Rn} (hx : RInv x) : ∀ m ∈ (tickS x).2, WrM (tickS x).1 m := by
  unfold tickS
  split
  · rename_i h2
    split
    · intro m hm; cases hm
    · exact feeds_in fun k => by have := hx.peers h2 k; show 1 ≤ x.nx k ∧ x.nx k ≤ (x.log.length : Int) + 1; omega
  · split
    · intro m hm; cases hm
    · split
      · exact lead_in
      · intro m hm
        obtain ⟨k, _, rfl⟩ := List.mem_map.1 hm
        exact ⟨rfl, rfl, fun h => absurd h (by show ¬ (1 : Int) = 3; decide)⟩
theorem tick_log {x : Rn} (h : x.role = 2) : (tickS x).1.log = x.log := by
  unfold tickS
  rw [if_pos h]
  split <;> rfl
theorem prop_in {x : Rn} {d : ByteArray} (hx : RInv x) (h : x.role = 2) : ∀ m ∈ (proposeS x d).2, WrM (proposeS x d).1 m := by
  refine feeds_in fun k => ?_
  have := hx.peers h k
  show 1 ≤ x.nx k ∧ x.nx k ≤ ((x.log ++ [_]).length : Int) + 1
  rw [List.length_append]; simp only [List.length_cons, List.length_nil]; omega
theorem prop_log {x : Rn} {d : ByteArray} : (proposeS x d).1.log = x.log ++ [⟨x.term, d⟩] := rfl
structure WrR (x : Rn) (n0 : Nat) (y : Rn) (ms : List Ml) : Prop where
  pre : x.role = 2 → y.log.take x.log.length = x.log ∧ x.log.length ≤ y.log.length
  new : ∀ (i : Nat) (m : Ml), n0 ≤ i → ms[i]? = some m → WrM y m
theorem sendN_new {ms out : List Ml} {i : Nat} {m : Ml} (hi : ms.length ≤ i) (h : (sendN ms out)[i]? = some m) : m ∈ out := by
  unfold sendN at h
  rw [List.getElem?_append_right hi] at h
  exact List.mem_of_mem_take (List.mem_of_getElem? h)
theorem doS_writes {l : List Rn} {ms : List Ml} {k i : Int} {j : Nat} {x : Rn} (hk : k = 0 ∨ k = 5) (hj : pickN i l.length = (j : Int)) (hx : l[j]? = some x) (hI : RInv x) :
    ∃ y, (doS l ms k i).1[j]? = some y ∧ y.id = x.id ∧ WrR x ms.length y (doS l ms k i).2 := by
  have hjl := (List.getElem?_eq_some_iff.1 hx).1
  have hno : WrR x ms.length x ms := ⟨fun _ => ⟨List.take_length, Nat.le_refl _⟩, fun i m hi hm => by
    rw [List.getElem?_eq_none hi] at hm; cases hm⟩
  unfold doS
  rw [hj, Int.toNat_natCast]
  rcases hk with rfl | rfl
  · rw [if_pos rfl]
    unfold tickD
    rw [hx]
    refine ⟨(tickS x).1, List.getElem?_set_self hjl, (tick_id x).1, fun h => ?_, fun i m hi hm => tick_in hI m (sendN_new hi hm)⟩
    rw [tick_log h]; exact ⟨List.take_length, Nat.le_refl _⟩
  · rw [if_neg (by decide), if_neg (by decide), if_neg (by decide), if_pos rfl]
    unfold propD
    rw [hx]
    dsimp only
    split
    · rename_i hp
      have h2 : x.role = 2 := by
        unfold proposeE at hp
        split at hp
        · cases hp
        · split at hp
          · cases hp
          · rename_i h; exact Decidable.not_not.1 h
      refine ⟨(proposeS x pB).1, List.getElem?_set_self hjl, rfl, fun h => ?_, fun i m hi hm => prop_in hI h2 m (sendN_new hi hm)⟩
      rw [prop_log]
      exact ⟨List.take_left, by rw [List.length_append]; omega⟩
    · exact ⟨x, hx, rfl, hno⟩
theorem InL.last {log : List Cl} {m : Ml} (h : InL log m) (hp : 0 < m.index) : ∃ (k : Nat) (c : Cl), m.index = (k : Int) + 1 ∧ log[k]? = some c ∧ c.term = m.prev := by
  have h1 := h.le
  obtain ⟨k, hk⟩ : ∃ k : Nat, m.index = (k : Int) + 1 := ⟨(m.index - 1).toNat, by omega⟩
  have hkl : k < log.length := by omega
  refine ⟨k, log[k], hk, List.getElem?_eq_getElem hkl, ?_⟩
  rw [← h.prev hp, hk, atT_pos (List.getElem?_eq_getElem hkl)]
theorem law_inlog0 {w0 : World} {A : List HProp} {c : Nat} {base : Option Addr} {log : List Cl} {m : Mh} (hl : log.length ≤ 10000) (hc : log.length ≤ c) (h0 : m.index = 0) (h : InL log m.ml) [hR : Reads w0 A base (cvs log)] (hS : RdC w0 A m.cs.base (cvs m.cs.xs)) :
    Fun Try.prog w0 31 [.slice base log.length c, .agg (mv m).toArray] A (Ret w0 (fun _ : Unit => True) (fun _ => .bool true) (fun _ => A)) := by
  have hge : 0 ≤ m.index := h.ge
  have hle : m.index + (m.cs.xs.length : Int) ≤ log.length := h.le
  have hcs : m.cs.xs = (log.drop m.index.toNat).take m.cs.xs.length := h.cells
  have hcn : (m.index + (m.cs.xs.length : Int)).toNat - m.index.toNat = m.cs.xs.length := by omega
  have hlc := cvs_length log
  have hsl : ∀ {B : List HProp} [Reads w0 B base (cvs log)], RdC w0 B (slB base m.index.toNat c 2) (cvs m.cs.xs) := fun {B} _ => by
    have h2 := (reads (w0 := w0) (A := B) (base := base) (vs := cvs log)).slice m.index.toNat c 2 (m.cs.xs.length * 2) (fun hm => by omega)
    rwa [cvs_drop, cvs_take, ← hcs] at h2
  refine Fun.enter Try.func31 rfl Try.ntmps31 rfl ?_
  refine WC.seq <| WC.region <| bxc (v := .agg _) (cs := [.int _ _, .int _ _, .int _ _, .int _ _, .int _ _, .int _ _, .int _ _, .bool _, .slice _ _ _]) rfl rfl fun b1 => sv (vaB rfl) <| WL.nil <| WX.thenN <| WC.seq <| WC.region <| sv (vfldp fl28f4 rfl) <| sv (vldc pl3 rfl) <| sv (vfldp fl28f8 rfl) <| sv (vldc pl22 rfl) <| sv (vlen Try.underlying22 rfl) <| sv (vadd rfl rfl (by omega)) <| sv (vaI rfl) <| WL.nil <| WX.thenN <| WC.seq <| ?_
  refine WC.cutS [(37, .bool false)] [(0, .slice _ _ _), (3, _), (5, .int _ _)] ⟨rfl, rfl, rfl, trivial⟩ ?_ fun ρh => ?_
  · -- more.go:88
    exact WC.draws rfl (by kernel_rfl) <| qv (vfldp fl28f4 rfl) <| qv (vldc pl3 rfl) <| qv (vF (vlt rfl rfl) (by omega)) <| qv (vmB rfl) <| qvg rfl (vmI rfl) <| qvg rfl (vmS rfl) <| qvg rfl (vlen Try.underlying22 rfl) <| qvg rfl (vF (vgt rfl rfl) (by omega)) <| qv (vpkf rfl) <| qv (vmB rfl) <| qvg rfl (vfldp fl28f4 rfl) <| qvg rfl (vldc pl3 rfl) <| qvg rfl (vF (vgt rfl rfl) (by omega)) <| qvg rfl (vmB rfl) <| qng rfl <| qng rfl <| qng rfl <| qng rfl <| qng rfl <| qng rfl <| qng rfl <| qng rfl <| qng rfl <| qng rfl <| qvg rfl (vpkf rfl) <| qv (vpkf rfl) <| WQ.nil <| WX.mid () trivial ⟨rfl, trivial⟩ ⟨rfl, rfl, rfl, trivial⟩ (fun _ h => Sb.own (by repeat' (first | with_reducible exact Sb.all | exact Sb.nil | (apply Sb.cons; focus (first | ((repeat (first | with_reducible exact Tk.here | with_reducible apply Tk.there)); done) | ((repeat (first | exact Tk.here | apply Tk.there)); done))) | apply Sb.drop)) h)
  refine WC.ff rfl ?_
  exact WC.skip <| WX.thenN <| WC.seq <| WC.draws rfl (by kernel_rfl) <| qv (vmS rfl) <| qv (vfldp fl28f4 rfl) <| qv (vldc pl3 rfl) <| qv (vmI rfl) <| qv (vw (v' := .slice (slB base m.index.toNat c 2) m.cs.xs.length (c - m.index.toNat)) (vslLH Try.underlying22 sz39 rfl rfl rfl (by omega) (by omega) (by omega)) (by rw [hcn])) <| qv (vfldp fl28f8 rfl) <| qv (vldc pl22 rfl) <| qcl (Fun.quiet (ref_samecells_eq (k := m.cs.xs) (l := m.cs.xs) (hR := ⟨hsl⟩) (hS := ⟨hS.mono fun _ h => h.tail⟩) (by omega) rfl)) ct19 rfl <| qv (vaB rfl) <| WQ.nil <| WX.thenN <| WC.ret <| WX.ret1 rfl (()) (trivial) rfl (fun _ h => Sb.own (by repeat' (first | with_reducible exact Sb.all | exact Sb.nil | (apply Sb.cons; focus (first | ((repeat (first | with_reducible exact Tk.here | with_reducible apply Tk.there)); done) | ((repeat (first | exact Tk.here | apply Tk.there)); done))) | apply Sb.drop)) h)
theorem law_inlog1 {w0 : World} {A : List HProp} {c : Nat} {base : Option Addr} {log : List Cl} {m : Mh} (hl : log.length ≤ 10000) (hc : log.length ≤ c) {k : Nat} {d : Cl} (h0 : m.index = (k : Int) + 1) (hd : log[k]? = some d) (hdt : d.term = m.prev) (h : InL log m.ml) [hR : Reads w0 A base (cvs log)] (hS : RdC w0 A m.cs.base (cvs m.cs.xs)) :
    Fun Try.prog w0 31 [.slice base log.length c, .agg (mv m).toArray] A (Ret w0 (fun _ : Unit => True) (fun _ => .bool true) (fun _ => A)) := by
  have hge : 0 ≤ m.index := h.ge
  have hle : m.index + (m.cs.xs.length : Int) ≤ log.length := h.le
  have hcs : m.cs.xs = (log.drop m.index.toNat).take m.cs.xs.length := h.cells
  have hcn : (m.index + (m.cs.xs.length : Int)).toNat - m.index.toNat = m.cs.xs.length := by omega
  have hlc := cvs_length log
  have hsl : ∀ {B : List HProp} [Reads w0 B base (cvs log)], RdC w0 B (slB base m.index.toNat c 2) (cvs m.cs.xs) := fun {B} _ => by
    have h2 := (reads (w0 := w0) (A := B) (base := base) (vs := cvs log)).slice m.index.toNat c 2 (m.cs.xs.length * 2) (fun hm => by omega)
    rwa [cvs_drop, cvs_take, ← hcs] at h2
  have hkl : k < log.length := (List.getElem?_eq_some_iff.1 hd).1
  have hkz : (m.index - 1).toNat = k := by omega
  have hpos : 0 < (cvs log).length := by omega
  have hf0 : (cvs log)[(m.index - 1).toNat * 2 + 0]? = some (.int .i64 m.prev) := by rw [hkz, cvs_at hd (by omega), ← hdt]; rfl
  refine Fun.known (fun w h => rsome (base := base) hpos reads h) fun hb => ?_
  refine Fun.enter Try.func31 rfl Try.ntmps31 rfl ?_
  refine WC.seq <| WC.region <| bxc (v := .agg _) (cs := [.int _ _, .int _ _, .int _ _, .int _ _, .int _ _, .int _ _, .int _ _, .bool _, .slice _ _ _]) rfl rfl fun b1 => sv (vaB rfl) <| WL.nil <| WX.thenN <| WC.seq <| WC.region <| sv (vfldp fl28f4 rfl) <| sv (vldc pl3 rfl) <| sv (vfldp fl28f8 rfl) <| sv (vldc pl22 rfl) <| sv (vlen Try.underlying22 rfl) <| sv (vadd rfl rfl (by omega)) <| sv (vaI rfl) <| WL.nil <| WX.thenN <| WC.seq <| ?_
  refine WC.cutS [(37, .bool false)] [(0, .slice _ _ _), (3, _), (5, .int _ _)] ⟨rfl, rfl, rfl, trivial⟩ ?_ fun ρh => ?_
  · -- more.go:88
    exact WC.draws rfl (by kernel_rfl) <| qv (vfldp fl28f4 rfl) <| qv (vldc pl3 rfl) <| qv (vF (vlt rfl rfl) (by omega)) <| qv (vmB rfl) <| qvg rfl (vmI rfl) <| qvg rfl (vmS rfl) <| qvg rfl (vlen Try.underlying22 rfl) <| qvg rfl (vF (vgt rfl rfl) (by omega)) <| qv (vpkf rfl) <| qv (vmB rfl) <| qvg rfl (vfldp fl28f4 rfl) <| qvg rfl (vldc pl3 rfl) <| qvg rfl (vT (vgt rfl rfl) (by omega)) <| qvg rfl (vmB rfl) <| qvg rfl (vmS rfl) <| qvg rfl (vfldp fl28f4 rfl) <| qvg rfl (vldc pl3 rfl) <| qvg rfl (vsub rfl rfl (by omega)) <| qvg rfl (vix Try.underlying22 sz39 rfl rfl (by omega) (by omega) reads (hpos)) <| qvg rfl (vfldr (hb) fl39f0 rfl) <| qvg rfl (vldo pl3 rfl reads (hf0)) <| qvg rfl (vfldp fl28f5 rfl) <| qvg rfl (vldc pl3 rfl) <| qvg rfl (vF (vne rfl rfl) (by omega)) <| qvg rfl (vpkt rfl) <| qv (vpkf rfl) <| WQ.nil <| WX.mid () trivial ⟨rfl, trivial⟩ ⟨rfl, rfl, rfl, trivial⟩ (fun _ h => Sb.own (by repeat' (first | with_reducible exact Sb.all | exact Sb.nil | (apply Sb.cons; focus (first | ((repeat (first | with_reducible exact Tk.here | with_reducible apply Tk.there)); done) | ((repeat (first | exact Tk.here | apply Tk.there)); done))) | apply Sb.drop)) h)
  refine WC.ff rfl ?_
  exact WC.skip <| WX.thenN <| WC.seq <| WC.draws rfl (by kernel_rfl) <| qv (vmS rfl) <| qv (vfldp fl28f4 rfl) <| qv (vldc pl3 rfl) <| qv (vmI rfl) <| qv (vw (v' := .slice (slB base m.index.toNat c 2) m.cs.xs.length (c - m.index.toNat)) (vslLH Try.underlying22 sz39 rfl rfl rfl (by omega) (by omega) (by omega)) (by rw [hcn])) <| qv (vfldp fl28f8 rfl) <| qv (vldc pl22 rfl) <| qcl (Fun.quiet (ref_samecells_eq (k := m.cs.xs) (l := m.cs.xs) (hR := ⟨hsl⟩) (hS := ⟨hS.mono fun _ h => h.tail⟩) (by omega) rfl)) ct19 rfl <| qv (vaB rfl) <| WQ.nil <| WX.thenN <| WC.ret <| WX.ret1 rfl (()) (trivial) rfl (fun _ h => Sb.own (by repeat' (first | with_reducible exact Sb.all | exact Sb.nil | (apply Sb.cons; focus (first | ((repeat (first | with_reducible exact Tk.here | with_reducible apply Tk.there)); done) | ((repeat (first | exact Tk.here | apply Tk.there)); done))) | apply Sb.drop)) h)
theorem law_inlog {w0 : World} {A : List HProp} {c : Nat} {base : Option Addr} {log : List Cl} {m : Mh} (hl : log.length ≤ 10000) (hc : log.length ≤ c) (h : InL log m.ml) [hR : Reads w0 A base (cvs log)] (hS : RdC w0 A m.cs.base (cvs m.cs.xs)) :
    Fun Try.prog w0 31 [.slice base log.length c, .agg (mv m).toArray] A (Ret w0 (fun _ : Unit => True) (fun _ => .bool true) (fun _ => A)) := by
  rcases Int.lt_or_eq_of_le h.ge with h1 | h1
  · obtain ⟨k, d, h2, h3, h4⟩ := h.last h1
    exact law_inlog1 hl hc h2 h3 h4 h hS
  · exact law_inlog0 hl hc h1.symm h hS
end Go.Proofs.Ytekoilhjlofncaa
