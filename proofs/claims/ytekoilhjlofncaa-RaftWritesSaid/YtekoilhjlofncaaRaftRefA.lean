/-
  Layer 19's reference: a node as a chunk of memory; small functions.
-/
import Derived.Test.YtekoilhjlofncaaRaftTakeB
set_option linter.unusedVariables false
set_option linter.unusedSimpArgs false
set_option maxRecDepth 4000
namespace Go.Proofs.Ytekoilhjlofncaa
open Go.Sl Go.RowKit Go.Raft

abbrev rcells (x : Rn) (base : Option Addr) (c : Nat) (V : Nat → Bool) (N M : Nat → Int) : List Value := [.int .i64 x.id, .int .i64 x.n, .int .i64 x.term, .int .i64 x.vote, .slice base x.log.length c, .int .i64 x.role, .int .i64 x.leader, .int .i64 x.commit, .int .i64 x.waited,
  .bool (V 0), .bool (V 1), .bool (V 2), .bool (V 3), .bool (V 4), .bool (V 5), .int .i64 (N 0), .int .i64 (N 1), .int .i64 (N 2), .int .i64 (N 3), .int .i64 (N 4), .int .i64 (N 5), .int .i64 (M 0), .int .i64 (M 1), .int .i64 (M 2), .int .i64 (M 3), .int .i64 (M 4), .int .i64 (M 5), .int .i64 x.since]
structure RelR (x : Rn) (V : Nat → Bool) (N M : Nat → Int) : Prop where
  voted : x.role = 1 → ∀ k : Nat, 1 ≤ k → k ≤ 5 → (V k = true ↔ (k : Int) ∈ x.voted)
  peers : x.role = 2 → ∀ k : Nat, (k : Int) ∈ others x → N k = x.nx k ∧ M k = x.mt k
def rnode (p : Nat) (x : Rn) : HProp := fun h => ∃ base c V N M, (x.log.length ≤ c ∧ RelR x V N M) ∧ star (cel p (rcells x base c V N M) 54) (row base c 2 39 (cvs x.log)) h
structure RI where
  base : Option Addr
  c : Nat
  V : Nat → Bool
  N : Nat → Int
  M : Nat → Int
theorem rnode_open {w0 w : World} {A : List HProp} {p : Nat} {x : Rn} (H : Own w0 (rnode p x :: A) w) :
    ∃ i : RI, (x.log.length ≤ i.c ∧ RelR x i.V i.N i.M) ∧ Own w0 (cel p (rcells x i.base i.c i.V i.N i.M) 54 :: row i.base i.c 2 39 (cvs x.log) :: A) w := by
  obtain ⟨hb, h, ⟨h1, h2, ⟨base, c, V, N, M, hc, a⟩, a2, dd, y⟩, hw⟩ := H
  have h3 : Own w0 (star (cel p (rcells x base c V N M) 54) (row base c 2 39 (cvs x.log)) :: A) w := ⟨hb, h, ⟨h1, h2, a, a2, dd, y⟩, hw⟩
  exact ⟨⟨base, c, V, N, M⟩, hc, h3.star⟩
theorem rnode_mk {w0 w : World} {A : List HProp} {p c : Nat} {base : Option Addr} {x : Rn} {V : Nat → Bool} {N M : Nat → Int} (hc : x.log.length ≤ c) (hr : RelR x V N M) (H : Own w0 (cel p (rcells x base c V N M) 54 :: row base c 2 39 (cvs x.log) :: A) w) : Own w0 (rnode p x :: A) w :=
  H.intro_star.head fun _ h => ⟨base, c, V, N, M, ⟨hc, hr⟩, h⟩
theorem RelR.same {x y : Rn} {V : Nat → Bool} {N M : Nat → Int} (h : RelR x V N M) (hr : y.role = x.role) (hv : y.voted = x.voted) (hi : y.id = x.id ∧ y.n = x.n) (hp : y.nx = x.nx ∧ y.mt = x.mt) : RelR y V N M :=
  ⟨fun h1 => by rw [hv]; exact h.voted (hr ▸ h1), fun h2 => by rw [show others y = others x by unfold others; rw [hi.1, hi.2], hp.1, hp.2]; exact h.peers (hr ▸ h2)⟩
theorem RelR.follow {x : Rn} {V : Nat → Bool} {N M : Nat → Int} (h1 : x.role ≠ 1) (h2 : x.role ≠ 2) : RelR x V N M := ⟨fun h => absurd h h1, fun h => absurd h h2⟩
theorem ref_last {w0 : World} {A : List HProp} {p c : Nat} {base : Option Addr} {x : Rn} {V : Nat → Bool} {N M : Nat → Int} [hc : CelAt A p (rcells x base c V N M) 54] :
    Fun Try.prog w0 42 [.pointer (some ⟨p, 0, none⟩)] A (Ret w0 (fun _ : Unit => True) (fun _ => .int .i64 x.log.length) (fun _ => A)) := by
  refine Fun.enter Try.func42 rfl Try.ntmps42 rfl ?_
  exact WC.seq <| WC.region <| sv (vaI rfl) <| WL.nil <| WX.thenN <| WC.seq <| WC.region <| sv (vmP rfl) <| sv (vnil rfl) <| sv (vfldp fl54f2 rfl) <| sv (vfldp fl24f2 rfl) <| sv (vldc pl22 rfl) <| sv (vlen Try.underlying22 rfl) <| sv (vaI rfl) <| WL.nil <| WX.thenN <| WC.ret <| WX.ret1 rfl (()) (trivial) rfl (fun _ h => Sb.own (by repeat' (first | with_reducible exact Sb.all | exact Sb.nil | (apply Sb.cons; focus (first | ((repeat (first | with_reducible exact Tk.here | with_reducible apply Tk.there)); done) | ((repeat (first | exact Tk.here | apply Tk.there)); done))) | apply Sb.drop)) h)
theorem ref_term {w0 : World} {A : List HProp} {p c : Nat} {base : Option Addr} {x : Rn} {V : Nat → Bool} {N M : Nat → Int} {q : Int} (hl : x.log.length ≤ 10000) [hc : CelAt A p (rcells x base c V N M) 54] [hR : Reads w0 A base (cvs x.log)] :
    Fun Try.prog w0 43 [.pointer (some ⟨p, 0, none⟩), .int .i64 q] A (Ret w0 (fun _ : Unit => True) (fun _ => .int .i64 (atT x.log q)) (fun _ => A)) := by
  refine Fun.enter Try.func43 rfl Try.ntmps43 rfl ?_
  refine WC.seq <| WC.region <| sv (vaI rfl) <| WL.nil <| WX.thenN <| WC.seq <| ?_
  refine WC.cutS [(12, .bool (decide (q < 1 ∨ (x.log.length : Int) < q)))] [(0, .pointer _), (1, .int _ _)] ⟨rfl, rfl, trivial⟩ ?_ fun ρh => ?_
  · -- ref.go:71
    refine WC.region <| sv (vmI rfl) <| svs (vlt rfl rfl) (fun q1 => ?_) (fun q1 => ?_)
    ·
      exact sv (vmB rfl) <| sng rfl <| sng rfl <| sng rfl <| sng rfl <| sv (vpkt rfl) <| WL.nil <| WX.mid () trivial ⟨bT (by first | omega | simp_all | grind), trivial⟩ ⟨rfl, rfl, trivial⟩ (fun _ h => Sb.own (by repeat' (first | with_reducible exact Sb.all | exact Sb.nil | (apply Sb.cons; focus (first | ((repeat (first | with_reducible exact Tk.here | with_reducible apply Tk.there)); done) | ((repeat (first | exact Tk.here | apply Tk.there)); done))) | apply Sb.drop)) h)
    ·
      refine sv (vmB rfl) <| svg rfl (vmI rfl) <| svg rfl (vmP rfl) <| gy rfl <| clx (by repeat' (first | with_reducible exact Sb.all | exact Sb.nil | (apply Sb.cons; focus (first | ((repeat (first | with_reducible exact Tk.here | with_reducible apply Tk.there)); done) | ((repeat (first | exact Tk.here | apply Tk.there)); done))) | apply Sb.drop)) (ref_last) ct42 rfl fun r1 hr1 => ?_
      exact svg rfl (vgt rfl rfl) <| sv (vpkf rfl) <| WL.nil <| WX.mid () trivial ⟨bI (by first | omega | simp_all | grind), trivial⟩ ⟨rfl, rfl, trivial⟩ (fun _ h => Sb.own (by repeat' (first | with_reducible exact Sb.all | exact Sb.nil | (apply Sb.cons; focus (first | ((repeat (first | with_reducible exact Tk.here | with_reducible apply Tk.there)); done) | ((repeat (first | exact Tk.here | apply Tk.there)); done))) | apply Sb.drop)) h)
  refine WC.ite rfl (fun h1 => ?_) (fun h1 => ?_)
  · -- then
    exact WC.seq <| WC.region <| sv (vaI rfl) <| WL.nil <| WX.thenN <| WC.ret <| WX.thenR <| WX.ret1 rfl (()) (trivial) (iv (atT_zero h1).symm) (fun _ h => Sb.own (by repeat' (first | with_reducible exact Sb.all | exact Sb.nil | (apply Sb.cons; focus (first | ((repeat (first | with_reducible exact Tk.here | with_reducible apply Tk.there)); done) | ((repeat (first | exact Tk.here | apply Tk.there)); done))) | apply Sb.drop)) h)
  · -- else
    obtain ⟨k, rfl⟩ : ∃ k : Nat, q = (k : Int) + 1 := ⟨(q - 1).toNat, by omega⟩
    have hk : k < x.log.length := by omega
    have hkc : x.log[k]? = some x.log[k] := List.getElem?_eq_getElem hk
    have hkz : ((k : Int) + 1 - 1).toNat = k := by omega
    have hlc := cvs_length x.log
    have hpos : 0 < (cvs x.log).length := by omega
    have hf0 : (cvs x.log)[((k : Int) + 1 - 1).toNat * 2 + 0]? = some (.int .i64 (atT x.log ((k : Int) + 1))) := by rw [hkz, cvs_at hkc (by omega), atT_pos hkc]; rfl
    refine WC.known (fun w h => rsome (base := base) hpos reads h) fun hb => ?_
    exact WC.skip <| WX.thenN <| WC.seq <| WC.region <| sv (vmP rfl) <| sv (vnil rfl) <| sv (vfldp fl54f2 rfl) <| sv (vfldp fl24f2 rfl) <| sv (vldc pl22 rfl) <| sv (vmI rfl) <| sv (vsub rfl rfl (by omega)) <| sv (vix Try.underlying22 sz39 rfl rfl (by omega) (by omega) reads (hpos)) <| sv (vfldr (hb) fl39f0 rfl) <| sv (vldo pl3 rfl reads (hf0)) <| sv (vaI rfl) <| WL.nil <| WX.thenN <| WC.ret <| WX.ret1 rfl (()) (trivial) rfl (fun _ h => Sb.own (by repeat' (first | with_reducible exact Sb.all | exact Sb.nil | (apply Sb.cons; focus (first | ((repeat (first | with_reducible exact Tk.here | with_reducible apply Tk.there)); done) | ((repeat (first | exact Tk.here | apply Tk.there)); done))) | apply Sb.drop)) h)
theorem ref_copy {w0 : World} {A : List HProp} {c : Nat} {base : Option Addr} {l : List Cl} (hl : l.length ≤ 1099511627776) [hR : Reads w0 A base (cvs l)] :
    Fun Try.prog w0 9 [.slice base l.length c] A
      (Ret w0 (fun i : Option Addr × Nat => l.length ≤ i.2) (fun i => .slice i.1 l.length i.2) (fun i => row i.1 i.2 2 39 (cvs l) :: A)) := by
  refine Fun.enter Try.func9 rfl Try.ntmps9 rfl ?_
  exact WC.seq <| WC.region <| sv (vaS rfl) <| WL.nil <| WX.thenN <| WC.seq <| WC.region <| sv (vaS rfl) <| WL.nil <| WX.thenN <| WC.seq <| WC.region <| sv (vmS rfl) <| sv (vmS rfl) <| pm (fun _ h => h.intro_row_nil) <| ap (vs := []) (news := cvs l) rfl Try.underlying22 zt39 rfl rfl rfl (rfl) (cvs_length l) (cvs_one l) (reads) (by simp only [maxLen]; omega) (by omega) fun base1 c1 hc1 => sv (vaS rfl) <| WL.nil <| WX.thenN <| WC.seq <| WC.region <| sv (vmS rfl) <| sv (vaS rfl) <| WL.nil <| WX.thenN <| WC.ret <| WX.ret1 rfl ((base1, c1)) (by simpa using hc1) (by show Value.slice base1 (0 + l.length) c1 = _; rw [Nat.zero_add]) (fun _ h => Sb.own (by repeat' (first | with_reducible exact Sb.all | exact Sb.nil | (apply Sb.cons; focus (first | ((repeat (first | with_reducible exact Tk.here | with_reducible apply Tk.there)); done) | ((repeat (first | exact Tk.here | apply Tk.there)); done))) | apply Sb.drop)) h)
theorem ref_new {w0 : World} {A : List HProp} {id n t v : Int} {l : List Cl} {b : Option Addr} {c : Nat} (hl : l.length ≤ 1099511627776) [hR : Reads w0 A b (cvs l)] :
    Fun Try.prog w0 13 [.int .i64 id, .int .i64 n, .agg (scells t v b l c).toArray] A (Ret w0 (fun _ : Nat => True) (fun p => .pointer (some ⟨p, 0, none⟩)) (fun p => rnode p (newR id n t v l) :: A)) := by
  refine Fun.enter Try.func13 rfl Try.ntmps13 rfl ?_
  refine WC.seq <| WC.region <| bxc (v := .agg _) (cs := [.int _ _, .int _ _, .slice _ _ _]) rfl rfl fun b1 => sv (vaP rfl) <| WL.nil <| WX.thenN <| WC.seq <| WC.region <| sv (vfldp fl24f2 rfl) <| sv (vldc pl22 rfl) <| clx (by repeat' (first | with_reducible exact Sb.all | exact Sb.nil | (apply Sb.cons; focus (first | ((repeat (first | with_reducible exact Tk.here | with_reducible apply Tk.there)); done) | ((repeat (first | exact Tk.here | apply Tk.there)); done))) | apply Sb.drop)) (ref_copy (l := l) hl) ct9 rfl fun r3 hr3 => ?_
  exact sv (vfldp fl24f2 rfl) <| stp (v := .slice _ _ _) pl22 sz22 rfl rfl rfl <| WL.nil <| WX.thenN <| WC.seq <| WC.region <| sv (vmI rfl) <| sv (vmI rfl) <| sv (vldac ag24 sz24 rfl rfl (by decide)) <| sv (vbd (ps := [(0, .int _ _), (1, .int _ _), (2, .agg _)]) (cs := [_, _, _, _, _, _, _, _, _, _, _, _, _, _, _, _, _, _, _, _, _, _, _, _, _, _, _, _]) bt54 zt54 rfl (by rfl)) <| bxc (v := .agg _) (cs := [.int _ _, .int _ _, .int _ _, .int _ _, .slice _ _ _, .int _ _, .int _ _, .int _ _, .int _ _, .bool _, .bool _, .bool _, .bool _, .bool _, .bool _, .int _ _, .int _ _, .int _ _, .int _ _, .int _ _, .int _ _, .int _ _, .int _ _, .int _ _, .int _ _, .int _ _, .int _ _, .int _ _]) rfl rfl fun b7 => sv (vaP rfl) <| WL.nil <| WX.thenN <| WC.ret <| WX.ret1 rfl (b7) (trivial) rfl (fun w h => rnode_mk (x := newR id n t v l) hr3 (RelR.follow (by show ¬ (0 : Int) = 1; decide) (by show ¬ (0 : Int) = 2; decide)) (V := fun _ => false) (N := fun _ => 0) (M := fun _ => 0) (Sb.own (by repeat' (first | with_reducible exact Sb.all | exact Sb.nil | (apply Sb.cons; focus (first | ((repeat (first | with_reducible exact Tk.here | with_reducible apply Tk.there)); done) | ((repeat (first | exact Tk.here | apply Tk.there)); done))) | apply Sb.drop)) h))
theorem ref_cells {w0 : World} {A : List HProp} {c : Nat} {base : Option Addr} {l : List Cl} {least most : Int} (hl : l.length ≤ 1099511627776) [hR : Reads w0 A base (cvs l)] :
    Fun Try.prog w0 34 [.slice base l.length c, .int .i64 least, .int .i64 most] A
      (Ret w0 (fun _ : Unit => True) (fun _ => .bool (rises l least most)) (fun _ => A)) := by
  refine Fun.enter Try.func34 rfl Try.ntmps34 rfl ?_
  refine WC.seq <| WC.region <| sv (vaB rfl) <| WL.nil <| WX.thenN <| WC.seq <| WC.seq <| WC.region <| sv (vaI rfl) <| WL.nil <| WX.thenN <| WC.block <| ?_
  refine WC.loopS (ι := Nat) (fun i => [(1, .int .i64 (if i = 0 then least else (l.getD (i - 1) ⟨0, ByteArray.empty⟩).term)), (7, .int .i64 i)]) [(0, .slice _ _ _), (2, .int _ _)] (fun i => i ≤ l.length ∧ rises l least most = rises (l.drop i) (if i = 0 then least else (l.getD (i - 1) ⟨0, ByteArray.empty⟩).term) most) (fun i => l.length - i) (0) (⟨by omega, by simp⟩) ⟨rfl, rfl, trivial⟩ ⟨rfl, rfl, trivial⟩ ?_
  intro i ⟨hi, hr⟩ ρh
  obtain ⟨lst, hlst⟩ : ∃ lst : Int, lst = (if i = 0 then least else (l.getD (i - 1) ⟨0, ByteArray.empty⟩).term) := ⟨_, rfl⟩
  rw [← hlst] at hr ⊢
  refine WC.seq <| WC.seq <| WC.region <| sv (vmI rfl) <| sv (vmS rfl) <| sv (vlen Try.underlying22 rfl) <| sv (vlt rfl rfl) <| WL.nil <| WX.thenN <| ?_
  refine WC.ite rfl (fun h1 => ?_) (fun h1 => ?_)
  · -- then
    have hil : i < l.length := by omega
    obtain ⟨d, hd⟩ : ∃ d, l[i]? = some d := ⟨_, List.getElem?_eq_getElem hil⟩
    have hdr : l.drop i = d :: l.drop (i + 1) := by rw [List.drop_eq_getElem_cons hil, (List.getElem?_eq_some_iff.1 hd).2]
    rw [hdr] at hr
    have hlc := cvs_length l
    have hpos : 0 < (cvs l).length := by omega
    have hf0 : (cvs l)[((i : Int)).toNat * 2 + 0]? = some (.int .i64 d.term) := by rw [Int.toNat_natCast, cvs_at hd (by omega)]; rfl
    have hf1 : (cvs l)[((i : Int)).toNat * 2 + 1]? = some (.string d.data) := by rw [Int.toNat_natCast, cvs_at hd (by omega)]; rfl
    refine WC.known (fun w h => rsome (base := base) hpos reads h) fun hb => ?_
    refine WC.skip <| WX.thenN <| WC.seq <| WC.block <| WC.seq <| ?_
    refine WC.cutS [(46, .bool (decide (d.term < 1 ∨ d.term < lst ∨ most < d.term ∨ (4096 : Int) < d.data.size)))] [(0, .slice _ _ _), (2, .int _ _), (7, .int _ _)] ⟨rfl, rfl, rfl, trivial⟩ ?_ fun ρh => ?_
    · -- ref.go:21
      refine WC.region <| sv (vmS rfl) <| sv (vmI rfl) <| sv (vix Try.underlying22 sz39 rfl rfl (by omega) (by omega) reads (hpos)) <| sv (vfldr (hb) fl39f0 rfl) <| sv (vldo pl3 rfl reads (hf0)) <| svs (vlt rfl rfl) (fun q1 => ?_) (fun q1 => ?_)
      ·
        exact sv (vmB rfl) <| sng rfl <| sng rfl <| sng rfl <| sng rfl <| sng rfl <| sng rfl <| sng rfl <| sv (vpkt rfl) <| sv (vmB rfl) <| sng rfl <| sng rfl <| sng rfl <| sng rfl <| sng rfl <| sng rfl <| sng rfl <| sv (vpkt rfl) <| sv (vmB rfl) <| sng rfl <| sng rfl <| sng rfl <| sng rfl <| sng rfl <| sng rfl <| sng rfl <| sv (vpkt rfl) <| WL.nil <| WX.mid () trivial ⟨bT (by first | omega | simp_all | grind), trivial⟩ ⟨rfl, rfl, rfl, trivial⟩ (fun _ h => Sb.own (by repeat' (first | with_reducible exact Sb.all | exact Sb.nil | (apply Sb.cons; focus (first | ((repeat (first | with_reducible exact Tk.here | with_reducible apply Tk.there)); done) | ((repeat (first | exact Tk.here | apply Tk.there)); done))) | apply Sb.drop)) h)
      ·
        refine sv (vmB rfl) <| svg rfl (vmS rfl) <| svg rfl (vmI rfl) <| svg rfl (vix Try.underlying22 sz39 rfl rfl (by omega) (by omega) reads (hpos)) <| svg rfl (vfldr (hb) fl39f0 rfl) <| svg rfl (vldo pl3 rfl reads (hf0)) <| svg rfl (vmI rfl) <| svsg rfl (vlt rfl rfl) (fun q2 => ?_) (fun q2 => ?_)
        ·
          exact sv (vpkf rfl) <| sv (vmB rfl) <| sng rfl <| sng rfl <| sng rfl <| sng rfl <| sng rfl <| sng rfl <| sng rfl <| sv (vpkt rfl) <| sv (vmB rfl) <| sng rfl <| sng rfl <| sng rfl <| sng rfl <| sng rfl <| sng rfl <| sng rfl <| sv (vpkt rfl) <| WL.nil <| WX.mid () trivial ⟨bT (by first | omega | simp_all | grind), trivial⟩ ⟨rfl, rfl, rfl, trivial⟩ (fun _ h => Sb.own (by repeat' (first | with_reducible exact Sb.all | exact Sb.nil | (apply Sb.cons; focus (first | ((repeat (first | with_reducible exact Tk.here | with_reducible apply Tk.there)); done) | ((repeat (first | exact Tk.here | apply Tk.there)); done))) | apply Sb.drop)) h)
        ·
          refine sv (vpkf rfl) <| sv (vmB rfl) <| svg rfl (vmS rfl) <| svg rfl (vmI rfl) <| svg rfl (vix Try.underlying22 sz39 rfl rfl (by omega) (by omega) reads (hpos)) <| svg rfl (vfldr (hb) fl39f0 rfl) <| svg rfl (vldo pl3 rfl reads (hf0)) <| svg rfl (vmI rfl) <| svsg rfl (vgt rfl rfl) (fun q3 => ?_) (fun q3 => ?_)
          ·
            exact sv (vpkf rfl) <| sv (vmB rfl) <| sng rfl <| sng rfl <| sng rfl <| sng rfl <| sng rfl <| sng rfl <| sng rfl <| sv (vpkt rfl) <| WL.nil <| WX.mid () trivial ⟨bT (by first | omega | simp_all | grind), trivial⟩ ⟨rfl, rfl, rfl, trivial⟩ (fun _ h => Sb.own (by repeat' (first | with_reducible exact Sb.all | exact Sb.nil | (apply Sb.cons; focus (first | ((repeat (first | with_reducible exact Tk.here | with_reducible apply Tk.there)); done) | ((repeat (first | exact Tk.here | apply Tk.there)); done))) | apply Sb.drop)) h)
          ·
            exact sv (vpkf rfl) <| sv (vmB rfl) <| svg rfl (vmS rfl) <| svg rfl (vmI rfl) <| svg rfl (vix Try.underlying22 sz39 rfl rfl (by omega) (by omega) reads (hpos)) <| svg rfl (vfldr (hb) fl39f1 rfl) <| svg rfl (vldo pl9 rfl reads (hf1)) <| svg rfl (vlens Try.underlying9 rfl) <| svg rfl (vgt rfl rfl) <| sv (vpkf rfl) <| WL.nil <| WX.mid () trivial ⟨bI (by first | omega | simp_all | grind), trivial⟩ ⟨rfl, rfl, rfl, trivial⟩ (fun _ h => Sb.own (by repeat' (first | with_reducible exact Sb.all | exact Sb.nil | (apply Sb.cons; focus (first | ((repeat (first | with_reducible exact Tk.here | with_reducible apply Tk.there)); done) | ((repeat (first | exact Tk.here | apply Tk.there)); done))) | apply Sb.drop)) h)
    refine WC.ite rfl (fun h2 => ?_) (fun h2 => ?_)
    · -- then
      have hno : ¬ (max lst 1 ≤ d.term ∧ d.term ≤ most ∧ d.data.size ≤ 4096) := by omega
      exact WC.seq <| WC.region <| sv (vaB rfl) <| WL.nil <| WX.thenN <| WC.ret <| WX.thenR <| WX.blockR <| WX.thenR <| WX.thenR <| WX.blockR <| WX.thenR <| WX.ret1 rfl (()) (trivial) (by rw [hr, rises, decide_eq_false hno]; rfl) (fun _ h => Sb.own (by repeat' (first | with_reducible exact Sb.all | exact Sb.nil | (apply Sb.cons; focus (first | ((repeat (first | with_reducible exact Tk.here | with_reducible apply Tk.there)); done) | ((repeat (first | exact Tk.here | apply Tk.there)); done))) | apply Sb.drop)) h)
    · -- else
      refine WC.skip <| WX.thenN <| WC.region <| sv (vmS rfl) <| sv (vmI rfl) <| sv (vix Try.underlying22 sz39 rfl rfl (by omega) (by omega) reads (hpos)) <| sv (vfldr (hb) fl39f0 rfl) <| sv (vldo pl3 rfl reads (hf0)) <| sv (vaI rfl) <| WL.nil <| WX.blockN <| WX.thenN <| WC.region <| sv (vmI rfl) <| sv (vadd rfl rfl (by omega)) <| sv (vaI rfl) <| WL.nil <| WX.again (i + 1) (⟨by omega, by rw [hr, rises, decide_eq_true (by omega), Bool.true_and, if_neg (by omega), Nat.add_sub_cancel, List.getD_eq_getElem?_getD, hd]; rfl⟩) (by omega) ⟨iv (by rw [if_neg (by omega), Nat.add_sub_cancel, List.getD_eq_getElem?_getD, hd]; rfl), rfl, trivial⟩ ⟨rfl, rfl, trivial⟩ (fun _ h => Sb.own (by repeat' (first | with_reducible exact Sb.all | exact Sb.nil | (apply Sb.cons; focus (first | ((repeat (first | with_reducible exact Tk.here | with_reducible apply Tk.there)); done) | ((repeat (first | exact Tk.here | apply Tk.there)); done))) | apply Sb.drop)) h)
  · -- else
    exact WC.exit <| WX.thenE <| WX.thenE <| WX.blockH <| WX.thenN <| WC.seq <| WC.region <| sv (vaB rfl) <| WL.nil <| WX.thenN <| WC.ret <| WX.ret1 rfl (()) (trivial) (by rw [hr, List.drop_eq_nil_of_le (by omega)]; rfl) (fun _ h => Sb.own (by repeat' (first | with_reducible exact Sb.all | exact Sb.nil | (apply Sb.cons; focus (first | ((repeat (first | with_reducible exact Tk.here | with_reducible apply Tk.there)); done) | ((repeat (first | exact Tk.here | apply Tk.there)); done))) | apply Sb.drop)) h)
end Go.Proofs.Ytekoilhjlofncaa
