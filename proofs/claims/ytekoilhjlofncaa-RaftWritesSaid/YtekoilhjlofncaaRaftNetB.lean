/-
  Layer 19: nodes and their mails, act by act: the beginning, a mail lost.
-/
import Derived.Test.YtekoilhjlofncaaRaftNetA
set_option linter.unusedVariables false
set_option linter.unusedSimpArgs false
set_option maxRecDepth 4000
namespace Go.Proofs.Ytekoilhjlofncaa
open Go.Sl Go.RowKit Go.Raft

def startN (n k : Nat) : List Rn := (List.range k).map fun i : Nat => newR ((i : Int) + 1) n 0 0 []
theorem startN_length (n k : Nat) : (startN n k).length = k := by simp [startN]
theorem startN_snoc (n k : Nat) : startN n (k + 1) = startN n k ++ [newR ((k : Int) + 1) n 0 0 []] := by simp [startN, List.range_succ]
structure NtI where
  k : Nat
  l : List (Nat × Rn)
  b : Option Addr
  c : Nat
theorem start_ok {n k : Nat} (hn : n ≤ 5) (hk : k < n) : newOk ((k : Int) + 1) n 0 0 [] := by
  refine ⟨by omega, by omega, by omega, by omega, by decide, by decide, by decide, by omega, by decide, rfl⟩
theorem law_net {w0 : World} {A : List HProp} {n : Nat} (hn : n ≤ 5) :
    Fun Try.prog w0 27 [.int .i64 n] A (Ret w0 (fun i : Nat × List (Nat × Rn) => i.2.map Prod.snd = startN n n) (fun i => .pointer (some ⟨i.1, 0, none⟩)) (fun i => hnet i.1 ⟨i.2, [], [], [], []⟩ :: A)) := by
  refine Fun.enter Try.func27 rfl Try.ntmps27 rfl ?_
  refine WC.seq <| WC.region <| sv (vaP rfl) <| WL.nil <| WX.thenN <| WC.seq <| WC.region <| sv (vbd (ps := []) (cs := [_, _, _, _, _]) bt70 zt70 rfl (by rfl)) <| bxc (v := .agg _) (cs := [.slice _ _ _, .slice _ _ _, .slice _ _ _, .slice _ _ _, .slice _ _ _]) rfl rfl fun b2 => sv (vaP rfl) <| WL.nil <| WX.thenN <| WC.seq <| WC.seq <| WC.region <| sv (vaI rfl) <| WL.nil <| WX.thenN <| WC.block <| ?_
  refine WC.loop (ι := NtI) (fun i => [(4, .int .i64 ((i.k : Int) + 1))]) [(0, .int _ _), (3, .pointer _)] (fun i => cel b2 [.slice i.b i.k i.c, .slice none 0 0, .slice none 0 0, .slice none 0 0, .slice none 0 0] 70 :: row i.b i.c 1 32 (nptr (i.l.map Prod.fst)) :: hnodes i.l :: A) (fun i => i.k ≤ n ∧ i.l.map Prod.snd = startN n i.k ∧ i.k ≤ i.c) (fun i => n - i.k) (⟨0, [], none, 0⟩) (⟨Nat.zero_le _, rfl, Nat.zero_le _⟩) ⟨rfl, trivial⟩ ⟨rfl, rfl, trivial⟩ (fun w h => (h.intro_emp).intro_row_nil.pk2) ?_
  rintro ⟨k, l, lb, lc⟩ ⟨hk, hl, hlc⟩ ρh
  dsimp only at hk hl hlc ⊢
  have hll : l.length = k := by have := congrArg List.length hl; rwa [List.length_map, startN_length] at this
  refine WC.seq <| WC.seq <| WC.region <| sv (vmI rfl) <| sv (vmI rfl) <| sv (vle rfl rfl) <| WL.nil <| WX.thenN <| ?_
  refine WC.ite rfl (fun h1 => ?_) (fun h1 => ?_)
  · -- then
    have hkn : k < n := by omega
    have hll2 : (nptr (l.map Prod.fst)).length = k := by rw [nptr_length, List.length_map, hll]
    refine WC.skip <| WX.thenN <| WC.seq <| WC.block <| WC.seq <| WC.region <| sv (vmI rfl) <| sv (vmI rfl) <| sv (vbd (ps := []) (cs := [_, _, _]) bt24 zt24 rfl (by rfl)) <| clx (by repeat' (first | with_reducible exact Sb.all | exact Sb.nil | (apply Sb.cons; focus (first | ((repeat (first | with_reducible exact Tk.here | with_reducible apply Tk.there)); done) | ((repeat (first | exact Tk.here | apply Tk.there)); done))) | apply Sb.drop)) (raft_new (l := []) (hR := ⟨RdC.nil⟩) (by decide) (start_ok hn hkn)) ct10 rfl fun r4 hr4 => ?_
    refine sv vmv <| sv (vex rfl rfl) <| sv (vex rfl rfl) <| sv (vaP rfl) <| sv (vaI rfl) <| WL.nil <| WX.thenN <| WC.seq <| ?_
    refine WC.cutS [(26, .bool false)] [(0, .int _ _), (3, .pointer _), (4, .int _ _), (5, .pointer _)] ⟨rfl, rfl, rfl, rfl, trivial⟩ ?_ fun ρh => ?_
    · -- law.go:155
      exact WC.region <| sv (vmP rfl) <| sv (vpeqF Try.underlying32 rfl rfl) <| sv (vmB rfl) <| svg rfl (vmI rfl) <| svg rfl (vne rfl rfl) <| sv (vpkf rfl) <| WL.nil <| WX.mid () trivial ⟨rfl, trivial⟩ ⟨rfl, rfl, rfl, rfl, trivial⟩ (fun _ h => Sb.own (by repeat' (first | with_reducible exact Sb.all | exact Sb.nil | (apply Sb.cons; focus (first | ((repeat (first | with_reducible exact Tk.here | with_reducible apply Tk.there)); done) | ((repeat (first | exact Tk.here | apply Tk.there)); done))) | apply Sb.drop)) h)
    refine WC.ff rfl ?_
    refine WC.skip <| WX.thenN <| WC.region <| sv (vmP rfl) <| sv (vmP rfl) <| sv (vnil rfl) <| sv (vfldpz fl70f0 rfl) <| sv (vldc pl66 rfl) <| sv (vmP rfl) <| pm (fun _ h => Sb.own (by repeat' (first | with_reducible exact Sb.all | exact Sb.nil | (apply Sb.cons; focus (first | ((repeat (first | with_reducible exact Tk.here | with_reducible apply Tk.there)); done) | ((repeat (first | exact Tk.here | apply Tk.there)); done))) | apply Sb.drop)) h) <| ap1 (v := .pointer _) (vs := nptr (l.map Prod.fst)) Try.underlying66 zt32 rfl (fun _ => rfl) (fun _ => rfl) rfl rfl rfl (by omega) (by simp only [maxLen]; omega) (by omega) fun _ base8 c8 hc8 => ?_
    refine sv (vnil rfl) <| sv (vfldpz fl70f0 rfl) <| stp (v := .slice _ _ _) pl66 sz66 rfl rfl rfl <| WL.nil <| WX.blockN <| WX.thenN <| WC.region <| sv (vmI rfl) <| sv (vadd rfl rfl (by omega)) <| sv (vaI rfl) <| WL.nil <| WX.again (⟨k + 1, l ++ [(r4, newR ((k : Int) + 1) n 0 0 [])], base8, c8⟩) (⟨by show k + 1 ≤ n; omega, by show (l ++ [(r4, newR ((k : Int) + 1) n 0 0 [])]).map Prod.snd = startN n (k + 1); rw [List.map_append, hl, startN_snoc]; rfl, by show k + 1 ≤ c8; omega⟩) (by show n - (k + 1) < n - k; omega) ⟨rfl, trivial⟩ ⟨rfl, rfl, trivial⟩ (fun w h => ?_)
    have h2 : Own w0 (hnode r4 (newR ((k : Int) + 1) n 0 0 []) :: hnodes l :: _) w := Sb.own (by repeat' (first | with_reducible exact Sb.all | exact Sb.nil | (apply Sb.cons; focus (first | ((repeat (first | with_reducible exact Tk.here | with_reducible apply Tk.there)); done) | ((repeat (first | exact Tk.here | apply Tk.there)); done))) | apply Sb.drop)) h
    have h3 := hnodes_snoc (q := (r4, newR ((k : Int) + 1) n 0 0 [])) h2
    show Own w0 (_ :: row base8 c8 1 32 (nptr ((l ++ [(r4, newR ((k : Int) + 1) n 0 0 [])]).map Prod.fst)) :: _) w
    rw [show nptr ((l ++ [(r4, newR ((k : Int) + 1) n 0 0 [])]).map Prod.fst) = nptr (l.map Prod.fst) ++ [.pointer (some ⟨r4, 0, none⟩)] by simp [nptr]]
    exact Sb.own (by repeat' (first | with_reducible exact Sb.all | exact Sb.nil | (apply Sb.cons; focus (first | ((repeat (first | with_reducible exact Tk.here | with_reducible apply Tk.there)); done) | ((repeat (first | exact Tk.here | apply Tk.there)); done))) | apply Sb.drop)) h3
  · -- else
    have hkn : k = n := by omega
    subst hkn
    refine WC.exit <| WX.thenE <| WX.thenE <| WX.blockH <| WX.thenN <| WC.seq <| WC.region <| sv (vmP rfl) <| sv (vaP rfl) <| WL.nil <| WX.thenN <| WC.ret <| WX.ret1 rfl ((b2, l)) (hl) rfl (fun w h => ?_)
    refine hnet_mk (b := ⟨lb, lc, none, 0, none, 0, none, 0, none, 0⟩) ⟨by show l.length ≤ lc; omega, Nat.le_refl _, Nat.le_refl _, Nat.le_refl _, Nat.le_refl _⟩ ?_
    show Own w0 (cel b2 [.slice lb l.length lc, .slice none 0 0, .slice none 0 0, .slice none 0 0, .slice none 0 0] 70 :: row lb lc 1 32 (nptr (l.map Prod.fst)) :: hnodes l :: row none 0 9 28 (mvs []) :: mrows [] :: row none 0 2 95 (ldv []) :: row none 0 2 39 (cvs []) :: row none 0 1 3 (i64s []) :: A) w
    rw [hll]
    have h2 := (((h.intro_row_nil (s := 1) (e := 3)).intro_row_nil (s := 2) (e := 39)).intro_row_nil (s := 2) (e := 95)).intro_emp
    exact Sb.own (by repeat' (first | with_reducible exact Sb.all | exact Sb.nil | (apply Sb.cons; focus (first | ((repeat (first | with_reducible exact Tk.here | with_reducible apply Tk.there)); done) | ((repeat (first | exact Tk.here | apply Tk.there)); done))) | apply Sb.drop)) (h2.intro_row_nil (s := 9) (e := 28))
theorem mvs_one (l : List Mh) : ∀ v ∈ mvs l, v.oneCell' = true := by
  intro v hv
  obtain ⟨m, _, hm⟩ := List.mem_flatMap.1 hv
  exact mv_one m v hm
theorem lost {l : List Mh} (a : Nat) : l.eraseIdx a = l.take a ++ l.drop (a + 1) := List.eraseIdx_eq_take_drop_succ _ _
theorem net_lose {w0 : World} {R : List HProp} {p a : Nat} {s : NS} {m : Mh} (hm : s.mails[a]? = some m) (hl : s.mails.length ≤ 300) :
    Fun Try.prog w0 56 [.pointer (some ⟨p, 0, none⟩), .int .i64 a] (hnet p s :: R) (Ret w0 (fun _ : Unit => True) (fun _ => .tuple #[]) (fun _ => hnet p { s with mails := s.mails.eraseIdx a } :: row m.cs.base m.cs.cap 2 39 (cvs m.cs.xs) :: R)) := by
  refine Fun.ex (fun w h => hnet_open h) ?_
  intro b hb
  dsimp only [netL, List.cons_append, List.nil_append]
  have hal : a < s.mails.length := (List.getElem?_eq_some_iff.1 hm).1
  have hlen : (s.mails.eraseIdx a).length = s.mails.length - 1 := List.length_eraseIdx_of_lt hal
  have hbm := hb.m
  refine Fun.enter Try.func56 rfl Try.ntmps56 rfl ?_
  refine WC.seq <| WC.seq <| WC.region <| sv (vmI rfl) <| sv (veq rfl rfl) <| WL.nil <| WX.thenN <| ?_
  refine WC.ite rfl (fun h1 => ?_) (fun h1 => ?_)
  · -- then
    have ha0 : a = 0 := by omega
    subst ha0
    refine WC.seq <| WC.region <| sv (vmP rfl) <| sv (vmP rfl) <| sv (vnil rfl) <| sv (vfldp fl70f1 rfl) <| sv (vldc pl43 rfl) <| sv (vslL Try.underlying43 sz28 rfl rfl (by omega) (by omega)) <| sv (vnil rfl) <| sv (vfldp fl70f1 rfl) <| stp (v := .slice _ _ _) pl43 sz43 rfl rfl rfl <| WL.nil <| WX.thenN <| WC.ret <| WX.thenR <| WX.ret0 rfl (()) (trivial) rfl (fun w h => ?_)
    have h2 : Own w0 (mrows s.mails :: _) w := Sb.own (by repeat' (first | with_reducible exact Sb.all | exact Sb.nil | (apply Sb.cons; focus (first | ((repeat (first | with_reducible exact Tk.here | with_reducible apply Tk.there)); done) | ((repeat (first | exact Tk.here | apply Tk.there)); done))) | apply Sb.drop)) h
    have h3 := mrows_cut hm h2
    have h4 := Own.row_drop (k := 1) (s := 9) (e := 28) (vs := mvs s.mails) (base := b.mb) (c := b.mc) (by omega) (Own.sp2 (by repeat' (first | exact Spl.nil | (apply Spl.cons; focus (first | ((repeat (first | with_reducible exact Tk.here | with_reducible apply Tk.there)); done) | ((repeat (first | exact Tk.here | apply Tk.there)); done))))) h3)
    rw [show (mvs s.mails).drop (1 * 9) = mvs (s.mails.eraseIdx 0) by rw [mvs_drop, List.eraseIdx_zero]; cases s.mails <;> rfl] at h4
    refine hnet_mk (b := { b with mb := slB b.mb 1 b.mc 9, mc := b.mc - 1 }) ⟨hb.l, by show (s.mails.eraseIdx 0).length ≤ b.mc - 1; omega, hb.g, hb.d, hb.s⟩ ?_
    show Own w0 (cel p [.slice b.lb s.nodes.length b.lc, .slice (slB b.mb 1 b.mc 9) (s.mails.eraseIdx 0).length (b.mc - 1), .slice b.gb s.led.length b.gc, .slice b.db s.done.length b.dc, .slice b.sb s.seen.length b.sc] 70 :: row b.lb b.lc 1 32 (nptr (s.nodes.map Prod.fst)) :: hnodes s.nodes :: row (slB b.mb 1 b.mc 9) (b.mc - 1) 9 28 (mvs (s.mails.eraseIdx 0)) :: mrows (s.mails.eraseIdx 0) :: row b.gb b.gc 2 95 (ldv s.led) :: row b.db b.dc 2 39 (cvs s.done) :: row b.sb b.sc 1 3 (i64s s.seen) :: row m.cs.base m.cs.cap 2 39 (cvs m.cs.xs) :: R) w
    rw [hlen]
    exact Sb.own (by repeat' (first | with_reducible exact Sb.all | exact Sb.nil | (apply Sb.cons; focus (first | ((repeat (first | with_reducible exact Tk.here | with_reducible apply Tk.there)); done) | ((repeat (first | exact Tk.here | apply Tk.there)); done))) | apply Sb.drop)) h4
  · -- else
    have htl : (s.mails.take a).length = a := by rw [List.length_take]; omega
    have hdl : (s.mails.drop (a + 1)).length = s.mails.length - (a + 1) := by rw [List.length_drop]
    have hmt := mvs_length (s.mails.take a)
    have hmd := mvs_length (s.mails.drop (a + 1))
    refine WC.skip <| WX.thenN <| WC.seq <| WC.region <| sv (vaS rfl) <| WL.nil <| WX.thenN <| WC.seq <| WC.region <| sv (vmS rfl) <| sv (vmP rfl) <| sv (vnil rfl) <| sv (vfldp fl70f1 rfl) <| sv (vldc pl43 rfl) <| sv (vmI rfl) <| sv (vw (v' := .slice b.mb (s.mails.take a).length b.mc) (vslH Try.underlying43 sz28 rfl rfl (by omega) (by omega)) (iv' (by omega))) <| pm (fun _ h => h.intro_row_nil) <| ap (vs := []) (news := mvs (s.mails.take a)) rfl Try.underlying43 zt28 rfl rfl rfl (rfl) (by omega) (mvs_one _) (by rw [← mvs_take]; exact RdC.take (RdC.of_row (c := b.mc) (s := 9) (e := 28) (vs := mvs s.mails) (by simp)) (a * 9)) (by simp only [maxLen]; omega) (by omega) fun base6 c6 hc6 => sv (vaS rfl) <| WL.nil <| WX.thenN <| WC.region <| sv (vmP rfl) <| sv (vmS rfl) <| sv (vmP rfl) <| sv (vnil rfl) <| sv (vfldp fl70f1 rfl) <| sv (vldc pl43 rfl) <| sv (vmI rfl) <| sv (vadd rfl rfl (by omega)) <| sv (vw (v' := .slice (slB b.mb (((a : Int) + 1)).toNat b.mc 9) (s.mails.drop (a + 1)).length (b.mc - (((a : Int) + 1)).toNat)) (vslL Try.underlying43 sz28 rfl rfl (by omega) (by omega)) (iv' (by omega))) <| pm (fun _ h => Sb.own (by repeat' (first | with_reducible exact Sb.all | exact Sb.nil | (apply Sb.cons; focus (first | ((repeat (first | with_reducible exact Tk.here | with_reducible apply Tk.there)); done) | ((repeat (first | exact Tk.here | apply Tk.there)); done))) | apply Sb.drop)) h) <| ap (vs := mvs (s.mails.take a)) (news := mvs (s.mails.drop (a + 1))) rfl Try.underlying43 zt28 rfl rfl rfl (by omega) (by omega) (mvs_one _) (by have e : mvs (s.mails.drop (a + 1)) = ((mvs s.mails).drop ((((a : Int) + 1)).toNat * 9)).take (mvs (s.mails.drop (a + 1))).length := by { rw [show (((a : Int) + 1)).toNat = a + 1 by omega, mvs_drop, List.take_length] }; rw [e]; exact RdC.slice (RdC.of_row (c := b.mc) (s := 9) (e := 28) (vs := mvs s.mails) (by simp)) _ _ _ _ (fun h => by omega)) (by simp only [maxLen]; omega) (by omega) fun base10 c10 hc10 => ?_
    refine sv (vnil rfl) <| sv (vfldp fl70f1 rfl) <| stp (v := .slice _ _ _) pl43 sz43 rfl rfl rfl <| WL.nil <| WX.end0 rfl (()) (trivial) rfl (fun w h => ?_)
    have h2 : Own w0 (mrows s.mails :: _) w := Sb.own (by repeat' (first | with_reducible exact Sb.all | exact Sb.nil | (apply Sb.cons; focus (first | ((repeat (first | with_reducible exact Tk.here | with_reducible apply Tk.there)); done) | ((repeat (first | exact Tk.here | apply Tk.there)); done))) | apply Sb.drop)) h
    have h3 := mrows_cut hm h2
    refine hnet_mk (b := { b with mb := base10, mc := c10 }) ⟨hb.l, by show (s.mails.eraseIdx a).length ≤ c10; omega, hb.g, hb.d, hb.s⟩ ?_
    show Own w0 (cel p [.slice b.lb s.nodes.length b.lc, .slice base10 (s.mails.eraseIdx a).length c10, .slice b.gb s.led.length b.gc, .slice b.db s.done.length b.dc, .slice b.sb s.seen.length b.sc] 70 :: row b.lb b.lc 1 32 (nptr (s.nodes.map Prod.fst)) :: hnodes s.nodes :: row base10 c10 9 28 (mvs (s.mails.eraseIdx a)) :: mrows (s.mails.eraseIdx a) :: row b.gb b.gc 2 95 (ldv s.led) :: row b.db b.dc 2 39 (cvs s.done) :: row b.sb b.sc 1 3 (i64s s.seen) :: row m.cs.base m.cs.cap 2 39 (cvs m.cs.xs) :: R) w
    rw [show (s.mails.eraseIdx a).length = 0 + (s.mails.take a).length + (s.mails.drop (a + 1)).length by omega, show mvs (s.mails.eraseIdx a) = mvs (s.mails.take a) ++ mvs (s.mails.drop (a + 1)) by rw [lost]; simp [mvs]]
    exact Sb.own (by repeat' (first | with_reducible exact Sb.all | exact Sb.nil | (apply Sb.cons; focus (first | ((repeat (first | with_reducible exact Tk.here | with_reducible apply Tk.there)); done) | ((repeat (first | exact Tk.here | apply Tk.there)); done))) | apply Sb.drop)) h3

def comeN (s : NS) (a j : Nat) (q : Nat × Rn) (m : Ml) (st : Bool) (l : List Mh) : NS := { s with nodes := s.nodes.set j (q.1, (takeS q.2 m).1), mails := sendN (if st then s.mails else s.mails.eraseIdx a) l }
abbrev netL2 (p j : Nat) (q : Nat × Rn) (s : NS) (b : NB) (A : List HProp) : List HProp := hnode q.1 q.2 :: hnodes (s.nodes.eraseIdx j) :: cel p (ncel s b) 70 :: row b.lb b.lc 1 32 (nptr (s.nodes.map Prod.fst)) :: row b.mb b.mc 9 28 (mvs s.mails) :: mrows s.mails :: row b.gb b.gc 2 95 (ldv s.led) :: row b.db b.dc 2 39 (cvs s.done) :: row b.sb b.sc 1 3 (i64s s.seen) :: A
theorem hnet_at {w0 w : World} {p j : Nat} {s : NS} {q : Nat × Rn} {A : List HProp} (hq : s.nodes[j]? = some q) (H : Own w0 (hnet p s :: A) w) : ∃ b, NW s b ∧ Own w0 (netL2 p j q s b A) w := by
  obtain ⟨b, hw, h⟩ := hnet_open H
  dsimp only [netL, List.cons_append, List.nil_append] at h
  have h2 : Own w0 (hnodes s.nodes :: _) w := Sb.own (by repeat' (first | with_reducible exact Sb.all | exact Sb.nil | (apply Sb.cons; focus (first | ((repeat (first | with_reducible exact Tk.here | with_reducible apply Tk.there)); done) | ((repeat (first | exact Tk.here | apply Tk.there)); done))) | apply Sb.drop)) h
  have h3 := hnodes_out hq (Own.sp1 (by repeat' (first | exact Spl.nil | (apply Spl.cons; focus (first | ((repeat (first | with_reducible exact Tk.here | with_reducible apply Tk.there)); done) | ((repeat (first | exact Tk.here | apply Tk.there)); done))))) h)
  exact ⟨b, hw, Sb.own (by repeat' (first | with_reducible exact Sb.all | exact Sb.nil | (apply Sb.cons; focus (first | ((repeat (first | with_reducible exact Tk.here | with_reducible apply Tk.there)); done) | ((repeat (first | exact Tk.here | apply Tk.there)); done))) | apply Sb.drop)) h3⟩
theorem hnet_back {w0 w : World} {p j : Nat} {s : NS} {q : Nat × Rn} {y : Rn} {b : NB} {A : List HProp} (hq : s.nodes[j]? = some q) (hw : NW s b) (H : Own w0 (netL2 p j (q.1, y) s b A) w) : Own w0 (hnet p { s with nodes := s.nodes.set j (q.1, y) } :: A) w := by
  have h2 := hnodes_in (y := y) hq (Own.sp2 (by repeat' (first | exact Spl.nil | (apply Spl.cons; focus (first | ((repeat (first | with_reducible exact Tk.here | with_reducible apply Tk.there)); done) | ((repeat (first | exact Tk.here | apply Tk.there)); done))))) H)
  have e1 : (s.nodes.set j (q.1, y)).length = s.nodes.length := List.length_set
  have e2 : (s.nodes.set j (q.1, y)).map Prod.fst = s.nodes.map Prod.fst := by
    rw [List.map_set]
    apply List.ext_getElem?
    intro k
    rw [List.getElem?_set]
    split
    · rename_i hk; subst hk
      rw [List.getElem?_map, hq]
      split
      · rfl
      · rename_i hn; exact absurd (by rw [List.length_map]; exact (List.getElem?_eq_some_iff.1 hq).1) hn
    · rfl
  refine hnet_mk (b := b) ⟨by show (s.nodes.set j (q.1, y)).length ≤ b.lc; rw [e1]; exact hw.l, hw.m, hw.g, hw.d, hw.s⟩ ?_
  show Own w0 (cel p [.slice b.lb (s.nodes.set j (q.1, y)).length b.lc, .slice b.mb s.mails.length b.mc, .slice b.gb s.led.length b.gc, .slice b.db s.done.length b.dc, .slice b.sb s.seen.length b.sc] 70 :: row b.lb b.lc 1 32 (nptr ((s.nodes.set j (q.1, y)).map Prod.fst)) :: hnodes (s.nodes.set j (q.1, y)) :: row b.mb b.mc 9 28 (mvs s.mails) :: mrows s.mails :: row b.gb b.gc 2 95 (ldv s.led) :: row b.db b.dc 2 39 (cvs s.done) :: row b.sb b.sc 1 3 (i64s s.seen) :: A) w
  rw [e1, e2]
  exact Sb.own (by repeat' (first | with_reducible exact Sb.all | exact Sb.nil | (apply Sb.cons; focus (first | ((repeat (first | with_reducible exact Tk.here | with_reducible apply Tk.there)); done) | ((repeat (first | exact Tk.here | apply Tk.there)); done))) | apply Sb.drop)) h2
theorem net_come {w0 : World} {R : List HProp} {p a j : Nat} {s : NS} {m : Mh} {q : Nat × Rn} {st : Bool} (hm : s.mails[a]? = some m) (hl : s.mails.length ≤ 300) (hn : s.nodes.length ≤ 5) (hto : m.to_ = (j : Int) + 1) (hq : s.nodes[j]? = some q) (hx : RInv q.2) :
    Fun Try.prog w0 57 [.pointer (some ⟨p, 0, none⟩), .int .i64 a, .bool st] (hnet p s :: R) (Ret w0 (fun l : List Mh => l.map Mh.ml = (takeS q.2 m.ml).2) (fun _ => .bool true) (fun l => hnet p (comeN s a j q m.ml st l) :: R)) := by
  refine Fun.ex (fun w h => hnet_open h) ?_
  intro b hb
  dsimp only [netL, List.cons_append, List.nil_append]
  have hal : a < s.mails.length := (List.getElem?_eq_some_iff.1 hm).1
  have hjl : j < s.nodes.length := (List.getElem?_eq_some_iff.1 hq).1
  have hbm := hb.m
  have hbl := hb.l
  have hmv := mvs_length s.mails
  have hpos : 0 < (mvs s.mails).length := by omega
  have hag : ((mvs s.mails).drop (((a : Int)).toNat * 9)).take 9 = mv m := by rw [Int.toNat_natCast]; exact mvs_take9 hm
  have hnp : (nptr (s.nodes.map Prod.fst))[((j : Int)).toNat]? = some (.pointer (some ⟨q.1, 0, none⟩)) := nptr_at (by rw [List.getElem?_map, hq]; rfl)
  have hln : (nptr (s.nodes.map Prod.fst)).length = s.nodes.length := by rw [nptr_length, List.length_map]
  refine Fun.known (fun w h => mrows_big (ms := s.mails) (Sb.own (by repeat' (first | with_reducible exact Sb.all | exact Sb.nil | (apply Sb.cons; focus (first | ((repeat (first | with_reducible exact Tk.here | with_reducible apply Tk.there)); done) | ((repeat (first | exact Tk.here | apply Tk.there)); done))) | apply Sb.drop)) h : Own w0 (mrows s.mails :: R) w) m (List.mem_of_getElem? hm)) fun hbig => ?_
  refine Fun.known (fun w h => mrows_cap (ms := s.mails) (Sb.own (by repeat' (first | with_reducible exact Sb.all | exact Sb.nil | (apply Sb.cons; focus (first | ((repeat (first | with_reducible exact Tk.here | with_reducible apply Tk.there)); done) | ((repeat (first | exact Tk.here | apply Tk.there)); done))) | apply Sb.drop)) h : Own w0 (mrows s.mails :: R) w) m (List.mem_of_getElem? hm)) fun hcap => ?_
  refine Fun.enter Try.func57 rfl Try.ntmps57 rfl ?_
  refine WC.known (fun w h => rsome (base := b.mb) hpos (RdC.of_row (c := b.mc) (s := 9) (e := 28) (by simp)) h) fun hb0 => ?_
  refine WC.seq <| WC.region <| sv (vaB rfl) <| WL.nil <| WX.thenN <| WC.seq <| WC.region <| sv (vmP rfl) <| sv (vnil rfl) <| sv (vfldp fl70f1 rfl) <| sv (vldc pl43 rfl) <| sv (vmI rfl) <| sv (vix Try.underlying43 sz28 rfl rfl (by omega) (by omega) (RdC.of_row (c := b.mc) (s := 9) (e := 28) (vs := mvs s.mails) (by simp)) hpos) <| sv (vlda ag28 sz28 rfl (RdC.of_row (c := b.mc) (s := 9) (e := 28) (vs := mvs s.mails) (by simp)) hag rfl (by decide)) <| alz (cs := [.int .i64 0, .int .i64 0, .int .i64 0, .int .i64 0, .int .i64 0, .int .i64 0, .int .i64 0, .bool false, .slice none 0 0]) zt28 (by rfl) fun b4 => stAp sz28 rfl rfl rfl (by intro v hv; simp only [List.mem_cons, List.not_mem_nil, or_false] at hv; rcases hv with rfl | rfl | rfl | rfl | rfl | rfl | rfl | rfl | rfl <;> rfl) rfl <| WL.nil <| WX.thenN <| WC.seq <| ?_
  refine WC.cutS [(27, .bool false)] [(0, .pointer _), (1, .int _ _), (2, .bool _), (7, _)] ⟨rfl, rfl, rfl, rfl, trivial⟩ ?_ fun ρh => ?_
  · -- law.go:180
    exact WC.draws rfl (by kernel_rfl) <| qv (vfldp fl28f2 rfl) <| qv (vldc pl3 rfl) <| qv (vF (vlt rfl rfl) (by omega)) <| qv (vmB rfl) <| qvg rfl (vfldp fl28f2 rfl) <| qvg rfl (vldc pl3 rfl) <| qvg rfl (vmP rfl) <| qvg rfl (vnil rfl) <| qvg rfl (vfldpz fl70f0 rfl) <| qvg rfl (vldc pl66 rfl) <| qvg rfl (vlen Try.underlying66 rfl) <| qvg rfl (vF (vgt rfl rfl) (by omega)) <| qv (vpkf rfl) <| WQ.nil <| WX.mid () trivial ⟨rfl, trivial⟩ ⟨rfl, rfl, rfl, rfl, trivial⟩ (fun _ h => Sb.own (by repeat' (first | with_reducible exact Sb.all | exact Sb.nil | (apply Sb.cons; focus (first | ((repeat (first | with_reducible exact Tk.here | with_reducible apply Tk.there)); done) | ((repeat (first | exact Tk.here | apply Tk.there)); done))) | apply Sb.drop)) h)
  refine WC.ff rfl ?_
  refine WC.skip <| WX.thenN <| WC.seq <| WC.seq <| WC.region <| sv (vmB rfl) <| sv (vnot rfl) <| WL.nil <| WX.thenN <| ?_
  refine WC.iteb rfl (fun h2 => ?_) (fun h2 => ?_)
  · -- then
    have hst : st = false := by cases st <;> simp_all
    subst hst
    have hel : (s.mails.eraseIdx a).length = s.mails.length - 1 := List.length_eraseIdx_of_lt hal
    refine WC.perm (A' := hnet p s :: cel b4 (mv m) 28 :: R) ?_ (fun w h => hnet_mk hb (Sb.own (by repeat' (first | with_reducible exact Sb.all | exact Sb.nil | (apply Sb.cons; focus (first | ((repeat (first | with_reducible exact Tk.here | with_reducible apply Tk.there)); done) | ((repeat (first | exact Tk.here | apply Tk.there)); done))) | apply Sb.drop)) h))
    refine WC.region <| sv (vmP rfl) <| sv (vmI rfl) <| clx (by repeat' (first | with_reducible exact Sb.all | exact Sb.nil | (apply Sb.cons; focus (first | ((repeat (first | with_reducible exact Tk.here | with_reducible apply Tk.there)); done) | ((repeat (first | exact Tk.here | apply Tk.there)); done))) | apply Sb.drop)) (net_lose hm hl) ct56 rfl fun r9 hr9 => ?_
    obtain ⟨s2, hs2⟩ : ∃ s2 : NS, s2 = { s with mails := s.mails.eraseIdx a } := ⟨_, rfl⟩
    have hq2 : s2.nodes[j]? = some q := by rw [hs2]; exact hq
    refine WL.ex (B := fun b' => netL2 p j q s2 b' (row m.cs.base m.cs.cap 2 39 (cvs m.cs.xs) :: cel b4 (mv m) 28 :: R)) (fun w h => hnet_at hq2 (by rw [hs2]; exact h)) ?_
    intro b' hb'
    dsimp only [netL2]
    have hsl2 : s2.nodes.length = s.nodes.length := by rw [hs2]
    have hsm2 : s2.mails.length ≤ 300 := by rw [hs2]; show (s.mails.eraseIdx a).length ≤ 300; omega
    have hsp2 : s2.nodes.map Prod.fst = s.nodes.map Prod.fst := by rw [hs2]
    have hin : s2.mails = if false then s.mails else s.mails.eraseIdx a := by rw [hs2]; rfl
    have hfin : ∀ l, { s2 with nodes := s2.nodes.set j (q.1, (takeS q.2 m.ml).1), mails := sendN s2.mails l } = comeN s a j q m.ml false l := fun l => by rw [hs2]; rfl
    rw [hsp2]
    refine WL.nil <| WX.thenN <| WC.seq <| WC.plan (.pre [1, 2, 3, 4, 5, 6, 7, 8, 9, 10] (.one [0] 11 (.bar [] 12 (.done [])))) rfl (by kernel_rfl) <| WPl.preC <| dv (fun g => (vmP rfl)) <| dv (fun g => (vnil rfl)) <| dv (fun g => (vfldpz fl70f0 rfl)) <| dv (fun g => (vldc pl66 rfl)) <| dv (fun g => (vfldp fl28f2 rfl)) <| dv (fun g => (vldc pl3 rfl)) <| dv (fun g => (vw (v' := .int .i64 (j : Int)) (vsub rfl rfl (by omega)) (iv (by omega)))) <| dv (fun g => (vix1 Try.underlying66 sz32 rfl rfl (by omega) (by omega) (RdC.of_row (c := b'.lc) (s := 1) (e := 32) (vs := nptr (s.nodes.map Prod.fst)) (by simp)) (by omega))) <| dv (fun g => (vldo pl32 rfl (RdC.of_row (c := b'.lc) (s := 1) (e := 32) (vs := nptr (s.nodes.map Prod.fst)) (by simp)) hnp)) <| dv (fun g => (vldac ag28 sz28 rfl rfl (by decide))) <| WD.nil <| WPl.oneX [_, _, _, _, _, _, _, _, _, _, _] (by repeat' (first | exact Spl.nil | (apply Spl.cons; focus (first | ((repeat (first | with_reducible exact Tk.here | with_reducible apply Tk.there)); done) | ((repeat (first | exact Tk.here | apply Tk.there)); done))))) (fun g => by infer_instance) ?_
    refine dv (fun g => (vmP rfl)) <| WD.eff rfl <| clx (by repeat' (first | with_reducible exact Sb.all | exact Sb.nil | (apply Sb.cons; focus (first | ((repeat (first | with_reducible exact Tk.here | with_reducible apply Tk.there)); done) | ((repeat (first | exact Tk.here | apply Tk.there)); done))) | apply Sb.drop)) (raft_take (x := q.2) (m := m) hx hbig hcap (hR := ⟨by first | (apply RdC.of_row (c := m.cs.cap) (s := 2) (e := 39); simp; done) | exact mrows_rd (ms := s2.mails) (by simp) hmem2⟩)) ct17 rfl fun r16 hr16 => ?_
    obtain ⟨rb, rc, rl⟩ := r16
    dsimp only at hr16 ⊢
    refine WL.known (fun w h => (mails_big (ms := rl) h).1) fun hrl => ?_
    refine WL.perm (A' := hnet p { s2 with nodes := s2.nodes.set j (q.1, (takeS q.2 m.ml).1) } :: row rb rc 9 28 (mvs rl) :: mrows rl :: R) ?_ (fun w h => hnet_back hq2 hb' (by dsimp only [netL2]; rw [hsp2]; exact Sb.own (by repeat' (first | with_reducible exact Sb.all | exact Sb.nil | (apply Sb.cons; focus (first | ((repeat (first | with_reducible exact Tk.here | with_reducible apply Tk.there)); done) | ((repeat (first | exact Tk.here | apply Tk.there)); done))) | apply Sb.drop)) h))
    refine WL.nil <| WX.br <| WPl.barC <| WD.eff rfl <| clx (by repeat' (first | with_reducible exact Sb.all | exact Sb.nil | (apply Sb.cons; focus (first | ((repeat (first | with_reducible exact Tk.here | with_reducible apply Tk.there)); done) | ((repeat (first | exact Tk.here | apply Tk.there)); done))) | apply Sb.drop)) (net_send (s := { s2 with nodes := s2.nodes.set j (q.1, (takeS q.2 m.ml).1) }) hsm2 hrl) ct55 rfl fun r17 hr17 => ?_
    exact WL.nil <| WX.brT <| WPl.finC <| WD.nil <| WX.thenN <| WC.seq <| WC.region <| sv (vaB rfl) <| WL.nil <| WX.thenN <| WC.ret <| WX.ret1 rfl (rl) (hr16.1) rfl (fun w h => by rw [← hfin]; exact Sb.own (by repeat' (first | with_reducible exact Sb.all | exact Sb.nil | (apply Sb.cons; focus (first | ((repeat (first | with_reducible exact Tk.here | with_reducible apply Tk.there)); done) | ((repeat (first | exact Tk.here | apply Tk.there)); done))) | apply Sb.drop)) h)
  · -- else
    have hst : st = true := by cases st <;> simp_all
    subst hst
    obtain ⟨s2, hs2⟩ : ∃ s2 : NS, s2 = s := ⟨_, rfl⟩
    have hq2 : s2.nodes[j]? = some q := by rw [hs2]; exact hq
    refine WC.ex (B := fun b' => netL2 p j q s2 b' (cel b4 (mv m) 28 :: R)) (fun w h => hnet_at hq2 (by rw [hs2]; exact hnet_mk hb (Sb.own (by repeat' (first | with_reducible exact Sb.all | exact Sb.nil | (apply Sb.cons; focus (first | ((repeat (first | with_reducible exact Tk.here | with_reducible apply Tk.there)); done) | ((repeat (first | exact Tk.here | apply Tk.there)); done))) | apply Sb.drop)) h))) ?_
    intro b' hb'
    dsimp only [netL2]
    have hsl2 : s2.nodes.length = s.nodes.length := by rw [hs2]
    have hsm2 : s2.mails.length ≤ 300 := by rw [hs2]; exact hl
    have hsp2 : s2.nodes.map Prod.fst = s.nodes.map Prod.fst := by rw [hs2]
    have hmem2 : m ∈ s2.mails := by rw [hs2]; exact List.mem_of_getElem? hm
    have hfin : ∀ l, { s2 with nodes := s2.nodes.set j (q.1, (takeS q.2 m.ml).1), mails := sendN s2.mails l } = comeN s a j q m.ml true l := fun l => by rw [hs2]; rfl
    rw [hsp2]
    refine WC.skip <| WX.thenN <| WC.seq <| WC.plan (.pre [1, 2, 3, 4, 5, 6, 7, 8, 9, 10] (.one [0] 11 (.bar [] 12 (.done [])))) rfl (by kernel_rfl) <| WPl.preC <| dv (fun g => (vmP rfl)) <| dv (fun g => (vnil rfl)) <| dv (fun g => (vfldpz fl70f0 rfl)) <| dv (fun g => (vldc pl66 rfl)) <| dv (fun g => (vfldp fl28f2 rfl)) <| dv (fun g => (vldc pl3 rfl)) <| dv (fun g => (vw (v' := .int .i64 (j : Int)) (vsub rfl rfl (by omega)) (iv (by omega)))) <| dv (fun g => (vix1 Try.underlying66 sz32 rfl rfl (by omega) (by omega) (RdC.of_row (c := b'.lc) (s := 1) (e := 32) (vs := nptr (s.nodes.map Prod.fst)) (by simp)) (by omega))) <| dv (fun g => (vldo pl32 rfl (RdC.of_row (c := b'.lc) (s := 1) (e := 32) (vs := nptr (s.nodes.map Prod.fst)) (by simp)) hnp)) <| dv (fun g => (vldac ag28 sz28 rfl rfl (by decide))) <| WD.nil <| WPl.oneX [_, _, _, _, _, _, _, _, _, _] (by repeat' (first | exact Spl.nil | (apply Spl.cons; focus (first | ((repeat (first | with_reducible exact Tk.here | with_reducible apply Tk.there)); done) | ((repeat (first | exact Tk.here | apply Tk.there)); done))))) (fun g => by infer_instance) ?_
    refine dv (fun g => (vmP rfl)) <| WD.eff rfl <| clx (by repeat' (first | with_reducible exact Sb.all | exact Sb.nil | (apply Sb.cons; focus (first | ((repeat (first | with_reducible exact Tk.here | with_reducible apply Tk.there)); done) | ((repeat (first | exact Tk.here | apply Tk.there)); done))) | apply Sb.drop)) (raft_take (x := q.2) (m := m) hx hbig hcap (hR := ⟨by first | (apply RdC.of_row (c := m.cs.cap) (s := 2) (e := 39); simp; done) | exact mrows_rd (ms := s2.mails) (by simp) hmem2⟩)) ct17 rfl fun r16 hr16 => ?_
    obtain ⟨rb, rc, rl⟩ := r16
    dsimp only at hr16 ⊢
    refine WL.known (fun w h => (mails_big (ms := rl) h).1) fun hrl => ?_
    refine WL.perm (A' := hnet p { s2 with nodes := s2.nodes.set j (q.1, (takeS q.2 m.ml).1) } :: row rb rc 9 28 (mvs rl) :: mrows rl :: R) ?_ (fun w h => hnet_back hq2 hb' (by dsimp only [netL2]; rw [hsp2]; exact Sb.own (by repeat' (first | with_reducible exact Sb.all | exact Sb.nil | (apply Sb.cons; focus (first | ((repeat (first | with_reducible exact Tk.here | with_reducible apply Tk.there)); done) | ((repeat (first | exact Tk.here | apply Tk.there)); done))) | apply Sb.drop)) h))
    refine WL.nil <| WX.br <| WPl.barC <| WD.eff rfl <| clx (by repeat' (first | with_reducible exact Sb.all | exact Sb.nil | (apply Sb.cons; focus (first | ((repeat (first | with_reducible exact Tk.here | with_reducible apply Tk.there)); done) | ((repeat (first | exact Tk.here | apply Tk.there)); done))) | apply Sb.drop)) (net_send (s := { s2 with nodes := s2.nodes.set j (q.1, (takeS q.2 m.ml).1) }) hsm2 hrl) ct55 rfl fun r17 hr17 => ?_
    exact WL.nil <| WX.brT <| WPl.finC <| WD.nil <| WX.thenN <| WC.seq <| WC.region <| sv (vaB rfl) <| WL.nil <| WX.thenN <| WC.ret <| WX.ret1 rfl (rl) (hr16.1) rfl (fun w h => by rw [← hfin]; exact Sb.own (by repeat' (first | with_reducible exact Sb.all | exact Sb.nil | (apply Sb.cons; focus (first | ((repeat (first | with_reducible exact Tk.here | with_reducible apply Tk.there)); done) | ((repeat (first | exact Tk.here | apply Tk.there)); done))) | apply Sb.drop)) h)
end Go.Proofs.Ytekoilhjlofncaa
