/-
  Layer 19: nodes and the mails on their way, as a chunk of memory.
-/
import Derived.Test.YtekoilhjlofncaaRaftLawB
import Derived.Test.YtekoilhjlofncaaRaftKeep
set_option linter.unusedVariables false
set_option linter.unusedSimpArgs false
set_option maxRecDepth 4000
namespace Go.Proofs.Ytekoilhjlofncaa
open Go.Sl Go.RowKit Go.Raft

theorem Own.seps {w0 w : World} : ∀ {l A : List HProp}, Own w0 (Sl.seps l :: A) w → Own w0 (l ++ A) w
  | [], A, H => H.tail
  | X :: l, A, H => by
    have h1 := H.star.pk1
    exact ((Own.seps (l := l) (A := X :: A) h1).perm (List.perm_middle))
theorem Own.intro_seps {w0 w : World} : ∀ {l A : List HProp}, Own w0 (l ++ A) w → Own w0 (Sl.seps l :: A) w
  | [], A, H => H.intro_emp
  | X :: l, A, H => by
    have h1 : Own w0 (l ++ X :: A) w := H.perm (List.perm_middle (l₁ := l)).symm
    exact ((Own.intro_seps (l := l) (A := X :: A) h1).pk1).intro_star
def nptr (l : List Nat) : List Value := l.map fun p => .pointer (some ⟨p, 0, none⟩)
@[simp] theorem nptr_length (l : List Nat) : (nptr l).length = l.length := by simp [nptr]
theorem nptr_at {l : List Nat} {i p : Nat} (h : l[i]? = some p) : (nptr l)[((i : Int)).toNat]? = some (.pointer (some ⟨p, 0, none⟩)) := by simp [nptr, h]
def hnodes : List (Nat × Rn) → HProp
  | [] => emp
  | q :: l => star (hnode q.1 q.2) (hnodes l)
theorem hnodes_out {w0 w : World} : ∀ {l : List (Nat × Rn)} {j : Nat} {q : Nat × Rn} {A : List HProp}, l[j]? = some q → Own w0 (hnodes l :: A) w → Own w0 (hnode q.1 q.2 :: hnodes (l.eraseIdx j) :: A) w
  | [], _, _, _, h, _ => by simp at h
  | y :: l, 0, x, A, h, H => by simp at h; subst h; exact H.star
  | y :: l, j + 1, x, A, h, H => by
    have h1 := H.star.pk1
    have h2 := hnodes_out (l := l) (j := j) (q := x) (by simpa using h) h1
    exact h2.pk2.pk2.pk1.intro_star.pk1
theorem hnodes_in {w0 w : World} : ∀ {l : List (Nat × Rn)} {j : Nat} {q : Nat × Rn} {y : Rn} {A : List HProp}, l[j]? = some q → Own w0 (hnode q.1 y :: hnodes (l.eraseIdx j) :: A) w → Own w0 (hnodes (l.set j (q.1, y)) :: A) w
  | [], _, _, _, _, h, _ => by simp at h
  | z :: l, 0, x, y, A, h, H => by simp at h; subst h; exact H.intro_star
  | z :: l, j + 1, x, y, A, h, H => by
    have h1 : Own w0 (star (hnode z.1 z.2) (hnodes (l.eraseIdx j)) :: hnode x.1 y :: A) w := H.pk1
    have h2 := hnodes_in (l := l) (j := j) (q := x) (y := y) (by simpa using h) (h1.star.pk1.pk2)
    exact h2.pk1.intro_star
theorem hnodes_new {w0 w : World} {p : Nat} {y : Rn} : ∀ {l : List (Nat × Rn)} {j : Nat} {q : Nat × Rn} {A : List HProp}, l[j]? = some q → Own w0 (hnode p y :: hnodes (l.eraseIdx j) :: A) w → Own w0 (hnodes (l.set j (p, y)) :: A) w
  | [], _, _, _, h, _ => by simp at h
  | z :: l, 0, x, A, h, H => H.intro_star
  | z :: l, j + 1, x, A, h, H => by
    have h1 : Own w0 (star (hnode z.1 z.2) (hnodes (l.eraseIdx j)) :: hnode p y :: A) w := H.pk1
    have h2 := hnodes_new (l := l) (j := j) (q := x) (by simpa using h) (h1.star.pk1.pk2)
    exact h2.pk1.intro_star
theorem hnodes_snoc {w0 w : World} {q : Nat × Rn} : ∀ {l : List (Nat × Rn)} {A : List HProp}, Own w0 (hnode q.1 q.2 :: hnodes l :: A) w → Own w0 (hnodes (l ++ [q]) :: A) w
  | [], A, H => H.intro_star
  | z :: l, A, H => by
    have h1 := H.pk1.star.pk1.pk2
    exact ((hnodes_snoc (l := l) (h1.ix [0, 1, 2])).ix [1, 0]).intro_star
def ldv (l : List (Int × Int)) : List Value := l.flatMap fun q => [.int .i64 q.1, .int .i64 q.2]
theorem ldv_length (l : List (Int × Int)) : (ldv l).length = l.length * 2 := flat_len (fun _ _ => rfl)
structure NS where
  nodes : List (Nat × Rn)
  mails : List Mh
  led : List (Int × Int)
  done : List Cl
  seen : List Int
structure NB where
  lb : Option Addr
  lc : Nat
  mb : Option Addr
  mc : Nat
  gb : Option Addr
  gc : Nat
  db : Option Addr
  dc : Nat
  sb : Option Addr
  sc : Nat
abbrev ncel (s : NS) (b : NB) : List Value := [.slice b.lb s.nodes.length b.lc, .slice b.mb s.mails.length b.mc, .slice b.gb s.led.length b.gc, .slice b.db s.done.length b.dc, .slice b.sb s.seen.length b.sc]
abbrev netL (p : Nat) (s : NS) (b : NB) : List HProp := [cel p (ncel s b) 70, row b.lb b.lc 1 32 (nptr (s.nodes.map Prod.fst)), hnodes s.nodes, row b.mb b.mc 9 28 (mvs s.mails), mrows s.mails, row b.gb b.gc 2 95 (ldv s.led), row b.db b.dc 2 39 (cvs s.done), row b.sb b.sc 1 3 (i64s s.seen)]
structure NW (s : NS) (b : NB) : Prop where
  l : s.nodes.length ≤ b.lc
  m : s.mails.length ≤ b.mc
  g : s.led.length ≤ b.gc
  d : s.done.length ≤ b.dc
  s : s.seen.length ≤ b.sc
def hnet (p : Nat) (s : NS) : HProp := fun h => ∃ b, NW s b ∧ Sl.seps (netL p s b) h
theorem hnet_open {w0 w : World} {p : Nat} {s : NS} {A : List HProp} (H : Own w0 (hnet p s :: A) w) : ∃ b, NW s b ∧ Own w0 (netL p s b ++ A) w := by
  obtain ⟨hb, h, ⟨h1, h2, ⟨b, hw, a⟩, a2, dd, y⟩, hw'⟩ := H
  exact ⟨b, hw, Own.seps ⟨hb, h, ⟨h1, h2, a, a2, dd, y⟩, hw'⟩⟩
theorem hnet_mk {w0 w : World} {p : Nat} {s : NS} {b : NB} {A : List HProp} (hw : NW s b) (H : Own w0 (netL p s b ++ A) w) : Own w0 (hnet p s :: A) w := (Own.intro_seps H).head fun _ h => ⟨b, hw, h⟩
def pickN (c n : Int) : Int := (if c < 0 then -(c + 1) else c) % n
theorem pickN_bound {c n : Int} (h : 1 ≤ n) : 0 ≤ pickN c n ∧ pickN c n < n := ⟨Int.emod_nonneg _ (by omega), Int.emod_lt_of_pos _ (by omega)⟩
theorem law_pick {w0 : World} {A : List HProp} {c n : Int} (hn : 1 ≤ n ∧ n ≤ 9223372036854775807) (hc : -9223372036854775808 ≤ c ∧ c ≤ 9223372036854775807) :
    Fun Try.prog w0 28 [.int .i64 c, .int .i64 n] A (Ret w0 (fun _ : Unit => True) (fun _ => .int .i64 (pickN c n)) (fun _ => A)) := by
  refine Fun.enter Try.func28 rfl Try.ntmps28 rfl ?_
  refine WC.seq <| WC.region <| sv (vaI rfl) <| WL.nil <| WX.thenN <| ?_
  refine WC.cutvS (ι := Unit) (fun i => [(0, .int .i64 (if c < 0 then -(c + 1) else c))]) [(1, .int _ _)] (fun i => True) ⟨rfl, trivial⟩ ?_ ?_
  · -- up to the join
    refine WC.seq <| WC.region <| sv (vmI rfl) <| sv (vlt rfl rfl) <| WL.nil <| WX.thenN <| ?_
    refine WC.ite rfl (fun h1 => ?_) (fun h1 => ?_)
    · -- then
      exact WC.region <| sv (vmI rfl) <| sv (vadd rfl rfl (by omega)) <| sv (vneg rfl) <| sv (vaI rfl) <| WL.nil <| WX.mid (()) (trivial) ⟨iv (by rw [if_pos h1]; show IntKind.i64.wrap (0 - (c + 1)) = -(c + 1); rw [wrap64_in (by omega)]; omega), trivial⟩ ⟨rfl, trivial⟩ (fun _ h => Sb.own (by repeat' (first | with_reducible exact Sb.all | exact Sb.nil | (apply Sb.cons; focus (first | ((repeat (first | with_reducible exact Tk.here | with_reducible apply Tk.there)); done) | ((repeat (first | exact Tk.here | apply Tk.there)); done))) | apply Sb.drop)) h)
    · -- else
      exact WC.skip <| WX.mid (()) (trivial) ⟨iv (by rw [if_neg h1]), trivial⟩ ⟨rfl, trivial⟩ (fun _ h => Sb.own (by repeat' (first | with_reducible exact Sb.all | exact Sb.nil | (apply Sb.cons; focus (first | ((repeat (first | with_reducible exact Tk.here | with_reducible apply Tk.there)); done) | ((repeat (first | exact Tk.here | apply Tk.there)); done))) | apply Sb.drop)) h)
  · -- behind the join
    intro i hi ρh
    exact WC.seq <| WC.region <| sv (vmI rfl) <| sv (vmI rfl) <| sv (vw (v' := .int .i64 (pickN c n)) (vrem rfl rfl (by omega)) (iv (by unfold pickN; split <;> exact (by rw [Int.tmod_eq_emod_of_nonneg (by omega)])))) <| sv (vaI rfl) <| WL.nil <| WX.thenN <| WC.ret <| WX.ret1 rfl (()) (trivial) rfl (fun _ h => Sb.own (by repeat' (first | with_reducible exact Sb.all | exact Sb.nil | (apply Sb.cons; focus (first | ((repeat (first | with_reducible exact Tk.here | with_reducible apply Tk.there)); done) | ((repeat (first | exact Tk.here | apply Tk.there)); done))) | apply Sb.drop)) h)
def sendN {α : Type} (ms l : List α) : List α := ms ++ l.take (300 - ms.length)
theorem mrows_app {w0 w : World} : ∀ {l k : List Mh} {A : List HProp}, Own w0 (mrows l :: mrows k :: A) w → Own w0 (mrows (l ++ k) :: A) w
  | [], k, A, H => H.tail
  | m :: l, k, A, H => by
    have h1 := H.star
    have h2 := mrows_app (l := l) (k := k) (A := row m.cs.base m.cs.cap 2 39 (cvs m.cs.xs) :: A) (h1.ix [1, 2, 0])
    exact h2.pk1.intro_star
theorem mrows_cut {w0 w : World} : ∀ {l : List Mh} {j : Nat} {m : Mh} {A : List HProp}, l[j]? = some m → Own w0 (mrows l :: A) w → Own w0 (row m.cs.base m.cs.cap 2 39 (cvs m.cs.xs) :: mrows (l.eraseIdx j) :: A) w
  | [], _, _, _, h, _ => by simp at h
  | y :: l, 0, m, A, h, H => by simp at h; subst h; exact H.star
  | y :: l, j + 1, m, A, h, H => by
    have h2 := mrows_cut (l := l) (j := j) (m := m) (by simpa using h) H.star.pk1
    exact h2.pk2.pk2.pk1.intro_star.pk1
theorem mrows_take {w0 w : World} : ∀ {l : List Mh} (i : Nat) {A : List HProp}, Own w0 (mrows l :: A) w → Own w0 (mrows (l.take i) :: A) w
  | [], i, A, H => by rw [List.take_nil]; exact H
  | m :: l, 0, A, H => H.tail.intro_emp
  | m :: l, i + 1, A, H => by
    have h1 := mrows_take (l := l) i H.star.pk1
    exact h1.pk1.intro_star
theorem net_send {w0 : World} {R : List HProp} {p lc : Nat} {lb : Option Addr} {s : NS} {l : List Mh} (hm : s.mails.length ≤ 300) (hl : l.length ≤ 9223372036854775807) :
    Fun Try.prog w0 55 [.pointer (some ⟨p, 0, none⟩), .slice lb l.length lc] (hnet p s :: row lb lc 9 28 (mvs l) :: mrows l :: R) (Ret w0 (fun _ : Unit => True) (fun _ => .tuple #[]) (fun _ => hnet p { s with mails := sendN s.mails l } :: R)) := by
  refine Fun.ex (fun w h => hnet_open h) ?_
  intro b hb
  have hlv := mvs_length l
  refine Fun.enter Try.func55 rfl Try.ntmps55 rfl ?_
  refine WC.seq <| WC.region <| sv (vaI rfl) <| WL.nil <| WX.thenN <| WC.block <| ?_
  refine WC.loop (ι := Nat × Option Addr × Nat) (fun i => [(4, .int .i64 i.1)]) [(0, .pointer _), (1, .slice _ _ _)] (fun i => cel p [.slice b.lb s.nodes.length b.lc, .slice i.2.1 (s.mails.length + i.1) i.2.2, .slice b.gb s.led.length b.gc, .slice b.db s.done.length b.dc, .slice b.sb s.seen.length b.sc] 70 :: row i.2.1 i.2.2 9 28 (mvs (s.mails ++ l.take i.1)) :: row lb lc 9 28 (mvs l) :: mrows l :: row b.lb b.lc 1 32 (nptr (s.nodes.map Prod.fst)) :: hnodes s.nodes :: mrows s.mails :: row b.gb b.gc 2 95 (ldv s.led) :: row b.db b.dc 2 39 (cvs s.done) :: row b.sb b.sc 1 3 (i64s s.seen) :: R) (fun i => i.1 ≤ l.length ∧ s.mails.length + i.1 ≤ 300 ∧ s.mails.length + i.1 ≤ i.2.2) (fun i => l.length - i.1) ((0, b.mb, b.mc)) (⟨by omega, by omega, hb.m⟩) ⟨rfl, trivial⟩ ⟨rfl, rfl, trivial⟩ (fun w h => by rw [List.take_zero, List.append_nil]; exact Sb.own (by repeat' (first | with_reducible exact Sb.all | exact Sb.nil | (apply Sb.cons; focus (first | ((repeat (first | with_reducible exact Tk.here | with_reducible apply Tk.there)); done) | ((repeat (first | exact Tk.here | apply Tk.there)); done))) | apply Sb.drop)) h) ?_
  rintro ⟨i, mb, mc⟩ ⟨hi1, hi2, hi3⟩ ρh
  dsimp only at hi1 hi2 hi3 ⊢
  refine WC.seq <| ?_
  refine WC.cutS [(16, .bool (decide ((i : Int) < l.length ∧ ((s.mails.length + i : Nat) : Int) < 300)))] [(0, .pointer _), (1, .slice _ _ _), (4, .int _ _)] ⟨rfl, rfl, rfl, trivial⟩ ?_ fun ρh => ?_
  · -- law.go:172
    refine WC.region <| sv (vmI rfl) <| sv (vmS rfl) <| sv (vlen Try.underlying43 rfl) <| svs (vlt rfl rfl) (fun q1 => ?_) (fun q1 => ?_)
    ·
      exact sv (vmB rfl) <| svg rfl (vmP rfl) <| svg rfl (vnil rfl) <| svg rfl (vfldp fl70f1 rfl) <| svg rfl (vldc pl43 rfl) <| svg rfl (vlen Try.underlying43 rfl) <| svg rfl (vlt rfl rfl) <| sv (vpkt rfl) <| WL.nil <| WX.mid () trivial ⟨bI (by first | omega | simp_all | grind), trivial⟩ ⟨rfl, rfl, rfl, trivial⟩ (fun _ h => Sb.own (by repeat' (first | with_reducible exact Sb.all | exact Sb.nil | (apply Sb.cons; focus (first | ((repeat (first | with_reducible exact Tk.here | with_reducible apply Tk.there)); done) | ((repeat (first | exact Tk.here | apply Tk.there)); done))) | apply Sb.drop)) h)
    ·
      exact sv (vmB rfl) <| sng rfl <| sng rfl <| sng rfl <| sng rfl <| sng rfl <| sng rfl <| sv (vpkf rfl) <| WL.nil <| WX.mid () trivial ⟨bF (by first | omega | simp_all | grind), trivial⟩ ⟨rfl, rfl, rfl, trivial⟩ (fun _ h => Sb.own (by repeat' (first | with_reducible exact Sb.all | exact Sb.nil | (apply Sb.cons; focus (first | ((repeat (first | with_reducible exact Tk.here | with_reducible apply Tk.there)); done) | ((repeat (first | exact Tk.here | apply Tk.there)); done))) | apply Sb.drop)) h)
  refine WC.ite rfl (fun h1 => ?_) (fun h1 => ?_)
  · -- then
    have hil : i < l.length := by omega
    have hlt : (l.take i).length = i := by rw [List.length_take]; omega
    have hmv := mvs_length (s.mails ++ l.take i)
    rw [List.length_append, hlt] at hmv
    obtain ⟨m, hm⟩ : ∃ m, l[i]? = some m := ⟨_, List.getElem?_eq_getElem hil⟩
    have hpos : 0 < (mvs l).length := by omega
    have hag : ((mvs l).drop (((i : Int)).toNat * 9)).take 9 = mv m := by rw [Int.toNat_natCast]; exact mvs_take9 hm
    refine WC.known (fun w h => rsome (base := lb) hpos (RdC.of_row (c := lc) (s := 9) (e := 28) (by simp)) h) fun hb0 => ?_
    refine WC.skip <| WX.thenN <| WC.seq <| WC.block <| WC.plan (.pre [5, 6, 7, 8] (.one [0, 1, 2, 3, 4] 9 (.one [] 10 (.bar [11, 12] 13 (.done []))))) rfl (by kernel_rfl) <| WPl.preC <| dv (fun g => (vmS rfl)) <| dv (fun g => (vmI rfl)) <| dv (fun g => (vix Try.underlying43 sz28 rfl rfl (by omega) (by omega) (RdC.of_row (c := lc) (s := 9) (e := 28) (vs := mvs l) (by simp)) hpos)) <| dv (fun g => (vlda ag28 sz28 rfl (RdC.of_row (c := lc) (s := 9) (e := 28) (vs := mvs l) (by simp)) hag rfl (by decide))) <| WD.nil <| WPl.oneX [row mb mc 9 28 (mvs (s.mails ++ l.take i))] (by repeat' (first | exact Spl.nil | (apply Spl.cons; focus (first | ((repeat (first | with_reducible exact Tk.here | with_reducible apply Tk.there)); done) | ((repeat (first | exact Tk.here | apply Tk.there)); done))))) (fun g => by infer_instance) ?_
    refine dv (fun g => (vmP rfl)) <| dv (fun g => (vmP rfl)) <| dv (fun g => (vnil rfl)) <| dv (fun g => (vfldp fl70f1 rfl)) <| dv (fun g => (vldc pl43 rfl)) <| WD.eff rfl <| bslA (v := .agg _) (cs := mv m) Try.underlying43 zt28 rfl rfl rfl (by decide) (by decide) fun b5 => WL.nil <| WX.br <| WPl.oneX [row mb mc 9 28 (mvs (s.mails ++ l.take i))] (by repeat' (first | exact Spl.nil | (apply Spl.cons; focus (first | ((repeat (first | with_reducible exact Tk.here | with_reducible apply Tk.there)); done) | ((repeat (first | exact Tk.here | apply Tk.there)); done))))) (fun g => by infer_instance) ?_
    refine WD.eff rfl <| pm (fun _ h => Sb.own (by repeat' (first | with_reducible exact Sb.all | exact Sb.nil | (apply Sb.cons; focus (first | ((repeat (first | with_reducible exact Tk.here | with_reducible apply Tk.there)); done) | ((repeat (first | exact Tk.here | apply Tk.there)); done))) | apply Sb.drop)) h) <| ap (vs := mvs (s.mails ++ l.take i)) (news := mv m) rfl Try.underlying43 zt28 rfl rfl rfl (by omega) (rfl) (mv_one _) ((RdC.of_cel (e := 28) (ws := mv m) 0 (by simp) (by simp))) (by simp only [maxLen]; omega) (by omega) fun base6 c6 hc6 => ?_
    exact WL.nil <| WX.br <| WPl.barC <| dv (fun g => (vnil rfl)) <| dv (fun g => (vfldp fl70f1 rfl)) <| WD.eff rfl <| stp (v := .slice _ _ _) pl43 sz43 rfl rfl rfl <| WL.nil <| WX.brT <| WPl.finC <| WD.nil <| WX.blockN <| WX.thenN <| WC.region <| sv (vmI rfl) <| sv (vadd rfl rfl (by omega)) <| sv (vaI rfl) <| WL.nil <| WX.again ((i + 1, base6, c6)) (⟨by omega, by omega, by omega⟩) (by omega) ⟨rfl, trivial⟩ ⟨rfl, rfl, trivial⟩ (fun w h => by rw [List.take_add_one, hm, ← List.append_assoc, Option.toList_some, mvs_snoc]; exact Sb.own (by repeat' (first | with_reducible exact Sb.all | exact Sb.nil | (apply Sb.cons; focus (first | ((repeat (first | with_reducible exact Tk.here | with_reducible apply Tk.there)); done) | ((repeat (first | exact Tk.here | apply Tk.there)); done))) | apply Sb.drop)) h)
  · -- else
    have htk : l.take i = l.take (300 - s.mails.length) := by
      rcases Nat.lt_or_ge i l.length with h2 | h2
      · rw [show i = 300 - s.mails.length by omega]
      · rw [List.take_of_length_le h2, List.take_of_length_le (by omega)]
    have hle : (sendN s.mails l).length = s.mails.length + i := by unfold sendN; rw [← htk, List.length_append, List.length_take]; omega
    refine WC.exit <| WX.thenE <| WX.thenE <| WX.blockH <| WX.end0 rfl (()) (trivial) rfl (fun w h => ?_)
    have h2 : Own w0 (mrows (l.take i) :: cel p [.slice b.lb s.nodes.length b.lc, .slice mb (s.mails.length + i) mc, .slice b.gb s.led.length b.gc, .slice b.db s.done.length b.dc, .slice b.sb s.seen.length b.sc] 70 :: row mb mc 9 28 (mvs (s.mails ++ l.take i)) :: mrows s.mails :: row b.lb b.lc 1 32 (nptr (s.nodes.map Prod.fst)) :: hnodes s.nodes :: row b.gb b.gc 2 95 (ldv s.led) :: row b.db b.dc 2 39 (cvs s.done) :: row b.sb b.sc 1 3 (i64s s.seen) :: R) w := mrows_take i (Sb.own (by repeat' (first | with_reducible exact Sb.all | exact Sb.nil | (apply Sb.cons; focus (first | ((repeat (first | with_reducible exact Tk.here | with_reducible apply Tk.there)); done) | ((repeat (first | exact Tk.here | apply Tk.there)); done))) | apply Sb.drop)) h)
    have h3 := mrows_app (l := s.mails) (k := l.take i) (Own.sp2 (by repeat' (first | exact Spl.nil | (apply Spl.cons; focus (first | ((repeat (first | with_reducible exact Tk.here | with_reducible apply Tk.there)); done) | ((repeat (first | exact Tk.here | apply Tk.there)); done))))) h2)
    refine hnet_mk (b := { b with mb := mb, mc := mc }) ⟨hb.l, by show (sendN s.mails l).length ≤ mc; omega, hb.g, hb.d, hb.s⟩ ?_
    show Own w0 (cel p [.slice b.lb s.nodes.length b.lc, .slice mb (sendN s.mails l).length mc, .slice b.gb s.led.length b.gc, .slice b.db s.done.length b.dc, .slice b.sb s.seen.length b.sc] 70 :: row b.lb b.lc 1 32 (nptr (s.nodes.map Prod.fst)) :: hnodes s.nodes :: row mb mc 9 28 (mvs (sendN s.mails l)) :: mrows (sendN s.mails l) :: row b.gb b.gc 2 95 (ldv s.led) :: row b.db b.dc 2 39 (cvs s.done) :: row b.sb b.sc 1 3 (i64s s.seen) :: R) w
    rw [hle]
    unfold sendN
    rw [← htk]
    exact Sb.own (by repeat' (first | with_reducible exact Sb.all | exact Sb.nil | (apply Sb.cons; focus (first | ((repeat (first | with_reducible exact Tk.here | with_reducible apply Tk.there)); done) | ((repeat (first | exact Tk.here | apply Tk.there)); done))) | apply Sb.drop)) h3
end Go.Proofs.Ytekoilhjlofncaa
