/-
  Layer 19: an act keeps what is true among nodes.
-/
import Derived.Test.YtekoilhjlofncaaRaftNetI
set_option linter.unusedVariables false
set_option linter.unusedSimpArgs false
set_option maxRecDepth 4000
namespace Go.Proofs.Ytekoilhjlofncaa
open Go.Sl Go.RowKit Go.Raft

def ndF (l : List Rn) (j : Int) : Rn := if 1 ≤ j then (l[(j - 1).toNat]?).getD (newR 0 0 0 0 []) else newR 0 0 0 0 []
theorem ndF_at {l : List Rn} {j : Nat} {x : Rn} (h : l[j]? = some x) : ndF l ((j : Int) + 1) = x := by
  unfold ndF
  rw [if_pos (by omega), show ((j : Int) + 1 - 1).toNat = j by omega, h]; rfl
theorem ndF_set {l : List Rn} {j : Nat} {y : Rn} (hj : j < l.length) : ndF (l.set j y) = updR (ndF l) ((j : Int) + 1) y := by
  funext k
  unfold updR
  split
  · rename_i hk; subst hk; exact ndF_at (by rw [List.getElem?_set_self hj])
  · rename_i hk
    unfold ndF
    split
    · rw [List.getElem?_set_ne (by omega)]
    · rfl
structure NetI (l : List Rn) (ms : List Ml) (c : Int) (g : Gh) : Prop where
  n1 : 1 ≤ l.length
  n5 : l.length ≤ 5
  iok : IOk l.length (ndF l) (fun m => m ∈ ms) g
  waited : ∀ x ∈ l, x.waited ≤ c
  len : ms.length ≤ 300
theorem NetI.node {l : List Rn} {ms : List Ml} {c : Int} {g : Gh} (h : NetI l ms c g) {j : Nat} {x : Rn} (hx : l[j]? = some x) : NOk l.length g ((j : Int) + 1) x := by
  have hj := (List.getElem?_eq_some_iff.1 hx).1
  have := h.iok.nodes ((j : Int) + 1) (by omega) (by omega)
  rwa [ndF_at hx] at this
theorem NetI.ok {l : List Rn} {ms : List Ml} {c : Int} {g : Gh} (h : NetI l ms c g) : NetOk l ms c :=
  ⟨h.n1, h.n5, fun j x hx => ⟨(h.node hx).inv, (h.node hx).id, (h.node hx).nn, h.waited x (List.mem_of_getElem? hx)⟩, h.len, fun m hm => (h.iok.mails m hm).to_⟩
theorem iok_less {n : Int} {nd : Int → Rn} {ml ml' : Ml → Prop} {g : Gh} (h : IOk n nd ml g) (hs : ∀ m, ml' m → ml m) : IOk n nd ml' g := ⟨h.gok, h.nodes, fun m hm => h.mails m (hs m hm)⟩
theorem NetI.stp {l : List Rn} {ms ms0 out : List Ml} {c : Int} {g : Gh} {j : Nat} {x y : Rn} (h : NetI l ms c g) (hx : l[j]? = some x) (hs : Stp l.length (ndF l) (fun m => m ∈ ms) g ((j : Int) + 1) y out) (hw : y.waited ≤ x.waited + 1 ∨ y.waited ≤ 0) (hc : 0 ≤ c) (hsub : ∀ m ∈ ms0, m ∈ ms) (hl : ms0.length ≤ 300) :
    ∃ g', Ext g g' ∧ NetI (l.set j y) (sendN ms0 out) (c + 1) g' := by
  have hj := (List.getElem?_eq_some_iff.1 hx).1
  obtain ⟨g', he, hi, ho⟩ := hs
  refine ⟨g', he, by rw [List.length_set]; exact h.n1, by rw [List.length_set]; exact h.n5, ?_, fun z hz => ?_, ?_⟩
  · rw [List.length_set, ndF_set hj]
    refine ⟨hi.gok, hi.nodes, fun m hm => ?_⟩
    rcases List.mem_append.1 hm with hm | hm
    · exact hi.mails m (hsub m hm)
    · exact ho m (List.mem_of_mem_take hm)
  · rcases List.mem_or_eq_of_mem_set hz with hz | hz
    · have := h.waited z hz; omega
    · subst hz
      have := h.waited x (List.mem_of_getElem? hx)
      omega
  · unfold sendN
    rw [List.length_append, List.length_take]
    omega
theorem sendN_nil {α : Type} (ms : List α) : sendN ms ([] : List α) = ms := by unfold sendN; rw [List.take_nil, List.append_nil]
theorem NetI.more {l : List Rn} {ms : List Ml} {c : Int} {g : Gh} (h : NetI l ms c g) : NetI l ms (c + 1) g := ⟨h.n1, h.n5, h.iok, fun x hx => by have := h.waited x hx; omega, h.len⟩
theorem NetI.step {l : List Rn} {ms : List Ml} {c : Int} {g : Gh} (h : NetI l ms c g) (hc : 0 ≤ c) (k i : Int) : ∃ g', Ext g g' ∧ NetI (doS l ms k i).1 (doS l ms k i).2 (c + 1) g' := by
  have hn1 := h.n1
  obtain ⟨j, hj⟩ : ∃ j : Nat, pickN i l.length = (j : Int) := ⟨(pickN i l.length).toNat, by have := (pickN_bound (c := i) (n := l.length) (by omega)).1; omega⟩
  have hjl : j < l.length := by have := (pickN_bound (c := i) (n := l.length) (by omega)).2; omega
  obtain ⟨x, hx⟩ : ∃ x, l[j]? = some x := ⟨_, List.getElem?_eq_getElem hjl⟩
  have hxn := ndF_at hx
  have hb : 1 ≤ (j : Int) + 1 ∧ (j : Int) + 1 ≤ l.length := ⟨by omega, by omega⟩
  unfold doS
  rw [hj, Int.toNat_natCast]
  split
  · unfold tickD
    rw [hx]
    have hs := h.iok.tick hb
    rw [hxn] at hs
    exact h.stp hx hs (tick_id x).2.2 hc (fun m hm => hm) h.len
  · split
    · split
      · exact ⟨g, Ext.refl g, h.more⟩
      · rename_i hm0
        obtain ⟨a, ha⟩ : ∃ a : Nat, pickN i ms.length = (a : Int) := ⟨(pickN i ms.length).toNat, by have := (pickN_bound (c := i) (n := ms.length) (by omega)).1; omega⟩
        have hal : a < ms.length := by have := (pickN_bound (c := i) (n := ms.length) (by omega)).2; omega
        have hsub : ∀ m ∈ ms.eraseIdx a, m ∈ ms := fun m hm => List.mem_of_mem_eraseIdx hm
        have hle : (ms.eraseIdx a).length ≤ 300 := by have := h.len; rw [List.length_eraseIdx_of_lt hal]; omega
        rw [ha, Int.toNat_natCast]
        split
        · exact ⟨g, Ext.refl g, h.n1, h.n5, iok_less h.iok hsub, h.more.waited, hle⟩
        · unfold comeD
          obtain ⟨m, hm⟩ : ∃ m, ms[a]? = some m := ⟨_, List.getElem?_eq_getElem hal⟩
          have hmm := List.mem_of_getElem? hm
          have hto := (h.iok.mails m hmm).to_
          rw [hm]
          dsimp only
          obtain ⟨j2, hj2⟩ : ∃ j2 : Nat, m.to_ = (j2 : Int) + 1 := ⟨(m.to_ - 1).toNat, by omega⟩
          obtain ⟨y, hy⟩ : ∃ y, l[j2]? = some y := ⟨_, List.getElem?_eq_getElem (by omega)⟩
          rw [show (m.to_ - 1).toNat = j2 by omega, hy]
          have hs := h.iok.take (j := (j2 : Int) + 1) ⟨by omega, by omega⟩ hmm hj2
          rw [ndF_at hy] at hs
          refine h.stp hy hs (Kin.take y _).more.2.2 hc ?_ ?_
          · split; exact fun m hm => hm; exact hsub
          · split; exact h.len; exact hle
    · split
      · unfold againD
        rw [hx]
        have hi := (h.node hx).inv
        have hs := h.iok.again hb (by rw [hxn]; exact RInv.new hi.stable)
        rw [hxn] at hs
        have := h.stp (ms0 := ms) (out := []) hx ⟨g, Ext.refl g, hs, fun q hq => by cases hq⟩ (.inr (Int.le_refl _)) hc (fun m hm => hm) h.len
        rwa [sendN_nil] at this
      · split
        · unfold propD
          rw [hx]
          dsimp only
          split
          · rename_i hp
            have hs := h.iok.propose (d := pB) hb (by rw [hxn]; exact hp)
            rw [hxn] at hs
            exact h.stp hx hs (Kin.propose x _).more.2.2 hc (fun m hm => hm) h.len
          · exact ⟨g, Ext.refl g, h.more⟩
        · exact ⟨g, Ext.refl g, h.more⟩
def gh0 : Gh := ⟨fun _ _ => 0, fun _ => none, fun _ => [], fun _ => [], fun _ _ => 0, fun _ => 0⟩
theorem gh0_ok (n : Int) : GOk n gh0 := by
  refine ⟨fun s h => absurd rfl h, fun s j h => (by cases h), fun k s h => absurd rfl h, fun s j h => (by cases h), fun s h => absurd rfl h, fun s h => absurd rfl h, fun j t h => absurd h (Nat.lt_irrefl 0), fun s j h => (by cases h), fun j => .inl rfl, fun s h => absurd rfl h⟩
theorem start_node {n k : Nat} (hn : n ≤ 5) (hk : k < n) : NOk n gh0 ((k : Int) + 1) (newR ((k : Int) + 1) n 0 0 []) := by
  refine ⟨RInv.new (start_ok hn hk), Ld.new (by omega), rfl, rfl, fun s h => absurd rfl h, rfl, fun h => absurd h (by show ¬ (0 : Int) = 1; decide), fun h => absurd h (by show ¬ (0 : Int) = 2; decide), fun s h => (by cases h), fun p h1 h2 => absurd h2 (by show ¬ p ≤ 0; omega), Int.le_refl _, fun t p h => absurd rfl h.1, fun h => absurd h (by show ¬ (0 : Int) = 1; decide), .inl rfl⟩
theorem start_at {n k j : Nat} {x : Rn} (h : (startN n k)[j]? = some x) : x = newR ((j : Int) + 1) n 0 0 [] ∧ j < k := by
  unfold startN at h
  rw [List.getElem?_map] at h
  have hj : j < k := by
    rcases Nat.lt_or_ge j k with h1 | h1
    · exact h1
    · rw [List.getElem?_eq_none (by rw [List.length_range]; exact h1)] at h; cases h
  rw [List.getElem?_range hj] at h
  exact ⟨(Option.some.inj h).symm, hj⟩
theorem NetI.start {n : Nat} (h1 : 1 ≤ n) (hn : n ≤ 5) : NetI (startN n n) [] 0 gh0 := by
  have hl := startN_length n n
  refine ⟨by omega, by omega, ⟨gh0_ok _, fun j h1 h2 => ?_, fun m hm => (by cases hm)⟩, fun x hx => ?_, Nat.zero_le _⟩
  · rw [hl] at h2 ⊢
    obtain ⟨k, rfl⟩ : ∃ k : Nat, j = (k : Int) + 1 := ⟨(j - 1).toNat, by omega⟩
    obtain ⟨x, hx⟩ : ∃ x, (startN n n)[k]? = some x := ⟨_, List.getElem?_eq_getElem (by omega)⟩
    rw [ndF_at hx, (start_at hx).1]
    exact start_node hn (start_at hx).2
  · obtain ⟨j, hj⟩ := List.mem_iff_getElem?.1 hx
    rw [(start_at hj).1]
    exact Int.le_refl _
structure SafeI (s : NS) (c : Int) (g : Gh) : Prop where
  net : NetI (nsL s) (nsM s) c g
  sin : SIn (nsL s).length g s
theorem SafeI.start {n : Nat} {l : List (Nat × Rn)} (h1 : 1 ≤ n) (hn : n ≤ 5) (hl : l.map Prod.snd = startN n n) : SafeI ⟨l, [], [], [], []⟩ 0 gh0 := by
  have e : nsL ⟨l, [], [], [], []⟩ = startN n n := hl
  have hN := NetI.start h1 hn
  rw [← e] at hN
  exact ⟨hN, gh0_ok _, fun j x hx => hN.node hx, fun e he => (by cases he), rfl, fun k v hk => absurd hk (Nat.not_lt_zero k)⟩
theorem doS_length (l : List Rn) (ms : List Ml) (k i : Int) : (doS l ms k i).1.length = l.length := by
  unfold doS tickD comeD againD propD
  repeat' split
  all_goals first | rfl | exact List.length_set
theorem SafeI.step {s s' : NS} {c k0 i : Int} {g : Gh} (h : SafeI s c g) (hc : 0 ≤ c) (hd : DoR s s' k0 i) : ∃ g', SafeI s' (c + 1) g' := by
  obtain ⟨g', he, hN⟩ := h.net.step hc k0 i
  rw [← hd.d] at hN
  refine ⟨g', hN, hN.iok.gok, fun j x hx => hN.node hx, fun e hm => ?_, by rw [hd.seen, hd.done]; exact h.sin.len, fun k v hk hv => ?_⟩
  · rw [hd.led] at hm
    have h2 := h.sin.led e hm
    rw [he.ld e.1 (by rw [h2]; simp)]
    exact h2
  · rw [hd.done] at hk ⊢
    rw [hd.seen] at hv
    obtain ⟨t, p, hcm, htv, hkp, htk⟩ := h.sin.done k v hk hv
    have hlen : (nsL s').length = (nsL s).length := by
      have e1 : (nsL s').length = (doS (nsL s) (nsM s) k0 i).1.length := by rw [← hd.d]
      rw [e1]; exact doS_length ..
    refine ⟨t, p, by rw [hlen]; exact hcm.ext he, htv, hkp, ?_⟩
    rw [htk, he.lgTake hcm.1.1 (by have := hcm.1.2.2.1; omega)]
theorem SafeI.safe {s s' : NS} {c : Int} {g : Gh} (h : SafeI s c g) (hs : SaR (nsL s).length g s s' s.nodes.length) : SafeI s' c g := by
  have e1 : nsL s' = nsL s := by unfold nsL; rw [hs.nodes]
  have e2 : nsM s' = nsM s := by unfold nsM; rw [hs.mails]
  exact ⟨by rw [e1, e2]; exact h.net, by rw [e1]; exact hs.sin⟩

structure SafeB (s : NS) (c L : Nat) (g : Gh) : Prop where
  safe : SafeI s c g
  led : s.led.length ≤ L
  done : s.done.length ≤ 10000
def hsafe (p c L : Nat) : HProp := fun h => ∃ s g, SafeB s c L g ∧ hnet p s h
theorem hsafe_open {w0 w : World} {p c L : Nat} {A : List HProp} (H : Own w0 (hsafe p c L :: A) w) : ∃ i : NS × Gh, SafeB i.1 c L i.2 ∧ Own w0 (hnet p i.1 :: A) w := by
  obtain ⟨hb, h, ⟨h1, h2, ⟨s, g, hs, a⟩, a2, dd, y⟩, hw'⟩ := H
  exact ⟨(s, g), hs, hb, h, ⟨h1, h2, a, a2, dd, y⟩, hw'⟩
theorem hsafe_mk {w0 w : World} {p c L : Nat} {A : List HProp} {s : NS} {g : Gh} (hs : SafeB s c L g) (H : Own w0 (hnet p s :: A) w) : Own w0 (hsafe p c L :: A) w := H.head fun _ h => ⟨s, g, hs, h⟩
theorem do_safe {w0 : World} {R : List HProp} {p c L : Nat} {k i : Int} (hc : c ≤ 1000000) (hi : -9223372036854775808 ≤ i ∧ i ≤ 9223372036854775807) :
    Fun Try.prog w0 29 [.pointer (some ⟨p, 0, none⟩), .agg [.int .i64 k, .int .i64 i].toArray] (hsafe p c L :: R) (Ret w0 (fun _ : Unit => True) (fun _ => .bool true) (fun _ => hsafe p (c + 1) L :: R)) := by
  refine Fun.ex (fun w h => hsafe_open h) ?_
  rintro ⟨s, g⟩ ⟨hs, hl, hd⟩
  dsimp only at hs hl hd ⊢
  refine (net_do (c := (c : Int)) hs.net.ok ⟨by omega, by omega⟩ hi).mono fun e w ⟨s', hr, he, hO⟩ => ⟨(), trivial, he, ?_⟩
  obtain ⟨g', hg⟩ := hs.step (by omega) hr
  exact hsafe_mk ⟨by exact_mod_cast hg, by rw [hr.led]; exact hl, by rw [hr.done]; exact hd⟩ hO
theorem safe_safe {w0 : World} {R : List HProp} {p c L : Nat} (hL : L ≤ 900000) :
    Fun Try.prog w0 30 [.pointer (some ⟨p, 0, none⟩)] (hsafe p c L :: R) (Ret w0 (fun _ : Unit => True) (fun _ => .bool true) (fun _ => hsafe p c (L + 5) :: R)) := by
  refine Fun.ex (fun w h => hsafe_open h) ?_
  rintro ⟨s, g⟩ ⟨hs, hl, hd⟩
  dsimp only at hs hl hd ⊢
  have hn : s.nodes.length ≤ 5 := by have := hs.net.n5; rwa [nsL_length] at this
  refine (net_safe hs.sin hn (by omega) hd).mono fun e w ⟨s', hr, he, hO⟩ => ⟨(), trivial, he, ?_⟩
  exact hsafe_mk ⟨hs.safe hr, by have := hr.led; omega, hr.done⟩ hO
abbrev AV := Int × Int × Unit
abbrev cellA (a : AV) : List Value := [.int .i64 a.1, .int .i64 a.2.1]
theorem net_safe0 {w0 : World} {A : List HProp} {n : Nat} (h1 : 1 ≤ n) (hn : n ≤ 5) :
    Fun Try.prog w0 27 [.int .i64 n] A (Ret w0 (fun _ : Nat => True) (fun p => .pointer (some ⟨p, 0, none⟩)) (fun p => hsafe p 0 0 :: A)) :=
  (law_net hn).mono fun e w ⟨i, hi, he, hO⟩ => ⟨i.1, trivial, he, hsafe_mk ⟨SafeI.start h1 hn hi, Nat.le_refl _, Nat.zero_le _⟩ hO⟩
theorem walk_safe {w0 : World} {A : List HProp} {n : Int} (hn : -9223372036854775808 ≤ n ∧ n ≤ 9223372036854775807) (o : Sla AV) (ho : Rd w0 o.base (o.xs.flatMap cellA)) (hx : ∀ y ∈ o.xs, -9223372036854775808 ≤ y.2.1 ∧ y.2.1 ≤ 9223372036854775807) :
    Fun Try.prog w0 4 [.int .i64 n, .slice o.base o.xs.length o.cap] A (Ret w0 (fun _ : Unit => True) (fun _ => .bool true) (fun _ => A)) := by
  have hfl : (o.xs.flatMap cellA).length = o.xs.length * 2 := flat_len (fun _ _ => rfl)
  obtain ⟨N, hN⟩ : ∃ N : Nat, 1 + pickN n 5 = (N : Int) := ⟨(1 + pickN n 5).toNat, by have := (pickN_bound (c := n) (n := 5) (by omega)).1; omega⟩
  have hN5 : 1 ≤ N ∧ N ≤ 5 := by have := pickN_bound (c := n) (n := 5) (by omega); omega
  refine Fun.enter Try.func4 rfl Try.ntmps4 rfl ?_
  refine WC.seq <| WC.region <| sv (vaB rfl) <| WL.nil <| WX.thenN <| WC.seq <| WC.seq <| WC.region <| sv (vmS rfl) <| sv (vlen Try.underlying57 rfl) <| sv (vgt rfl rfl) <| WL.nil <| WX.thenN <| ?_
  refine WC.ite rfl (fun h1 => ?_) (fun h1 => ?_)
  · -- then
    exact WC.seq <| WC.region <| sv (vaB rfl) <| WL.nil <| WX.thenN <| WC.ret <| WX.thenR <| WX.ret1 rfl (()) (trivial) rfl (fun _ h => Sb.own (by repeat' (first | with_reducible exact Sb.all | exact Sb.nil | (apply Sb.cons; focus (first | ((repeat (first | with_reducible exact Tk.here | with_reducible apply Tk.there)); done) | ((repeat (first | exact Tk.here | apply Tk.there)); done))) | apply Sb.drop)) h)
  · -- else
    refine WC.skip <| WX.thenN <| WC.seq <| WC.region <| sv (vmI rfl) <| clx (by repeat' (first | with_reducible exact Sb.all | exact Sb.nil | (apply Sb.cons; focus (first | ((repeat (first | with_reducible exact Tk.here | with_reducible apply Tk.there)); done) | ((repeat (first | exact Tk.here | apply Tk.there)); done))) | apply Sb.drop)) (law_pick (by omega) hn) ct28 rfl fun r1 hr1 => ?_
    refine sv (vw (v' := .int .i64 (N : Int)) (vadd rfl rfl (by omega)) (iv (by omega))) <| clx (by repeat' (first | with_reducible exact Sb.all | exact Sb.nil | (apply Sb.cons; focus (first | ((repeat (first | with_reducible exact Tk.here | with_reducible apply Tk.there)); done) | ((repeat (first | exact Tk.here | apply Tk.there)); done))) | apply Sb.drop)) (net_safe0 hN5.1 hN5.2) ct27 rfl fun r3 hr3 => ?_
    refine sv (vaP rfl) <| WL.nil <| WX.thenN <| WC.seq <| WC.seq <| WC.region <| sv (vmP rfl) <| sv (vpeqF Try.underlying58 rfl rfl) <| WL.nil <| WX.thenN <| ?_
    refine WC.ff rfl ?_
    refine WC.skip <| WX.thenN <| WC.seq <| WC.seq <| WC.region <| sv (vaI rfl) <| WL.nil <| WX.thenN <| WC.block <| ?_
    refine WC.loop (ι := Nat) (fun i => [(6, .int .i64 i)]) [(1, .slice _ _ _), (5, .pointer _)] (fun i => hsafe r3 i (5 * i) :: A) (fun i => i ≤ o.xs.length) (fun i => o.xs.length - i) (0) (by omega) ⟨rfl, trivial⟩ ⟨rfl, rfl, trivial⟩ (fun _ h => Sb.own (by repeat' (first | with_reducible exact Sb.all | exact Sb.nil | (apply Sb.cons; focus (first | ((repeat (first | with_reducible exact Tk.here | with_reducible apply Tk.there)); done) | ((repeat (first | exact Tk.here | apply Tk.there)); done))) | apply Sb.drop)) h) ?_
    intro i hi ρh
    refine WC.seq <| WC.seq <| WC.region <| sv (vmI rfl) <| sv (vmS rfl) <| sv (vlen Try.underlying57 rfl) <| sv (vlt rfl rfl) <| WL.nil <| WX.thenN <| ?_
    refine WC.ite rfl (fun h3 => ?_) (fun h3 => ?_)
    · -- then
      have hil : i < o.xs.length := by omega
      obtain ⟨a, ha⟩ : ∃ a, o.xs[i]? = some a := ⟨_, List.getElem?_eq_getElem hil⟩
      have hai := hx a (List.mem_of_getElem? ha)
      have hpos : 0 < (o.xs.flatMap cellA).length := by omega
      have hag : ((o.xs.flatMap cellA).drop (((i : Int)).toNat * 2)).take 2 = cellA a := by rw [Int.toNat_natCast, flat_take (f := cellA) (s := 2) (fun _ _ => rfl) hil, (List.getElem?_eq_some_iff.1 ha).2]
      refine WC.skip <| WX.thenN <| WC.seq <| WC.block <| ?_
      refine WC.cut0 [(33, .bool false)] [(1, .slice _ _ _), (5, .pointer _), (6, .int _ _)] (hsafe r3 (i + 1) (5 * (i + 1)) :: A) ⟨rfl, rfl, rfl, trivial⟩ ?_ fun ρh => ?_
      · -- law.go:299
        refine WC.region <| sv (vmP rfl) <| sv (vmS rfl) <| sv (vmI rfl) <| sv (vix Try.underlying57 sz63 rfl rfl (by omega) (by omega) (RdC.old ho) hpos) <| sv (vlda ag63 sz63 rfl (RdC.old ho) hag rfl (by decide)) <| clx (by repeat' (first | with_reducible exact Sb.all | exact Sb.nil | (apply Sb.cons; focus (first | ((repeat (first | with_reducible exact Tk.here | with_reducible apply Tk.there)); done) | ((repeat (first | exact Tk.here | apply Tk.there)); done))) | apply Sb.drop)) (do_safe (by omega) hai) ct29 rfl fun r7 hr7 => ?_
        refine sv (vnot rfl) <| sv (vmB rfl) <| svg rfl (vmP rfl) <| gy rfl <| clx (by repeat' (first | with_reducible exact Sb.all | exact Sb.nil | (apply Sb.cons; focus (first | ((repeat (first | with_reducible exact Tk.here | with_reducible apply Tk.there)); done) | ((repeat (first | exact Tk.here | apply Tk.there)); done))) | apply Sb.drop)) (safe_safe (by omega)) ct30 rfl fun r8 hr8 => ?_
        exact svg rfl (vnot rfl) <| sv (vpkf rfl) <| WL.nil <| WX.mid () trivial ⟨rfl, trivial⟩ ⟨rfl, rfl, rfl, trivial⟩ (fun _ h => Sb.own (by repeat' (first | with_reducible exact Sb.all | exact Sb.nil | (apply Sb.cons; focus (first | ((repeat (first | with_reducible exact Tk.here | with_reducible apply Tk.there)); done) | ((repeat (first | exact Tk.here | apply Tk.there)); done))) | apply Sb.drop)) h)
      refine WC.ff rfl ?_
      exact WC.skip <| WX.blockN <| WX.thenN <| WC.region <| sv (vmI rfl) <| sv (vadd rfl rfl (by omega)) <| sv (vaI rfl) <| WL.nil <| WX.again (i + 1) (by omega) (by omega) ⟨rfl, trivial⟩ ⟨rfl, rfl, trivial⟩ (fun _ h => Sb.own (by repeat' (first | with_reducible exact Sb.all | exact Sb.nil | (apply Sb.cons; focus (first | ((repeat (first | with_reducible exact Tk.here | with_reducible apply Tk.there)); done) | ((repeat (first | exact Tk.here | apply Tk.there)); done))) | apply Sb.drop)) h)
    · -- else
      refine WC.exit <| WX.thenE <| WX.thenE <| WX.blockH <| WX.thenN <| WC.seq <| WC.region <| clx (by repeat' (first | with_reducible exact Sb.all | exact Sb.nil | (apply Sb.cons; focus (first | ((repeat (first | with_reducible exact Tk.here | with_reducible apply Tk.there)); done) | ((repeat (first | exact Tk.here | apply Tk.there)); done))) | apply Sb.drop)) (law_awake) ct12 rfl fun r10 hr10 => ?_
      exact sv (vaB rfl) <| WL.nil <| WX.thenN <| WC.ret <| WX.ret1 rfl (()) (trivial) rfl (fun _ h => Sb.own (by repeat' (first | with_reducible exact Sb.all | exact Sb.nil | (apply Sb.cons; focus (first | ((repeat (first | with_reducible exact Tk.here | with_reducible apply Tk.there)); done) | ((repeat (first | exact Tk.here | apply Tk.there)); done))) | apply Sb.drop)) h)
end Go.Proofs.Ytekoilhjlofncaa
