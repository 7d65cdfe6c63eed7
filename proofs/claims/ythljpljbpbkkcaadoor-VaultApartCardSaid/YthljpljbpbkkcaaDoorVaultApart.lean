/-
  Layer 16: flows know nothing of one another.
-/
import Derived.Test.YthljpljbpbkkcaaDoorVaultLawB
import Derived.Test.YthljpljbpbkkcaaDoorVaultNumbers
set_option linter.unusedVariables false
set_option linter.unusedSimpArgs false
set_option maxRecDepth 4000
namespace Go.Proofs.YthljpljbpbkkcaaDoor
open Go.Sl Go.RowKit Go.Pack Go.Vault Go.Journal

theorem v_numbers_at {w0 : World} {A : List HProp} {v dk m : Nat} {d : VD} {f : ByteArray} {l : List Int} (hc : Cnt d) (h : NumsOf d f l) :
    Fun Tryd.prog w0 16 [.pointer (some ⟨v, 0, none⟩), .string f] (vcm v dk d m :: A) (Ret w0 (fun i : Option Addr × Nat => True) (fun i => .slice i.1 l.length i.2) (fun i => row i.1 i.2 1 3 (i64s l) :: vcm v dk d m :: A)) :=
  (v_numbers_c hc).mono fun e w ⟨i, h1, he, hO⟩ => ⟨(i.1, i.2.1), trivial, by rw [h.uniq h1.1]; exact he, by rw [h.uniq h1.1]; exact hO⟩
abbrev nmA : ByteArray := ByteArray.mk #[107, 101, 112, 116]
/-- what a put does: nothing, or the part is there -/
theorem putP_cases {q : PK} {c : List UInt8} {d d' : VD} {e : Int} (h : putP q c d = (d', e)) : d' = d ∨ (d' = putD d q c ∧ cntP q.num ∧ d.parts q = none) := by
  unfold putP actP at h
  split at h
  · cases h; exact .inl rfl
  · rename_i h0
    split at h
    · cases h; exact .inl rfl
    · rename_i h1
      cases h
      refine .inr ⟨rfl, ?_⟩
      unfold whyPut at h0 h1
      split at h0
      · exact absurd (by decide) h0
      · rename_i c0
        rw [if_neg c0] at h1
        split at h0
        · exact absurd (by decide) h0
        · rename_i c1
          rw [if_neg c1] at h1
          split at h0
          · exact absurd (by decide) h0
          · rename_i c2
            rw [if_neg c2] at h1
            refine ⟨(Decidable.not_not.1 c1).1, ?_⟩
            cases hd : d.parts q with
            | none => rfl
            | some x => rw [hd] at h1; exact absurd rfl h1
theorem dropP_cases {f : ByteArray} {n : Int} {d d' : VD} {e : Int} (h : dropP f n d = (d', e)) : d' = d ∨ d' = dropD d f n := by
  unfold dropP actP at h
  split at h
  · cases h; exact .inl rfl
  · split at h
    · cases h; exact .inl rfl
    · cases h; exact .inr rfl
theorem Cnt.new : Cnt VD.new := fun k h => absurd h (by show ¬ (none : Option (List UInt8)).isSome = true; decide)
theorem Cnt.putD {d : VD} {q : PK} {c : List UInt8} (h : Cnt d) (hq : cntP q.num) : Cnt (Go.Vault.putD d q c) := fun k hk => by
  have hk' : (if k = q then some c else d.parts k).isSome = true := hk
  by_cases e : k = q
  · rw [e]; exact hq
  · rw [if_neg e] at hk'; exact h k hk'
theorem Cnt.dropD {d : VD} {f : ByteArray} {n : Int} (h : Cnt d) : Cnt (Go.Vault.dropD d f n) := fun k hk => by
  have hk' : (if k.flow = f ∧ k.num < n then none else d.parts k).isSome = true := hk
  by_cases e : k.flow = f ∧ k.num < n
  · rw [if_pos e] at hk'; cases hk'
  · rw [if_neg e] at hk'; exact h k hk'
theorem Cnt.call {kind : Int} {q : PK} {c : List UInt8} {d d' : VD} {e : Int} (h : Cnt d) (hp : callP kind q c d = (d', e)) : Cnt d' := by
  unfold callP at hp
  split at hp
  · rcases dropP_cases hp with rfl | rfl
    · exact h
    · exact h.dropD
  · rcases putP_cases hp with rfl | ⟨rfl, h1, _⟩
    · exact h
    · exact h.putD h1
/-- the part k is there, alone of its flow -/
structure AI (k : PK) (b : List UInt8) (d : VD) : Prop where
  cnt : Cnt d
  here : d.parts k = some b
  one : ∀ q, q.flow = k.flow → (d.parts q).isSome = true → q = k
theorem AI.call {k q : PK} {b c : List UInt8} {kind : Int} {d d' : VD} {e : Int} (h : AI k b d) (hf : ¬ q.flow = k.flow) (hp : callP kind q c d = (d', e)) : AI k b d' := by
  refine ⟨h.cnt.call hp, ?_, ?_⟩
  all_goals unfold callP at hp; split at hp
  · rcases dropP_cases hp with rfl | rfl
    · exact h.here
    · exact (if_neg fun hx => hf hx.1.symm).trans h.here
  · rcases putP_cases hp with rfl | ⟨rfl, _, _⟩
    · exact h.here
    · exact (if_neg fun hx => hf (by rw [hx])).trans h.here
  · rcases dropP_cases hp with rfl | rfl
    · exact h.one
    · intro r hr hs
      have hs' : (if r.flow = q.flow ∧ r.num < q.num then none else d.parts r).isSome = true := hs
      rw [if_neg fun hx => hf (hx.1.symm.trans hr)] at hs'
      exact h.one r hr hs'
  · rcases putP_cases hp with rfl | ⟨rfl, _, _⟩
    · exact h.one
    · intro r hr hs
      have hs' : (if r = q then some c else d.parts r).isSome = true := hs
      rw [if_neg fun hx => hf (by rw [← hx]; exact hr)] at hs'
      exact h.one r hr hs'
theorem AI.nums {k : PK} {b : List UInt8} {d : VD} (h : AI k b d) : NumsOf d k.flow [k.num] :=
  ⟨by simp, fun n => by
    rw [List.mem_singleton]
    exact ⟨fun e => ⟨k, rfl, e.symm, by rw [h.here]; rfl⟩, fun ⟨q, h1, h2, h3⟩ => by rw [← h2, h.one q h1 h3]⟩⟩
theorem AI.first {k : PK} {b : List UInt8} (hn : vName k.flow) : ∃ d f, putP k b VD.new = (d, f) ∧ (f ≠ 0 → f = 1) ∧ (f = 0 → AI k b d) := by
  by_cases hc : cntP k.num ∧ mayP k.kind k.n
  · have hw : whyPut VD.new k = (0, true) := by
      unfold whyPut
      rw [if_neg (fun h => h hn), if_neg (fun h => h hc), if_neg (by have := hc.1.1; show ¬ k.num < 0; omega)]; rfl
    refine ⟨putD VD.new k b, 0, by unfold putP; rw [hw]; rfl, fun h => absurd rfl h, fun _ => ⟨Cnt.new.putD hc.1, if_pos rfl, fun q _ hs => ?_⟩⟩
    have hs' : (if q = k then some b else none).isSome = true := hs
    by_cases e : q = k
    · exact e
    · rw [if_neg e] at hs'; cases hs'
  · have hw : whyPut VD.new k = (1, false) := by
      unfold whyPut
      rw [if_neg (fun h => h hn), if_pos hc]
    exact ⟨VD.new, 1, by unfold putP; rw [hw]; rfl, fun _ => rfl, fun h => absurd h (by decide)⟩
theorem apart1 {P : Prop} [Decidable P] {x : Nat} (h : (!decide P) = false) : 256 < (x : Int) ↔ ¬ (P ∧ x ≤ 256) := by
  have hP : P := by simpa using h
  constructor
  · intro hx hy; omega
  · intro hx
    have : ¬ x ≤ 256 := fun h => hx ⟨hP, h⟩
    omega
theorem vcm_monoA {w0 w : World} {A : List HProp} {v dk m k : Nat} {d : VD} (hm : m ≤ k) (H : Own w0 (vcm v dk d m :: A) w) : Own w0 (vcm v dk d k :: A) w :=
  H.head fun _ h => by obtain ⟨i, hi, h⟩ := h; exact ⟨i, hi.mono hm, h⟩
theorem law_apart {w0 : World} {A : List HProp} {o : Sla AV} {pk pn n : Int} {b : Sla UInt8} (ho : Rd w0 o.base (o.xs.flatMap cellV)) (hx : ∀ a ∈ o.xs, gV w0 a) (hb : Rd w0 b.base (u8s b.xs)) (hk : PkOk ⟨nmA, n, pk, pn⟩) :
    Fun Tryd.prog w0 5 [.slice o.base o.xs.length o.cap, .int .i64 n, .agg #[.int .i64 pk, .int .i64 pn], .slice b.base b.xs.length b.cap] A (Ret w0 (fun _ : Unit => True) (fun _ => .bool true) (fun _ => A)) := by
  have hfl : (o.xs.flatMap cellV).length = o.xs.length * 7 := flat_len (fun _ _ => rfl)
  refine Fun.enter Tryd.func5 rfl Tryd.ntmps5 rfl ?_
  refine WC.seq <| WC.region <| bxc (v := .agg _) (cs := [.int _ _, .int _ _]) rfl rfl fun b1 => sv (vaB rfl) <| WL.nil <| WX.thenN <| WC.seq <| ?_
  refine WC.cutS [(24, .bool (decide (¬ ((o.xs.length ≤ 120 ∧ ∀ a ∈ o.xs, a.b.xs.length ≤ 256 ∧ a.k.flow.size ≤ 64) ∧ b.xs.length ≤ 256))))] [(0, .slice _ _ _), (1, .int _ _), (3, .slice _ _ _), (6, _)] ⟨rfl, rfl, rfl, rfl, trivial⟩ ?_ fun ρh => ?_
  · -- more.go:54
    refine WC.region <| sv (vmS rfl) <| clx (by repeat' (first | with_reducible exact Sb.all | exact Sb.nil | (apply Sb.cons; focus (first | ((repeat (first | with_reducible exact Tk.here | with_reducible apply Tk.there)); done) | ((repeat (first | exact Tk.here | apply Tk.there)); done))) | apply Sb.drop)) (law_small ho) ct7 rfl fun r2 hr2 => ?_
    refine svb (vnot rfl) (fun q1 => ?_) (fun q1 => ?_)
    ·
      exact sv (vmB rfl) <| sng rfl <| sng rfl <| sng rfl <| sv (vpkt rfl) <| WL.nil <| WX.mid () trivial ⟨bT (fun hx => by rw [decide_eq_true hx.1] at q1; exact absurd q1 (by decide)), trivial⟩ ⟨rfl, rfl, rfl, rfl, trivial⟩ (fun _ h => Sb.own (by repeat' (first | with_reducible exact Sb.all | exact Sb.nil | (apply Sb.cons; focus (first | ((repeat (first | with_reducible exact Tk.here | with_reducible apply Tk.there)); done) | ((repeat (first | exact Tk.here | apply Tk.there)); done))) | apply Sb.drop)) h)
    ·
      exact sv (vmB rfl) <| svg rfl (vmS rfl) <| svg rfl (vlen Tryd.underlying25 rfl) <| svg rfl (vgt rfl rfl) <| sv (vpkf rfl) <| WL.nil <| WX.mid () trivial ⟨bI (apart1 q1), trivial⟩ ⟨rfl, rfl, rfl, rfl, trivial⟩ (fun _ h => Sb.own (by repeat' (first | with_reducible exact Sb.all | exact Sb.nil | (apply Sb.cons; focus (first | ((repeat (first | with_reducible exact Tk.here | with_reducible apply Tk.there)); done) | ((repeat (first | exact Tk.here | apply Tk.there)); done))) | apply Sb.drop)) h)
  refine WC.iteb rfl (fun h1 => ?_) (fun h1 => ?_)
  · -- then
    exact WC.seq <| WC.region <| sv (vaB rfl) <| WL.nil <| WX.thenN <| WC.ret <| WX.thenR <| WX.ret1 rfl (()) (trivial) rfl (fun _ h => Sb.own (by repeat' (first | with_reducible exact Sb.all | exact Sb.nil | (apply Sb.cons; focus (first | ((repeat (first | with_reducible exact Tk.here | with_reducible apply Tk.there)); done) | ((repeat (first | exact Tk.here | apply Tk.there)); done))) | apply Sb.drop)) h)
  · -- else
    obtain ⟨hsm, hbl⟩ := Decidable.not_not.1 (of_decide_eq_false h1)
    obtain ⟨d1, f1, hf1, hfa, hfb⟩ := AI.first (k := ⟨nmA, n, pk, pn⟩) (b := b.xs) (show vName nmA by decide)
    refine WC.skip <| WX.thenN <| WC.seq <| WC.region <| clx (by repeat' (first | with_reducible exact Sb.all | exact Sb.nil | (apply Sb.cons; focus (first | ((repeat (first | with_reducible exact Tk.here | with_reducible apply Tk.there)); done) | ((repeat (first | exact Tk.here | apply Tk.there)); done))) | apply Sb.drop)) (disk_new) ct9 rfl fun r3 hr3 => ?_
    refine clx (by repeat' (first | with_reducible exact Sb.all | exact Sb.nil | (apply Sb.cons; focus (first | ((repeat (first | with_reducible exact Tk.here | with_reducible apply Tk.there)); done) | ((repeat (first | exact Tk.here | apply Tk.there)); done))) | apply Sb.drop)) (v_open_c) ct8 rfl fun r4 hr4 => ?_
    refine sv vmv <| sv (vex rfl rfl) <| sv (vex rfl rfl) <| sv (vaP rfl) <| sv (vaI rfl) <| WL.nil <| WX.thenN <| WC.seq <| ?_
    refine WC.cutS [(35, .bool false)] [(0, .slice _ _ _), (1, .int _ _), (3, .slice _ _ _), (6, _), (9, .pointer _)] ⟨rfl, rfl, rfl, rfl, rfl, trivial⟩ ?_ fun ρh => ?_
    · -- more.go:58
      exact WC.region <| sv (vmP rfl) <| sv (vpeqF Tryd.underlying27 rfl rfl) <| sv (vmB rfl) <| svg rfl (vmI rfl) <| svg rfl (vne rfl rfl) <| sv (vpkf rfl) <| WL.nil <| WX.mid () trivial ⟨rfl, trivial⟩ ⟨rfl, rfl, rfl, rfl, rfl, trivial⟩ (fun _ h => Sb.own (by repeat' (first | with_reducible exact Sb.all | exact Sb.nil | (apply Sb.cons; focus (first | ((repeat (first | with_reducible exact Tk.here | with_reducible apply Tk.there)); done) | ((repeat (first | exact Tk.here | apply Tk.there)); done))) | apply Sb.drop)) h)
    refine WC.ff rfl ?_
    refine WC.skip <| WX.thenN <| WC.seq <| WC.region <| sv (vmP rfl) <| sv (vmI rfl) <| sv (vldac ag24 sz24 rfl rfl (by decide)) <| sv (vmS rfl) <| clx (by repeat' (first | with_reducible exact Sb.all | exact Sb.nil | (apply Sb.cons; focus (first | ((repeat (first | with_reducible exact Tk.here | with_reducible apply Tk.there)); done) | ((repeat (first | exact Tk.here | apply Tk.there)); done))) | apply Sb.drop)) (v_put_at (k := ⟨nmA, n, pk, pn⟩) (bs := b.xs) (hR := ⟨RdC.old hb⟩) hf1 hk (show nmA.size ≤ 4096 by decide) (by omega) (by omega)) ct10 rfl fun r7 hr7 => ?_
    refine sv (vaI rfl) <| WL.nil <| WX.thenN <| WC.seq <| WC.seq <| WC.region <| sv (vmI rfl) <| sv (vne rfl rfl) <| WL.nil <| WX.thenN <| ?_
    refine WC.ite rfl (fun h3 => ?_) (fun h3 => ?_)
    · -- then
      have hf9 : f1 = 1 := hfa h3
      refine WC.cut0 [(8, .bool true)] [] (A) trivial ?_ fun ρh => ?_
      · -- more.go:63
        refine WC.region <| clx (by repeat' (first | with_reducible exact Sb.all | exact Sb.nil | (apply Sb.cons; focus (first | ((repeat (first | with_reducible exact Tk.here | with_reducible apply Tk.there)); done) | ((repeat (first | exact Tk.here | apply Tk.there)); done))) | apply Sb.drop)) (law_awake) ct11 rfl fun r8 hr8 => ?_
        refine svb (vmB rfl) (fun q2 => ?_) (fun q2 => ?_)
        ·
          exact svg rfl (vmI rfl) <| svg rfl (veq rfl rfl) <| sv (vpkt rfl) <| sv (vaB rfl) <| WL.nil <| WX.mid () trivial ⟨(bT hf9).symm, trivial⟩ trivial (fun _ h => Sb.own (by repeat' (first | with_reducible exact Sb.all | exact Sb.nil | (apply Sb.cons; focus (first | ((repeat (first | with_reducible exact Tk.here | with_reducible apply Tk.there)); done) | ((repeat (first | exact Tk.here | apply Tk.there)); done))) | apply Sb.drop)) h)
        ·
          exact sng rfl <| sng rfl <| sv (vpkf rfl) <| sv (vaB rfl) <| WL.nil <| WX.mid () trivial ⟨(by cases q2), trivial⟩ trivial (fun _ h => Sb.own (by repeat' (first | with_reducible exact Sb.all | exact Sb.nil | (apply Sb.cons; focus (first | ((repeat (first | with_reducible exact Tk.here | with_reducible apply Tk.there)); done) | ((repeat (first | exact Tk.here | apply Tk.there)); done))) | apply Sb.drop)) h)
      exact WC.ret <| WX.thenR <| WX.ret1 rfl (()) (trivial) rfl (fun _ h => Sb.own (by repeat' (first | with_reducible exact Sb.all | exact Sb.nil | (apply Sb.cons; focus (first | ((repeat (first | with_reducible exact Tk.here | with_reducible apply Tk.there)); done) | ((repeat (first | exact Tk.here | apply Tk.there)); done))) | apply Sb.drop)) h)
    · -- else
      have hsi := hfb (by omega)
      refine WC.skip <| WX.thenN <| WC.seq <| WC.seq <| WC.region <| sv (vaI rfl) <| WL.nil <| WX.thenN <| WC.block <| ?_
      refine WC.loop (ι := Nat × VD) (fun i => [(12, .int .i64 i.1)]) [(0, .slice _ _ _), (1, .int _ _), (3, .slice _ _ _), (6, _), (9, .pointer _)] (fun i => vcm r4 r3 i.2 (i.1 + 1) :: cel b1 [.int .i64 pk, .int .i64 pn] 24 :: A) (fun i => i.1 ≤ o.xs.length ∧ AI ⟨nmA, n, pk, pn⟩ b.xs i.2) (fun i => o.xs.length - i.1) ((0, d1)) (⟨Nat.zero_le _, hsi⟩) ⟨rfl, trivial⟩ ⟨rfl, rfl, rfl, rfl, rfl, trivial⟩ (fun _ h => Sb.own (by repeat' (first | with_reducible exact Sb.all | exact Sb.nil | (apply Sb.cons; focus (first | ((repeat (first | with_reducible exact Tk.here | with_reducible apply Tk.there)); done) | ((repeat (first | exact Tk.here | apply Tk.there)); done))) | apply Sb.drop)) h) ?_
      rintro ⟨i, d⟩ ⟨hi1, hi2⟩ ρh
      dsimp only at hi1 hi2 ⊢
      refine WC.seq <| WC.seq <| WC.region <| sv (vmI rfl) <| sv (vmS rfl) <| sv (vlen Tryd.underlying22 rfl) <| sv (vlt rfl rfl) <| WL.nil <| WX.thenN <| ?_
      refine WC.ite rfl (fun h4 => ?_) (fun h4 => ?_)
      · -- then
        have hil : i < o.xs.length := by omega
        obtain ⟨a, ha⟩ : ∃ a, o.xs[i]? = some a := ⟨_, List.getElem?_eq_getElem hil⟩
        have hag : gV w0 a := hx a (List.mem_of_getElem? ha)
        have hal := hsm.2 a (List.mem_of_getElem? ha)
        have hpos : 0 < (o.xs.flatMap cellV).length := by omega
        have hac : ((o.xs.flatMap cellV).drop (((i : Int)).toNat * 7)).take 7 = cellV a := by rw [Int.toNat_natCast, flat_take (f := cellV) (s := 7) (fun _ _ => rfl) hil, (List.getElem?_eq_some_iff.1 ha).2]
        obtain ⟨d', e, hce⟩ : ∃ d' e, callP a.1 a.k a.b.xs d = (d', e) := ⟨_, _, rfl⟩
        have hsi' := fun hf => hi2.call (q := a.k) hf hce
        obtain ⟨ki, an, aq, af, ⟨ap, am, u1⟩, ab, u2⟩ := a
        dsimp only [AV.k, AV.b] at hag hal hce hsi'
        refine WC.skip <| WX.thenN <| WC.seq <| WC.block <| WC.seq <| WC.region <| sv (vmS rfl) <| sv (vmI rfl) <| sv (vix Tryd.underlying22 sz36 rfl rfl (by omega) (by omega) (RdC.old ho) hpos) <| sv (vlda ag36 sz36 rfl (RdC.old ho) hac rfl (by decide)) <| alz (cs := [.int .i64 0, .int .i64 0, .int .i64 0, .string ByteArray.empty, .int .i64 0, .int .i64 0, .slice none 0 0]) zt36 (by rfl) fun b11 => stAp sz36 rfl rfl rfl (by intro v hv; simp only [List.mem_cons, List.not_mem_nil, or_false] at hv; rcases hv with rfl | rfl | rfl | rfl | rfl | rfl | rfl <;> rfl) rfl <| WL.nil <| WX.thenN <| WC.seq <| ?_
        refine WC.cutS [(70, .bool (decide (af = nmA ∨ (ki ≠ 1 ∧ ki ≠ 2))))] [(0, .slice _ _ _), (1, .int _ _), (3, .slice _ _ _), (6, _), (9, .pointer _), (12, .int _ _), (13, _)] ⟨rfl, rfl, rfl, rfl, rfl, rfl, rfl, trivial⟩ ?_ fun ρh => ?_
        · -- more.go:67
          refine WC.region <| sv (vfldp fl36f3 rfl) <| sv (vldc pl9 rfl) <| svs (veqs rfl rfl) (fun q3 => ?_) (fun q3 => ?_)
          ·
            exact sv (vmB rfl) <| sng rfl <| sng rfl <| sng rfl <| sng rfl <| sng rfl <| sng rfl <| sng rfl <| sng rfl <| sv (vpkt rfl) <| WL.nil <| WX.mid () trivial ⟨bT (by first | omega | simp_all | grind), trivial⟩ ⟨rfl, rfl, rfl, rfl, rfl, rfl, rfl, trivial⟩ (fun _ h => Sb.own (by repeat' (first | with_reducible exact Sb.all | exact Sb.nil | (apply Sb.cons; focus (first | ((repeat (first | with_reducible exact Tk.here | with_reducible apply Tk.there)); done) | ((repeat (first | exact Tk.here | apply Tk.there)); done))) | apply Sb.drop)) h)
          ·
            refine sv (vmB rfl) <| svg rfl (vfldpz fl36f0 rfl) <| svg rfl (vldc pl3 rfl) <| svsg rfl (vne rfl rfl) (fun q4 => ?_) (fun q4 => ?_)
            ·
              exact svg rfl (vmB rfl) <| svg rfl (vfldpz fl36f0 rfl) <| svg rfl (vldc pl3 rfl) <| svg rfl (vne rfl rfl) <| svg rfl (vpkt rfl) <| sv (vpkf rfl) <| WL.nil <| WX.mid () trivial ⟨bI (by first | omega | simp_all | grind), trivial⟩ ⟨rfl, rfl, rfl, rfl, rfl, rfl, rfl, trivial⟩ (fun _ h => Sb.own (by repeat' (first | with_reducible exact Sb.all | exact Sb.nil | (apply Sb.cons; focus (first | ((repeat (first | with_reducible exact Tk.here | with_reducible apply Tk.there)); done) | ((repeat (first | exact Tk.here | apply Tk.there)); done))) | apply Sb.drop)) h)
            ·
              exact svg rfl (vmB rfl) <| sng rfl <| sng rfl <| sng rfl <| svg rfl (vpkf rfl) <| sv (vpkf rfl) <| WL.nil <| WX.mid () trivial ⟨bF (by first | omega | simp_all | grind), trivial⟩ ⟨rfl, rfl, rfl, rfl, rfl, rfl, rfl, trivial⟩ (fun _ h => Sb.own (by repeat' (first | with_reducible exact Sb.all | exact Sb.nil | (apply Sb.cons; focus (first | ((repeat (first | with_reducible exact Tk.here | with_reducible apply Tk.there)); done) | ((repeat (first | exact Tk.here | apply Tk.there)); done))) | apply Sb.drop)) h)
        refine WC.ite rfl (fun h5 => ?_) (fun h5 => ?_)
        · -- then
          exact WC.exit <| WX.thenE <| WX.blockH <| WX.thenN <| WC.region <| sv (vmI rfl) <| sv (vadd rfl rfl (by omega)) <| sv (vaI rfl) <| WL.nil <| WX.again ((i + 1, d)) (⟨by omega, hi2⟩) (by omega) ⟨rfl, trivial⟩ ⟨rfl, rfl, rfl, rfl, rfl, trivial⟩ (fun w h => vcm_monoA (Nat.le_succ _) (Sb.own (by repeat' (first | with_reducible exact Sb.all | exact Sb.nil | (apply Sb.cons; focus (first | ((repeat (first | with_reducible exact Tk.here | with_reducible apply Tk.there)); done) | ((repeat (first | exact Tk.here | apply Tk.there)); done))) | apply Sb.drop)) h))
        · -- else
          refine WC.skip <| WX.thenN <| WC.region <| sv (vmP rfl) <| sv (vldac ag36 sz36 rfl rfl (by decide)) <| clx (by repeat' (first | with_reducible exact Sb.all | exact Sb.nil | (apply Sb.cons; focus (first | ((repeat (first | with_reducible exact Tk.here | with_reducible apply Tk.there)); done) | ((repeat (first | exact Tk.here | apply Tk.there)); done))) | apply Sb.drop)) (law_callx hce hag.1 (by omega) (by omega) (by omega) (RdC.old hag.2)) ct12 rfl fun r17 hr17 => ?_
          exact WL.nil <| WX.blockN <| WX.thenN <| WC.region <| sv (vmI rfl) <| sv (vadd rfl rfl (by omega)) <| sv (vaI rfl) <| WL.nil <| WX.again ((i + 1, d')) (⟨by omega, hsi' (fun hx => h5 (.inl hx))⟩) (by omega) ⟨rfl, trivial⟩ ⟨rfl, rfl, rfl, rfl, rfl, trivial⟩ (fun _ h => Sb.own (by repeat' (first | with_reducible exact Sb.all | exact Sb.nil | (apply Sb.cons; focus (first | ((repeat (first | with_reducible exact Tk.here | with_reducible apply Tk.there)); done) | ((repeat (first | exact Tk.here | apply Tk.there)); done))) | apply Sb.drop)) h)
      · -- else
        refine WC.exit <| WX.thenE <| WX.thenE <| WX.blockH <| WX.thenN <| WC.seq <| WC.region <| sv (vmP rfl) <| sv (vmI rfl) <| sv (vldac ag24 sz24 rfl rfl (by decide)) <| clx (by repeat' (first | with_reducible exact Sb.all | exact Sb.nil | (apply Sb.cons; focus (first | ((repeat (first | with_reducible exact Tk.here | with_reducible apply Tk.there)); done) | ((repeat (first | exact Tk.here | apply Tk.there)); done))) | apply Sb.drop)) (v_gets_c hk hi2.here) ct13 rfl fun r20 hr20 => ?_
        refine sv vmv <| sv (vex rfl rfl) <| sv (vex rfl rfl) <| sv (vaS rfl) <| sv (vaI rfl) <| WL.nil <| WX.thenN <| WC.seq <| WC.region <| sv (vmP rfl) <| clx (by repeat' (first | with_reducible exact Sb.all | exact Sb.nil | (apply Sb.cons; focus (first | ((repeat (first | with_reducible exact Tk.here | with_reducible apply Tk.there)); done) | ((repeat (first | exact Tk.here | apply Tk.there)); done))) | apply Sb.drop)) (v_numbers_at (l := [n]) hi2.cnt hi2.nums) ct16 rfl fun r21 hr21 => ?_
        refine sv (vaS rfl) <| WL.nil <| WX.thenN <| ?_
        refine WC.cut0 [(8, .bool true)] [] (A) trivial ?_ fun ρh => ?_
        · -- more.go:74
          refine WC.region <| clx (by repeat' (first | with_reducible exact Sb.all | exact Sb.nil | (apply Sb.cons; focus (first | ((repeat (first | with_reducible exact Tk.here | with_reducible apply Tk.there)); done) | ((repeat (first | exact Tk.here | apply Tk.there)); done))) | apply Sb.drop)) (law_awake) ct11 rfl fun r22 hr22 => ?_
          exact sv (vmB rfl) <| svg rfl (vmI rfl) <| svg rfl (vT (veq rfl rfl) (by omega)) <| sv (vpkt rfl) <| sv (vmB rfl) <| svg rfl (vmS rfl) <| svg rfl (vstr (bs := b.xs) Tryd.underlying25 Tryd.underlying5 Tryd.underlying9 rfl (RdC.of_row (c := r20.2) (s := 1) (e := 5) (by simp)) rfl) <| svg rfl (vmS rfl) <| svg rfl (vstr (bs := b.xs) Tryd.underlying25 Tryd.underlying5 Tryd.underlying9 rfl (RdC.old hb) rfl) <| svg rfl (vT (veqs rfl rfl) (rfl)) <| sv (vpkt rfl) <| sv (vmB rfl) <| svg rfl (vmS rfl) <| svg rfl (vlen Tryd.underlying41 rfl) <| svg rfl (vT (veq rfl rfl) (rfl)) <| sv (vpkt rfl) <| sv (vmB rfl) <| svg rfl (vmS rfl) <| svg rfl (vix1 Tryd.underlying41 sz3 rfl rfl (by omega) (by simp) (RdC.of_row (c := r21.2) (s := 1) (e := 3) (vs := i64s [n]) (by simp)) (by simp)) <| svg rfl (vldo pl3 rfl (RdC.of_row (c := r21.2) (s := 1) (e := 3) (vs := i64s [n]) (by simp)) rfl) <| svg rfl (vmI rfl) <| svg rfl (veq rfl rfl) <| sv (vpkt rfl) <| sv (vaB rfl) <| WL.nil <| WX.mid () trivial ⟨(bT rfl).symm, trivial⟩ trivial (fun _ h => Sb.own (by repeat' (first | with_reducible exact Sb.all | exact Sb.nil | (apply Sb.cons; focus (first | ((repeat (first | with_reducible exact Tk.here | with_reducible apply Tk.there)); done) | ((repeat (first | exact Tk.here | apply Tk.there)); done))) | apply Sb.drop)) h)
        exact WC.ret <| WX.ret1 rfl (()) (trivial) rfl (fun _ h => Sb.own (by repeat' (first | with_reducible exact Sb.all | exact Sb.nil | (apply Sb.cons; focus (first | ((repeat (first | with_reducible exact Tk.here | with_reducible apply Tk.there)); done) | ((repeat (first | exact Tk.here | apply Tk.there)); done))) | apply Sb.drop)) h)
end Go.Proofs.YthljpljbpbkkcaaDoor
