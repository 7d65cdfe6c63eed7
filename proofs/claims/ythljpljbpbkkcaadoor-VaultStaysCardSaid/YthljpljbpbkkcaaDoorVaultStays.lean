/-
  Layer 16: a part stays as it was first put.
-/
import Derived.Test.YthljpljbpbkkcaaDoorVaultLawB
set_option linter.unusedVariables false
set_option linter.unusedSimpArgs false
set_option maxRecDepth 4000
namespace Go.Proofs.YthljpljbpbkkcaaDoor
open Go.Sl Go.RowKit Go.Pack Go.Vault Go.Journal

theorem vcm_mono {w0 w : World} {A : List HProp} {v dk m k : Nat} {d : VD} (hm : m ≤ k) (H : Own w0 (vcm v dk d m :: A) w) : Own w0 (vcm v dk d k :: A) w :=
  H.head fun _ h => by obtain ⟨i, hi, h⟩ := h; exact ⟨i, hi.mono hm, h⟩
abbrev nmK : ByteArray := ByteArray.mk #[107, 101, 112, 116]
/-- the part k: there as put, or dropped for good -/
def SI (k : PK) (b : List UInt8) (g : Bool) (d : VD) : Prop := if g = true then d.parts k = none ∧ k.num < d.floors k.flow else d.parts k = some b ∧ d.floors k.flow ≤ k.num
theorem SI.put {k q : PK} {b c : List UInt8} {g : Bool} {d d' : VD} {e : Int} (h : SI k b g d) (hp : putP q c d = (d', e)) : SI k b g d' := by
  unfold putP actP at hp
  split at hp
  · cases hp; exact h
  · rename_i h0
    split at hp
    · cases hp; exact h
    · rename_i h1
      cases hp
      have hw : whyPut d q = ((whyPut d q).1, (whyPut d q).2) := rfl
      unfold whyPut at h0 h1
      split at h0
      · exact absurd (by decide) h0
      · rename_i c0
        rw [if_neg c0] at h1
        split at h0
        · exact absurd (by decide) h0
        · rename_i c1
          rw [if_neg c1] at h1
          split at h0
          · exact absurd (by decide) h0
          · rename_i c2
            rw [if_neg c2] at h1
            have h2 : d.parts q = none := by cases hd : d.parts q with
              | none => rfl
              | some x => rw [hd] at h1; exact absurd rfl h1
            unfold SI at h ⊢
            by_cases hq : k = q
            · subst hq
              split at h
              · omega
              · rw [h2] at h; exact absurd h.1 (by simp)
            · show if g = true then (if k = q then some c else d.parts k) = none ∧ _ else (if k = q then some c else d.parts k) = some b ∧ _
              rw [if_neg hq]; exact h
theorem SI.drop {k : PK} {b : List UInt8} {g : Bool} {d d' : VD} {f : ByteArray} {n e : Int} (h : SI k b g d) (hp : dropP f n d = (d', e)) : SI k b (g || (decide (f = k.flow ∧ e = 0 ∧ n > k.num))) d' := by
  unfold dropP actP at hp
  split at hp
  · rename_i h0
    cases hp
    rw [decide_eq_false (fun hx => h0 hx.2.1), Bool.or_false]; exact h
  · rename_i h0
    unfold whyDrop at h0 hp
    split at h0
    · exact absurd (by decide) h0
    · rename_i c0
      split at h0
      · exact absurd (by decide) h0
      · rename_i c1
        rw [if_neg c0, if_neg c1] at hp
        split at hp
        · rename_i c2
          have c3 : ¬ d.floors f < n := of_decide_eq_false c2
          cases hp
          unfold SI at h ⊢
          cases g with
          | true => exact h
          | false =>
            rw [if_neg (by decide)] at h
            rw [Bool.false_or, decide_eq_false (by rintro ⟨rfl, _, hx⟩; have := h.2; omega), if_neg (by decide)]; exact h
        · rename_i c2
          have c3 : d.floors f < n := by
            by_cases hx : d.floors f < n
            · exact hx
            · exact absurd (decide_eq_false hx) c2
          cases hp
          unfold SI at h ⊢
          show if _ then (if k.flow = f ∧ k.num < n then none else d.parts k) = none ∧ k.num < (if k.flow = f then n else d.floors k.flow) else (if k.flow = f ∧ k.num < n then none else d.parts k) = some b ∧ (if k.flow = f then n else d.floors k.flow) ≤ k.num
          by_cases hf : k.flow = f
          · subst hf
            by_cases hn : k.num < n
            · rw [decide_eq_true ⟨rfl, rfl, hn⟩, Bool.or_true, if_pos rfl, if_pos ⟨rfl, hn⟩, if_pos rfl]
              exact ⟨rfl, hn⟩
            · rw [decide_eq_false (fun hx => hn hx.2.2), Bool.or_false]
              rw [if_neg (show ¬ (k.flow = k.flow ∧ k.num < n) from fun hx => hn hx.2)]
              simp only [if_true]
              split at h
              · omega
              · rename_i hg
                rw [if_neg hg]
                exact ⟨h.1, by omega⟩
          · rw [decide_eq_false (fun hx => hf hx.1.symm), Bool.or_false]
            simp only [if_neg (show ¬ (k.flow = f ∧ k.num < n) from fun hx => hf hx.1), if_neg hf]
            exact h
theorem SI.call {k : PK} {b : List UInt8} {g : Bool} {d d' : VD} {a : AV} {e : Int} (h : SI k b g d) (hp : callP a.1 a.k a.b.xs d = (d', e)) : SI k b (g || (decide (a.1 = 2) && (decide (a.k.flow = k.flow) && (decide (e = 0) && decide (a.k.num > k.num))))) d' := by
  unfold callP at hp
  split at hp
  · rename_i h2
    rw [decide_eq_true h2, Bool.true_and, ← Bool.decide_and, ← Bool.decide_and]
    exact h.drop hp
  · rename_i h2
    rw [decide_eq_false h2, Bool.false_and, Bool.or_false]
    exact h.put hp
theorem SI.first {k : PK} {b : List UInt8} : ∃ d f, putP k b VD.new = (d, f) ∧ (f ≠ 0 → vName k.flow → f = 1) ∧ (f = 0 → SI k b false d) := by
  refine ⟨(putP k b VD.new).1, (putP k b VD.new).2, rfl, fun h hn => ?_, fun h => ?_⟩
  · unfold putP actP at h ⊢
    have : (whyPut VD.new k).1 = 0 ∨ (whyPut VD.new k).1 = 1 := by
      unfold whyPut
      rw [if_neg (fun hx => hx hn)]
      split
      · exact .inr rfl
      · rename_i c
        have c1 : cntP k.num := (Decidable.not_not.1 c).1
        rw [if_neg (by have := c1.1; show ¬ k.num < 0; omega)]
        exact .inl rfl
    rcases this with hx | hx
    · rw [if_neg (fun hy => hy hx)] at h
      split at h <;> exact absurd rfl h
    · rw [if_pos (by rw [hx]; decide)]; exact hx
  · unfold putP actP at h ⊢
    split at h
    · rename_i h0; exact absurd h h0
    · rename_i h0
      rw [if_neg h0]
      unfold whyPut at h0 ⊢
      split at h0
      · exact absurd (by decide) h0
      · rename_i c0
        split at h0
        · exact absurd (by decide) h0
        · rename_i c1
          have c2 : cntP k.num := (Decidable.not_not.1 c1).1
          have c3 : ¬ k.num < VD.new.floors k.flow := by have := c2.1; show ¬ k.num < 0; omega
          rw [if_neg c0, if_neg c1, if_neg c3]
          rw [if_neg (show ¬ ((0 : Int), (VD.new.parts k).isNone).2 = false from by show ¬ (none : Option (List UInt8)).isNone = false; decide)]
          unfold SI
          rw [if_neg (by decide)]
          exact ⟨if_pos rfl, by show (0 : Int) ≤ k.num; have := c2.1; omega⟩
theorem stays1 {P : Prop} [Decidable P] {x : Nat} (h : (!decide P) = false) : 256 < (x : Int) ↔ ¬ (P ∧ x ≤ 256) := by
  have hP : P := by simpa using h
  constructor
  · intro hx hy; omega
  · intro hx
    have : ¬ x ≤ 256 := fun h => hx ⟨hP, h⟩
    omega
theorem v_get_si {w0 : World} {A : List HProp} {v dk m : Nat} {d : VD} {k : PK} {b : List UInt8} {g : Bool} (hk : PkOk k) (h : SI k b g d) : Fun Tryd.prog w0 13 [.pointer (some ⟨v, 0, none⟩), .string k.flow, .int .i64 k.num, .agg #[.int .i64 k.kind, .int .i64 k.n]] (vcm v dk d m :: A) (Ret w0 (fun i : Option Addr × Nat × List UInt8 × Int => i.2.2.1.length ≤ i.2.1 ∧ if g = true then i.2.2.2 = 6 else i.2.2.2 = 0 ∧ i.2.2.1 = b) (fun i => .tuple #[.slice i.1 i.2.2.1.length i.2.1, .int .i64 i.2.2.2]) (fun i => row i.1 i.2.1 1 5 (u8s i.2.2.1) :: vcm v dk d m :: A)) := by
  unfold SI at h
  split at h
  · rename_i hg
    exact (v_getn_c hk h.1).mono fun e w ⟨i, h1, he, hO⟩ => ⟨(none, 0, [], 6), ⟨Nat.le_refl _, by rw [if_pos hg]⟩, he, hO.intro_row_nil⟩
  · rename_i hg
    exact (v_gets_c hk h.1).mono fun e w ⟨i, h1, he, hO⟩ => ⟨(i.1, i.2, b, 0), ⟨h1, by rw [if_neg hg]; exact ⟨rfl, rfl⟩⟩, he, hO⟩
theorem law_stays {w0 : World} {A : List HProp} {o : Sla AV} {pk pn n : Int} {b : Sla UInt8} (ho : Rd w0 o.base (o.xs.flatMap cellV)) (hx : ∀ a ∈ o.xs, gV w0 a) (hb : Rd w0 b.base (u8s b.xs)) (hk : PkOk ⟨nmK, n, pk, pn⟩) :
    Fun Tryd.prog w0 3 [.slice o.base o.xs.length o.cap, .agg #[.int .i64 pk, .int .i64 pn], .int .i64 n, .slice b.base b.xs.length b.cap] A (Ret w0 (fun _ : Unit => True) (fun _ => .bool true) (fun _ => A)) := by
  have hfl : (o.xs.flatMap cellV).length = o.xs.length * 7 := flat_len (fun _ _ => rfl)
  refine Fun.enter Tryd.func3 rfl Tryd.ntmps3 rfl ?_
  refine WC.seq <| WC.region <| bxc (v := .agg _) (cs := [.int _ _, .int _ _]) rfl rfl fun b1 => sv (vaB rfl) <| WL.nil <| WX.thenN <| WC.seq <| ?_
  refine WC.cutS [(25, .bool (decide (¬ ((o.xs.length ≤ 120 ∧ ∀ a ∈ o.xs, a.b.xs.length ≤ 256 ∧ a.k.flow.size ≤ 64) ∧ b.xs.length ≤ 256))))] [(0, .slice _ _ _), (2, .int _ _), (3, .slice _ _ _), (5, _)] ⟨rfl, rfl, rfl, rfl, trivial⟩ ?_ fun ρh => ?_
  · -- law.go:207
    refine WC.region <| sv (vmS rfl) <| clx (by repeat' (first | with_reducible exact Sb.all | exact Sb.nil | (apply Sb.cons; focus (first | ((repeat (first | with_reducible exact Tk.here | with_reducible apply Tk.there)); done) | ((repeat (first | exact Tk.here | apply Tk.there)); done))) | apply Sb.drop)) (law_small ho) ct7 rfl fun r2 hr2 => ?_
    refine svb (vnot rfl) (fun q1 => ?_) (fun q1 => ?_)
    ·
      exact sv (vmB rfl) <| sng rfl <| sng rfl <| sng rfl <| sv (vpkt rfl) <| WL.nil <| WX.mid () trivial ⟨bT (fun hx => by rw [decide_eq_true hx.1] at q1; exact absurd q1 (by decide)), trivial⟩ ⟨rfl, rfl, rfl, rfl, trivial⟩ (fun _ h => Sb.own (by repeat' (first | with_reducible exact Sb.all | exact Sb.nil | (apply Sb.cons; focus (first | ((repeat (first | with_reducible exact Tk.here | with_reducible apply Tk.there)); done) | ((repeat (first | exact Tk.here | apply Tk.there)); done))) | apply Sb.drop)) h)
    ·
      exact sv (vmB rfl) <| svg rfl (vmS rfl) <| svg rfl (vlen Tryd.underlying25 rfl) <| svg rfl (vgt rfl rfl) <| sv (vpkf rfl) <| WL.nil <| WX.mid () trivial ⟨bI (stays1 q1), trivial⟩ ⟨rfl, rfl, rfl, rfl, trivial⟩ (fun _ h => Sb.own (by repeat' (first | with_reducible exact Sb.all | exact Sb.nil | (apply Sb.cons; focus (first | ((repeat (first | with_reducible exact Tk.here | with_reducible apply Tk.there)); done) | ((repeat (first | exact Tk.here | apply Tk.there)); done))) | apply Sb.drop)) h)
  refine WC.iteb rfl (fun h1 => ?_) (fun h1 => ?_)
  · -- then
    exact WC.seq <| WC.region <| sv (vaB rfl) <| WL.nil <| WX.thenN <| WC.ret <| WX.thenR <| WX.ret1 rfl (()) (trivial) rfl (fun _ h => Sb.own (by repeat' (first | with_reducible exact Sb.all | exact Sb.nil | (apply Sb.cons; focus (first | ((repeat (first | with_reducible exact Tk.here | with_reducible apply Tk.there)); done) | ((repeat (first | exact Tk.here | apply Tk.there)); done))) | apply Sb.drop)) h)
  · -- else
    obtain ⟨hsm, hbl⟩ := Decidable.not_not.1 (of_decide_eq_false h1)
    obtain ⟨d1, f1, hf1, hfa, hfb⟩ := SI.first (k := ⟨nmK, n, pk, pn⟩) (b := b.xs)
    refine WC.skip <| WX.thenN <| WC.seq <| WC.region <| clx (by repeat' (first | with_reducible exact Sb.all | exact Sb.nil | (apply Sb.cons; focus (first | ((repeat (first | with_reducible exact Tk.here | with_reducible apply Tk.there)); done) | ((repeat (first | exact Tk.here | apply Tk.there)); done))) | apply Sb.drop)) (disk_new) ct9 rfl fun r3 hr3 => ?_
    refine clx (by repeat' (first | with_reducible exact Sb.all | exact Sb.nil | (apply Sb.cons; focus (first | ((repeat (first | with_reducible exact Tk.here | with_reducible apply Tk.there)); done) | ((repeat (first | exact Tk.here | apply Tk.there)); done))) | apply Sb.drop)) (v_open_c) ct8 rfl fun r4 hr4 => ?_
    refine sv vmv <| sv (vex rfl rfl) <| sv (vex rfl rfl) <| sv (vaP rfl) <| sv (vaI rfl) <| WL.nil <| WX.thenN <| WC.seq <| ?_
    refine WC.cutS [(36, .bool false)] [(0, .slice _ _ _), (2, .int _ _), (3, .slice _ _ _), (5, _), (9, .pointer _)] ⟨rfl, rfl, rfl, rfl, rfl, trivial⟩ ?_ fun ρh => ?_
    · -- law.go:211
      exact WC.region <| sv (vmP rfl) <| sv (vpeqF Tryd.underlying27 rfl rfl) <| sv (vmB rfl) <| svg rfl (vmI rfl) <| svg rfl (vne rfl rfl) <| sv (vpkf rfl) <| WL.nil <| WX.mid () trivial ⟨rfl, trivial⟩ ⟨rfl, rfl, rfl, rfl, rfl, trivial⟩ (fun _ h => Sb.own (by repeat' (first | with_reducible exact Sb.all | exact Sb.nil | (apply Sb.cons; focus (first | ((repeat (first | with_reducible exact Tk.here | with_reducible apply Tk.there)); done) | ((repeat (first | exact Tk.here | apply Tk.there)); done))) | apply Sb.drop)) h)
    refine WC.ff rfl ?_
    refine WC.skip <| WX.thenN <| WC.seq <| WC.region <| sv (vmP rfl) <| sv (vmI rfl) <| sv (vldac ag24 sz24 rfl rfl (by decide)) <| sv (vmS rfl) <| clx (by repeat' (first | with_reducible exact Sb.all | exact Sb.nil | (apply Sb.cons; focus (first | ((repeat (first | with_reducible exact Tk.here | with_reducible apply Tk.there)); done) | ((repeat (first | exact Tk.here | apply Tk.there)); done))) | apply Sb.drop)) (v_put_at (k := ⟨nmK, n, pk, pn⟩) (bs := b.xs) (hR := ⟨RdC.old hb⟩) hf1 hk (show nmK.size ≤ 4096 by decide) (by omega) (by omega)) ct10 rfl fun r7 hr7 => ?_
    refine sv (vaI rfl) <| WL.nil <| WX.thenN <| WC.seq <| WC.seq <| WC.region <| sv (vmI rfl) <| sv (vne rfl rfl) <| WL.nil <| WX.thenN <| ?_
    refine WC.ite rfl (fun h3 => ?_) (fun h3 => ?_)
    · -- then
      have hf9 : f1 = 1 := hfa h3 (show vName nmK by decide)
      refine WC.cut0 [(8, .bool true)] [] (A) trivial ?_ fun ρh => ?_
      · -- law.go:216
        refine WC.region <| clx (by repeat' (first | with_reducible exact Sb.all | exact Sb.nil | (apply Sb.cons; focus (first | ((repeat (first | with_reducible exact Tk.here | with_reducible apply Tk.there)); done) | ((repeat (first | exact Tk.here | apply Tk.there)); done))) | apply Sb.drop)) (law_awake) ct11 rfl fun r8 hr8 => ?_
        refine svb (vmB rfl) (fun q2 => ?_) (fun q2 => ?_)
        ·
          exact svg rfl (vmI rfl) <| svg rfl (veq rfl rfl) <| sv (vpkt rfl) <| sv (vaB rfl) <| WL.nil <| WX.mid () trivial ⟨(bT hf9).symm, trivial⟩ trivial (fun _ h => Sb.own (by repeat' (first | with_reducible exact Sb.all | exact Sb.nil | (apply Sb.cons; focus (first | ((repeat (first | with_reducible exact Tk.here | with_reducible apply Tk.there)); done) | ((repeat (first | exact Tk.here | apply Tk.there)); done))) | apply Sb.drop)) h)
        ·
          exact sng rfl <| sng rfl <| sv (vpkf rfl) <| sv (vaB rfl) <| WL.nil <| WX.mid () trivial ⟨(by cases q2), trivial⟩ trivial (fun _ h => Sb.own (by repeat' (first | with_reducible exact Sb.all | exact Sb.nil | (apply Sb.cons; focus (first | ((repeat (first | with_reducible exact Tk.here | with_reducible apply Tk.there)); done) | ((repeat (first | exact Tk.here | apply Tk.there)); done))) | apply Sb.drop)) h)
      exact WC.ret <| WX.thenR <| WX.ret1 rfl (()) (trivial) rfl (fun _ h => Sb.own (by repeat' (first | with_reducible exact Sb.all | exact Sb.nil | (apply Sb.cons; focus (first | ((repeat (first | with_reducible exact Tk.here | with_reducible apply Tk.there)); done) | ((repeat (first | exact Tk.here | apply Tk.there)); done))) | apply Sb.drop)) h)
    · -- else
      have hsi := hfb (by omega)
      refine WC.skip <| WX.thenN <| WC.seq <| WC.region <| sv (vaB rfl) <| WL.nil <| WX.thenN <| WC.seq <| WC.seq <| WC.region <| sv (vaI rfl) <| WL.nil <| WX.thenN <| WC.block <| ?_
      refine WC.loop (ι := Nat × Bool × VD) (fun i => [(12, .bool i.2.1), (13, .int .i64 i.1)]) [(0, .slice _ _ _), (2, .int _ _), (3, .slice _ _ _), (5, _), (9, .pointer _)] (fun i => vcm r4 r3 i.2.2 (i.1 + 1) :: cel b1 [.int .i64 pk, .int .i64 pn] 24 :: A) (fun i => i.1 ≤ o.xs.length ∧ SI ⟨nmK, n, pk, pn⟩ b.xs i.2.1 i.2.2) (fun i => o.xs.length - i.1) ((0, false, d1)) (⟨Nat.zero_le _, hsi⟩) ⟨rfl, rfl, trivial⟩ ⟨rfl, rfl, rfl, rfl, rfl, trivial⟩ (fun _ h => Sb.own (by repeat' (first | with_reducible exact Sb.all | exact Sb.nil | (apply Sb.cons; focus (first | ((repeat (first | with_reducible exact Tk.here | with_reducible apply Tk.there)); done) | ((repeat (first | exact Tk.here | apply Tk.there)); done))) | apply Sb.drop)) h) ?_
      rintro ⟨i, g, d⟩ ⟨hi1, hi2⟩ ρh
      dsimp only at hi1 hi2 ⊢
      refine WC.seq <| WC.seq <| WC.region <| sv (vmI rfl) <| sv (vmS rfl) <| sv (vlen Tryd.underlying22 rfl) <| sv (vlt rfl rfl) <| WL.nil <| WX.thenN <| ?_
      refine WC.ite rfl (fun h4 => ?_) (fun h4 => ?_)
      · -- then
        have hil : i < o.xs.length := by omega
        obtain ⟨a, ha⟩ : ∃ a, o.xs[i]? = some a := ⟨_, List.getElem?_eq_getElem hil⟩
        have hag : gV w0 a := hx a (List.mem_of_getElem? ha)
        have hal := hsm.2 a (List.mem_of_getElem? ha)
        have hpos : 0 < (o.xs.flatMap cellV).length := by omega
        have hac : ((o.xs.flatMap cellV).drop (((i : Int)).toNat * 7)).take 7 = cellV a := by rw [Int.toNat_natCast, flat_take (f := cellV) (s := 7) (fun _ _ => rfl) hil, (List.getElem?_eq_some_iff.1 ha).2]
        obtain ⟨d', e, hce⟩ : ∃ d' e, callP a.1 a.k a.b.xs d = (d', e) := ⟨_, _, rfl⟩
        have hsi' := hi2.call hce
        obtain ⟨ki, an, aq, af, ⟨ap, am, u1⟩, ab, u2⟩ := a
        dsimp only [AV.k, AV.b] at hag hal hce hsi'
        refine WC.skip <| WX.thenN <| WC.seq <| WC.block <| WC.seq <| WC.region <| sv (vmS rfl) <| sv (vmI rfl) <| sv (vix Tryd.underlying22 sz36 rfl rfl (by omega) (by omega) (RdC.old ho) hpos) <| sv (vlda ag36 sz36 rfl (RdC.old ho) hac rfl (by decide)) <| alz (cs := [.int .i64 0, .int .i64 0, .int .i64 0, .string ByteArray.empty, .int .i64 0, .int .i64 0, .slice none 0 0]) zt36 (by rfl) fun b11 => stAp sz36 rfl rfl rfl (by intro v hv; simp only [List.mem_cons, List.not_mem_nil, or_false] at hv; rcases hv with rfl | rfl | rfl | rfl | rfl | rfl | rfl <;> rfl) rfl <| WL.nil <| WX.thenN <| ?_
        refine WC.cutv (ι := Bool × VD) (fun jv => [(12, .bool jv.1)]) [(0, .slice _ _ _), (2, .int _ _), (3, .slice _ _ _), (5, _), (9, .pointer _), (13, .int _ _)] (fun jv => vcm r4 r3 jv.2 (i + 1 + 1) :: cel b1 [.int .i64 pk, .int .i64 pn] 24 :: A) (fun jv => SI ⟨nmK, n, pk, pn⟩ b.xs jv.1 jv.2) ⟨rfl, rfl, rfl, rfl, rfl, rfl, trivial⟩ ?_ ?_
        · -- up to the join
          refine WC.cutS [(66, .bool (decide (ki = 1 ∨ ki = 2)))] [(0, .slice _ _ _), (2, .int _ _), (3, .slice _ _ _), (5, _), (9, .pointer _), (12, .bool _), (13, .int _ _), (14, _)] ⟨rfl, rfl, rfl, rfl, rfl, rfl, rfl, rfl, trivial⟩ ?_ fun ρh => ?_
          · -- law.go:221
            refine WC.region <| sv (vfldpz fl36f0 rfl) <| sv (vldc pl3 rfl) <| svs (veq rfl rfl) (fun q3 => ?_) (fun q3 => ?_)
            ·
              exact sv (vmB rfl) <| sng rfl <| sng rfl <| sng rfl <| sv (vpkt rfl) <| WL.nil <| WX.mid () trivial ⟨bT (by first | omega | simp_all | grind), trivial⟩ ⟨rfl, rfl, rfl, rfl, rfl, rfl, rfl, rfl, trivial⟩ (fun _ h => Sb.own (by repeat' (first | with_reducible exact Sb.all | exact Sb.nil | (apply Sb.cons; focus (first | ((repeat (first | with_reducible exact Tk.here | with_reducible apply Tk.there)); done) | ((repeat (first | exact Tk.here | apply Tk.there)); done))) | apply Sb.drop)) h)
            ·
              exact sv (vmB rfl) <| svg rfl (vfldpz fl36f0 rfl) <| svg rfl (vldc pl3 rfl) <| svg rfl (veq rfl rfl) <| sv (vpkf rfl) <| WL.nil <| WX.mid () trivial ⟨bI (by first | omega | simp_all | grind), trivial⟩ ⟨rfl, rfl, rfl, rfl, rfl, rfl, rfl, rfl, trivial⟩ (fun _ h => Sb.own (by repeat' (first | with_reducible exact Sb.all | exact Sb.nil | (apply Sb.cons; focus (first | ((repeat (first | with_reducible exact Tk.here | with_reducible apply Tk.there)); done) | ((repeat (first | exact Tk.here | apply Tk.there)); done))) | apply Sb.drop)) h)
          refine WC.ite rfl (fun h5 => ?_) (fun h5 => ?_)
          · -- then
            refine WC.seq <| WC.region <| sv (vmP rfl) <| sv (vldac ag36 sz36 rfl rfl (by decide)) <| clx (by repeat' (first | with_reducible exact Sb.all | exact Sb.nil | (apply Sb.cons; focus (first | ((repeat (first | with_reducible exact Tk.here | with_reducible apply Tk.there)); done) | ((repeat (first | exact Tk.here | apply Tk.there)); done))) | apply Sb.drop)) (law_callx hce hag.1 (by omega) (by omega) (by omega) (RdC.old hag.2)) ct12 rfl fun r16 hr16 => ?_
            refine sv (vaI rfl) <| WL.nil <| WX.thenN <| WC.region <| svb (vmB rfl) (fun q4 => ?_) (fun q4 => ?_)
            ·
              exact sv (vmB rfl) <| sng rfl <| sng rfl <| sng rfl <| sng rfl <| sng rfl <| sng rfl <| sng rfl <| sng rfl <| sng rfl <| sng rfl <| sng rfl <| sng rfl <| sng rfl <| sng rfl <| sng rfl <| sng rfl <| sng rfl <| sng rfl <| sv (vpkt rfl) <| sv (vaB rfl) <| WL.nil <| WX.mid ((true, d')) (by rw [q4, Bool.true_or] at hsi'; exact hsi') ⟨rfl, trivial⟩ ⟨rfl, rfl, rfl, rfl, rfl, rfl, trivial⟩ (fun _ h => Sb.own (by repeat' (first | with_reducible exact Sb.all | exact Sb.nil | (apply Sb.cons; focus (first | ((repeat (first | with_reducible exact Tk.here | with_reducible apply Tk.there)); done) | ((repeat (first | exact Tk.here | apply Tk.there)); done))) | apply Sb.drop)) h)
            ·
              refine sv (vmB rfl) <| svg rfl (vfldpz fl36f0 rfl) <| svg rfl (vldc pl3 rfl) <| svsg rfl (veq rfl rfl) (fun q5 => ?_) (fun q5 => ?_)
              ·
                refine svg rfl (vmB rfl) <| svg rfl (vfldp fl36f3 rfl) <| svg rfl (vldc pl9 rfl) <| svsg rfl (veqs rfl rfl) (fun q6 => ?_) (fun q6 => ?_)
                ·
                  refine svg rfl (vpkt rfl) <| svg rfl (vmB rfl) <| svg rfl (vmI rfl) <| svsg rfl (veq rfl rfl) (fun q7 => ?_) (fun q7 => ?_)
                  ·
                    exact svg rfl (vpkt rfl) <| svg rfl (vmB rfl) <| svg rfl (vfldp fl36f1 rfl) <| svg rfl (vldc pl3 rfl) <| svg rfl (vmI rfl) <| svg rfl (vgt rfl rfl) <| svg rfl (vpkt rfl) <| sv (vpkf rfl) <| sv (vaB rfl) <| WL.nil <| WX.mid ((decide (an > n), d')) (by have q5' : ki = 2 := q5; have q6' : af = nmK := q6; rw [q4, decide_eq_true q5', decide_eq_true q6', decide_eq_true q7, Bool.false_or, Bool.true_and, Bool.true_and, Bool.true_and] at hsi'; exact hsi') ⟨rfl, trivial⟩ ⟨rfl, rfl, rfl, rfl, rfl, rfl, trivial⟩ (fun _ h => Sb.own (by repeat' (first | with_reducible exact Sb.all | exact Sb.nil | (apply Sb.cons; focus (first | ((repeat (first | with_reducible exact Tk.here | with_reducible apply Tk.there)); done) | ((repeat (first | exact Tk.here | apply Tk.there)); done))) | apply Sb.drop)) h)
                  ·
                    exact svg rfl (vpkt rfl) <| svg rfl (vmB rfl) <| sng rfl <| sng rfl <| sng rfl <| sng rfl <| svg rfl (vpkf rfl) <| sv (vpkf rfl) <| sv (vaB rfl) <| WL.nil <| WX.mid ((false, d')) (by simpa [q4, q5, q6, q7] using hsi') ⟨rfl, trivial⟩ ⟨rfl, rfl, rfl, rfl, rfl, rfl, trivial⟩ (fun _ h => Sb.own (by repeat' (first | with_reducible exact Sb.all | exact Sb.nil | (apply Sb.cons; focus (first | ((repeat (first | with_reducible exact Tk.here | with_reducible apply Tk.there)); done) | ((repeat (first | exact Tk.here | apply Tk.there)); done))) | apply Sb.drop)) h)
                ·
                  exact svg rfl (vpkt rfl) <| svg rfl (vmB rfl) <| sng rfl <| sng rfl <| svg rfl (vpkf rfl) <| svg rfl (vmB rfl) <| sng rfl <| sng rfl <| sng rfl <| sng rfl <| svg rfl (vpkf rfl) <| sv (vpkf rfl) <| sv (vaB rfl) <| WL.nil <| WX.mid ((false, d')) (by simpa [q4, q5, q6] using hsi') ⟨rfl, trivial⟩ ⟨rfl, rfl, rfl, rfl, rfl, rfl, trivial⟩ (fun _ h => Sb.own (by repeat' (first | with_reducible exact Sb.all | exact Sb.nil | (apply Sb.cons; focus (first | ((repeat (first | with_reducible exact Tk.here | with_reducible apply Tk.there)); done) | ((repeat (first | exact Tk.here | apply Tk.there)); done))) | apply Sb.drop)) h)
              ·
                exact svg rfl (vmB rfl) <| sng rfl <| sng rfl <| sng rfl <| svg rfl (vpkf rfl) <| svg rfl (vmB rfl) <| sng rfl <| sng rfl <| svg rfl (vpkf rfl) <| svg rfl (vmB rfl) <| sng rfl <| sng rfl <| sng rfl <| sng rfl <| svg rfl (vpkf rfl) <| sv (vpkf rfl) <| sv (vaB rfl) <| WL.nil <| WX.mid ((false, d')) (by simpa [q4, q5] using hsi') ⟨rfl, trivial⟩ ⟨rfl, rfl, rfl, rfl, rfl, rfl, trivial⟩ (fun _ h => Sb.own (by repeat' (first | with_reducible exact Sb.all | exact Sb.nil | (apply Sb.cons; focus (first | ((repeat (first | with_reducible exact Tk.here | with_reducible apply Tk.there)); done) | ((repeat (first | exact Tk.here | apply Tk.there)); done))) | apply Sb.drop)) h)
          · -- else
            exact WC.skip <| WX.mid ((g, d)) (hi2) ⟨rfl, trivial⟩ ⟨rfl, rfl, rfl, rfl, rfl, rfl, trivial⟩ (fun w h => vcm_mono (Nat.le_succ _) (Sb.own (by repeat' (first | with_reducible exact Sb.all | exact Sb.nil | (apply Sb.cons; focus (first | ((repeat (first | with_reducible exact Tk.here | with_reducible apply Tk.there)); done) | ((repeat (first | exact Tk.here | apply Tk.there)); done))) | apply Sb.drop)) h))
        · -- behind the join
          rintro ⟨g2, d2⟩ hsi2 ρh
          dsimp only at hsi2 ⊢
          refine WC.seq <| WC.region <| sv (vmP rfl) <| sv (vmI rfl) <| sv (vldac ag24 sz24 rfl rfl (by decide)) <| clx (by repeat' (first | with_reducible exact Sb.all | exact Sb.nil | (apply Sb.cons; focus (first | ((repeat (first | with_reducible exact Tk.here | with_reducible apply Tk.there)); done) | ((repeat (first | exact Tk.here | apply Tk.there)); done))) | apply Sb.drop)) (v_get_si hk hsi2) ct13 rfl fun r21 hr21 => ?_
          obtain ⟨gb, gc, gl, ge⟩ := r21
          obtain ⟨hg1, hg2⟩ := hr21
          dsimp only at hg1 hg2 ⊢
          refine sv vmv <| sv (vex rfl rfl) <| sv (vex rfl rfl) <| sv (vaS rfl) <| sv (vaI rfl) <| WL.nil <| WX.thenN <| ?_
          refine WC.cutS [(117, .bool false)] [(0, .slice _ _ _), (2, .int _ _), (3, .slice _ _ _), (5, _), (9, .pointer _), (12, .bool _), (13, .int _ _)] ⟨rfl, rfl, rfl, rfl, rfl, rfl, rfl, trivial⟩ ?_ fun ρh => ?_
          · -- law.go:226
            refine WC.region <| svb (vmB rfl) (fun q8 => ?_) (fun q8 => ?_)
            ·
              refine sv (vmB rfl) <| svg rfl (vmI rfl) <| svsg rfl (vne rfl rfl) (fun q9 => ?_) (fun q9 => ?_)
              ·
                exact sv (vpkt rfl) <| sv (vmB rfl) <| sng rfl <| sng rfl <| sng rfl <| sng rfl <| sng rfl <| sng rfl <| sng rfl <| sng rfl <| sng rfl <| sng rfl <| sng rfl <| sng rfl <| sng rfl <| sv (vpkt rfl) <| WL.nil <| WX.mid () trivial ⟨(by rw [if_pos q8] at hg2; exact absurd hg2 q9), trivial⟩ ⟨rfl, rfl, rfl, rfl, rfl, rfl, rfl, trivial⟩ (fun _ h => Sb.own (by repeat' (first | with_reducible exact Sb.all | exact Sb.nil | (apply Sb.cons; focus (first | ((repeat (first | with_reducible exact Tk.here | with_reducible apply Tk.there)); done) | ((repeat (first | exact Tk.here | apply Tk.there)); done))) | apply Sb.drop)) h)
              ·
                refine sv (vpkt rfl) <| sv (vmB rfl) <| svbg rfl (vmB rfl) (fun q10 => ?_) (fun q10 => ?_)
                ·
                  exact svg rfl (vnot rfl) <| svg rfl (vmB rfl) <| sng rfl <| sng rfl <| sng rfl <| sng rfl <| sng rfl <| sng rfl <| sng rfl <| sng rfl <| sng rfl <| svg rfl (vpkf rfl) <| sv (vpkf rfl) <| WL.nil <| WX.mid () trivial ⟨rfl, trivial⟩ ⟨rfl, rfl, rfl, rfl, rfl, rfl, rfl, trivial⟩ (fun _ h => Sb.own (by repeat' (first | with_reducible exact Sb.all | exact Sb.nil | (apply Sb.cons; focus (first | ((repeat (first | with_reducible exact Tk.here | with_reducible apply Tk.there)); done) | ((repeat (first | exact Tk.here | apply Tk.there)); done))) | apply Sb.drop)) h)
                ·
                  refine svg rfl (vnot rfl) <| svg rfl (vmB rfl) <| svg rfl (vmI rfl) <| svsg rfl (vne rfl rfl) (fun q11 => ?_) (fun q11 => ?_)
                  ·
                    exact svg rfl (vmB rfl) <| sng rfl <| sng rfl <| sng rfl <| sng rfl <| sng rfl <| svg rfl (vpkt rfl) <| svg rfl (vpkt rfl) <| sv (vpkf rfl) <| WL.nil <| WX.mid () trivial ⟨(by rw [q8] at q10; cases q10), trivial⟩ ⟨rfl, rfl, rfl, rfl, rfl, rfl, rfl, trivial⟩ (fun _ h => Sb.own (by repeat' (first | with_reducible exact Sb.all | exact Sb.nil | (apply Sb.cons; focus (first | ((repeat (first | with_reducible exact Tk.here | with_reducible apply Tk.there)); done) | ((repeat (first | exact Tk.here | apply Tk.there)); done))) | apply Sb.drop)) h)
                  ·
                    exact svg rfl (vmB rfl) <| svg rfl (vmS rfl) <| svg rfl (vstr (bs := gl) Tryd.underlying25 Tryd.underlying5 Tryd.underlying9 rfl (RdC.of_row (c := gc) (s := 1) (e := 5) (by simp)) rfl) <| svg rfl (vmS rfl) <| svg rfl (vstr (bs := b.xs) Tryd.underlying25 Tryd.underlying5 Tryd.underlying9 rfl (RdC.old hb) rfl) <| svg rfl (vnes rfl rfl) <| svg rfl (vpkf rfl) <| svg rfl (vpkt rfl) <| sv (vpkf rfl) <| WL.nil <| WX.mid () trivial ⟨(by rw [q8] at q10; cases q10), trivial⟩ ⟨rfl, rfl, rfl, rfl, rfl, rfl, rfl, trivial⟩ (fun _ h => Sb.own (by repeat' (first | with_reducible exact Sb.all | exact Sb.nil | (apply Sb.cons; focus (first | ((repeat (first | with_reducible exact Tk.here | with_reducible apply Tk.there)); done) | ((repeat (first | exact Tk.here | apply Tk.there)); done))) | apply Sb.drop)) h)
            ·
              refine sv (vmB rfl) <| sng rfl <| sng rfl <| sv (vpkf rfl) <| sv (vmB rfl) <| svbg rfl (vmB rfl) (fun q12 => ?_) (fun q12 => ?_)
              ·
                exact svg rfl (vnot rfl) <| svg rfl (vmB rfl) <| sng rfl <| sng rfl <| sng rfl <| sng rfl <| sng rfl <| sng rfl <| sng rfl <| sng rfl <| sng rfl <| svg rfl (vpkf rfl) <| sv (vpkf rfl) <| WL.nil <| WX.mid () trivial ⟨rfl, trivial⟩ ⟨rfl, rfl, rfl, rfl, rfl, rfl, rfl, trivial⟩ (fun _ h => Sb.own (by repeat' (first | with_reducible exact Sb.all | exact Sb.nil | (apply Sb.cons; focus (first | ((repeat (first | with_reducible exact Tk.here | with_reducible apply Tk.there)); done) | ((repeat (first | exact Tk.here | apply Tk.there)); done))) | apply Sb.drop)) h)
              ·
                refine svg rfl (vnot rfl) <| svg rfl (vmB rfl) <| svg rfl (vmI rfl) <| svsg rfl (vne rfl rfl) (fun q13 => ?_) (fun q13 => ?_)
                ·
                  exact svg rfl (vmB rfl) <| sng rfl <| sng rfl <| sng rfl <| sng rfl <| sng rfl <| svg rfl (vpkt rfl) <| svg rfl (vpkt rfl) <| sv (vpkf rfl) <| WL.nil <| WX.mid () trivial ⟨(by rw [q8, if_neg (by decide)] at hg2; exact absurd hg2.1 q13), trivial⟩ ⟨rfl, rfl, rfl, rfl, rfl, rfl, rfl, trivial⟩ (fun _ h => Sb.own (by repeat' (first | with_reducible exact Sb.all | exact Sb.nil | (apply Sb.cons; focus (first | ((repeat (first | with_reducible exact Tk.here | with_reducible apply Tk.there)); done) | ((repeat (first | exact Tk.here | apply Tk.there)); done))) | apply Sb.drop)) h)
                ·
                  exact svg rfl (vmB rfl) <| svg rfl (vmS rfl) <| svg rfl (vstr (bs := gl) Tryd.underlying25 Tryd.underlying5 Tryd.underlying9 rfl (RdC.of_row (c := gc) (s := 1) (e := 5) (by simp)) rfl) <| svg rfl (vmS rfl) <| svg rfl (vstr (bs := b.xs) Tryd.underlying25 Tryd.underlying5 Tryd.underlying9 rfl (RdC.old hb) rfl) <| svg rfl (vnes rfl rfl) <| svg rfl (vpkf rfl) <| svg rfl (vpkt rfl) <| sv (vpkf rfl) <| WL.nil <| WX.mid () trivial ⟨(by rw [q8, if_neg (by decide)] at hg2; rw [hg2.2]; exact (bF (fun hx => hx rfl)).symm), trivial⟩ ⟨rfl, rfl, rfl, rfl, rfl, rfl, rfl, trivial⟩ (fun _ h => Sb.own (by repeat' (first | with_reducible exact Sb.all | exact Sb.nil | (apply Sb.cons; focus (first | ((repeat (first | with_reducible exact Tk.here | with_reducible apply Tk.there)); done) | ((repeat (first | exact Tk.here | apply Tk.there)); done))) | apply Sb.drop)) h)
          refine WC.ff rfl ?_
          exact WC.skip <| WX.blockN <| WX.thenN <| WC.region <| sv (vmI rfl) <| sv (vadd rfl rfl (by omega)) <| sv (vaI rfl) <| WL.nil <| WX.again ((i + 1, g2, d2)) (⟨by omega, hsi2⟩) (by omega) ⟨rfl, rfl, trivial⟩ ⟨rfl, rfl, rfl, rfl, rfl, trivial⟩ (fun _ h => Sb.own (by repeat' (first | with_reducible exact Sb.all | exact Sb.nil | (apply Sb.cons; focus (first | ((repeat (first | with_reducible exact Tk.here | with_reducible apply Tk.there)); done) | ((repeat (first | exact Tk.here | apply Tk.there)); done))) | apply Sb.drop)) h)
      · -- else
        refine WC.exit <| WX.thenE <| WX.thenE <| WX.blockH <| WX.thenN <| WC.seq <| WC.region <| clx (by repeat' (first | with_reducible exact Sb.all | exact Sb.nil | (apply Sb.cons; focus (first | ((repeat (first | with_reducible exact Tk.here | with_reducible apply Tk.there)); done) | ((repeat (first | exact Tk.here | apply Tk.there)); done))) | apply Sb.drop)) (law_awake) ct11 rfl fun r25 hr25 => ?_
        exact sv (vaB rfl) <| WL.nil <| WX.thenN <| WC.ret <| WX.ret1 rfl (()) (trivial) rfl (fun _ h => Sb.own (by repeat' (first | with_reducible exact Sb.all | exact Sb.nil | (apply Sb.cons; focus (first | ((repeat (first | with_reducible exact Tk.here | with_reducible apply Tk.there)); done) | ((repeat (first | exact Tk.here | apply Tk.there)); done))) | apply Sb.drop)) h)
end Go.Proofs.YthljpljbpbkkcaaDoor
