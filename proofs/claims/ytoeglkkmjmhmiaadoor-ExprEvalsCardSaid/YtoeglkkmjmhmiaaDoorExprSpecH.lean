/-
  Layer 4: values with operators between.
-/
import Derived.Test.YtoeglkkmjmhmiaaDoorExprSpecG
set_option linter.unusedVariables false
set_option linter.unusedSimpArgs false
set_option maxRecDepth 4000
namespace Go.Proofs.YtoeglkkmjmhmiaaDoor
open Go.Sl Go.RowKit Go.Expr Go.Shelf

structure GoodSm (n : Nat) : Prop where
  value : ∀ l p x r q, valueF n l p = .ok (x, r, q) → Sm x
  whole : ∀ least l p x r q, wholeF n least l p = .ok (x, r, q) → Sm x
  loop : ∀ least x0 l p x r q, loopF n least x0 l p = .ok (x, r, q) → Sm x0 → Sm x
theorem numberS_sm {l r : List UInt8} {p q : Nat} {x : Tr} (h : numberS l p = .ok (x, r, q)) : Sm x := by
  unfold numberS at h
  split at h
  · cases h
  · split at h
    · cases h
    · cases h
      exact dec_lt (by omega)
theorem nameS_sm {c : UInt8} {l r : List UInt8} {p q : Nat} {x : Tr} (h : nameS c l p = .ok (x, r, q)) : Sm x := by
  unfold nameS at h
  split at h
  · cases h
  · rename_i hn
    split at h
    · cases h
    · cases h
      show c = 110 ∨ c = 116 ∨ c = 118
      by_cases h1 : c = 110
      · exact .inl h1
      · by_cases h2 : c = 116
        · exact .inr (.inl h2)
        · by_cases h3 : c = 118
          · exact .inr (.inr h3)
          · exact absurd (.inr ⟨h1, h2, h3⟩) hn
theorem goodSm : ∀ n, GoodSm n
  | 0 => ⟨fun l p x r q h => by (simp [valueF] at h), fun least l p x r q h => by (simp [wholeF] at h), fun least x0 l p x r q h => by (simp [loopF] at h)⟩
  | n + 1 => by
    have ih := goodSm n
    refine ⟨fun l p x r q h => ?_, fun least l p x r q h => ?_, fun least x0 l p x r q h h0 => ?_⟩
    · unfold valueF at h
      split at h
      · cases h
      · split at h
        · exact numberS_sm h
        · split at h
          · exact nameS_sm h
          · split at h
            · split at h
              · cases h
              · split at h
                · cases h
                · rename_i hv; cases h; have := ih.value _ _ _ _ _ hv; exact this
            · split at h
              · cases h
              · split at h
                · cases h
                · rename_i hv; cases h; have := ih.value _ _ _ _ _ hv; exact this
            · split at h
              · cases h
              · rename_i hv
                split at h
                · cases h
                · split at h
                  · cases h; exact ih.whole _ _ _ _ _ _ hv
                  · cases h
            · cases h
    · unfold wholeF at h
      split at h
      · cases h
      · rename_i hv; exact ih.loop _ _ _ _ _ _ _ h (ih.value _ _ _ _ _ hv)
    · unfold loopF at h
      split at h
      · split at h
        · cases h; exact h0
        · split at h
          · cases h
          · split at h
            · cases h
            · rename_i hv; exact ih.loop _ _ _ _ _ _ _ h ⟨h0, ih.whole _ _ _ _ _ _ hv⟩
      · cases h; exact h0
theorem txt_len : ∀ {x : Tr}, Sm x → (txt x).length ≤ 24 * Expr.sizeT x
  | .num n, h => by
    have h2 : n < 1000000000000000000 := h
    have := Lib.itoa_length_le (n : Int) (by omega) (by omega)
    simp only [txt, Expr.sizeT]; omega
  | .nm c, _ => by simp [txt, Expr.sizeT]
  | .sg true x, h => by have := txt_len (x := x) h; simp only [txt, Expr.sizeT, List.length_cons]; omega
  | .sg false x, h => by have := txt_len (x := x) h; simp only [txt, Expr.sizeT, List.length_cons]; omega
  | .bn o x y, h => by
    have h1 := txt_len (x := x) h.1
    have h2 := txt_len (x := y) h.2
    have h3 := bo_len o
    simp only [txt, Expr.sizeT, List.length_cons, List.length_append, List.length_nil]; omega
/-- what the loop bears: the state k, x, l, p leads to R -/
structure LpI (S : ByteArray) (least : Nat) (R : Res) (k : Nat) (x : Tr) (l : List UInt8) (p : Nat) : Prop where
  run : loopF k least x l p = R
  suf : l <:+ S.data.toList
  fuel : 3 * l.length + 1 ≤ k
  sz : Expr.sizeT x ≤ p
  le : p ≤ 64
  sm : Sm x
theorem sk_length (l : List UInt8) : (sk l).length ≤ l.length := (sk_suffix l).length_le
theorem LpI.step {S : ByteArray} {least k p : Nat} {R : Res} {x : Tr} {l : List UInt8} (h0 : 1 ≤ least) (H : LpI S least R k x l p) :
    (∃ w, wd (sk l) = w ∧ rankW w < least ∧ R = .ok (x, sk l, p)) ∨
    (∃ o k', wd (sk l) = .bin o ∧ ¬ o.rank < least ∧ k = k' + 1 ∧ o.bytes.length ≤ (sk l).length ∧
      ((p = 64 ∧ R = .error (sk l, 5)) ∨ (p < 64 ∧ 3 * ((sk l).drop o.bytes.length).length + 2 ≤ k' ∧ (sk l).drop o.bytes.length <:+ S.data.toList ∧
        ((∃ l2 e, wholeF k' (o.rank + 1) ((sk l).drop o.bytes.length) (p + 1) = .error (l2, e) ∧ R = .error (l2, e)) ∨
         (∃ y l2 q, wholeF k' (o.rank + 1) ((sk l).drop o.bytes.length) (p + 1) = .ok (y, l2, q) ∧ LpI S least R k' (.bn o x y) l2 q ∧ Sm y ∧ Expr.sizeT y ≤ 64))))) := by
  obtain ⟨run, suf, fuel, sz, le, sm⟩ := H
  obtain ⟨k', rfl⟩ : ∃ k', k = k' + 1 := ⟨k - 1, by omega⟩
  have hs := (sk_suffix l).trans suf
  have hsl := sk_length l
  unfold loopF at run
  cases hw : wd (sk l) with
  | bin o =>
    rw [hw] at run
    dsimp only at run
    have hwl := wd_len hw
    by_cases hr : o.rank < least
    · rw [if_pos hr] at run
      exact .inl ⟨_, rfl, hr, run.symm⟩
    · rw [if_neg hr] at run
      refine .inr ⟨o, k', rfl, hr, rfl, hwl.2.1, ?_⟩
      by_cases hp : 64 < p + 1
      · rw [if_pos hp] at run
        exact .inl ⟨by omega, run.symm⟩
      · rw [if_neg hp] at run
        have hdl : ((sk l).drop o.bytes.length).length = (sk l).length - o.bytes.length := List.length_drop
        have hds := (drop_suf (l := sk l) o.bytes.length).trans hs
        refine .inr ⟨by omega, by omega, hds, ?_⟩
        cases hq : wholeF k' (o.rank + 1) ((sk l).drop o.bytes.length) (p + 1) with
        | error e =>
          rw [hq] at run
          exact .inl ⟨e.1, e.2, rfl, run.symm⟩
        | ok yr =>
          obtain ⟨y, l2, q⟩ := yr
          rw [hq] at run
          have g := (good k').whole _ _ _ _ _ _ hq
          have gs := (goodSm k').whole _ _ _ _ _ _ hq
          have g1 := g.size
          have g2 := g.most
          have g3 := g.lt
          exact .inr ⟨y, l2, q, rfl, ⟨run, g.suf.trans hds, by omega, by simp only [Expr.sizeT]; omega, g2, ⟨sm, gs⟩⟩, gs, by omega⟩
  | none_ => rw [hw] at run; exact .inl ⟨_, rfl, h0, run.symm⟩
  | not_ => rw [hw] at run; exact .inl ⟨_, rfl, h0, run.symm⟩
  | lp => rw [hw] at run; exact .inl ⟨_, rfl, h0, run.symm⟩
  | rp => rw [hw] at run; exact .inl ⟨_, rfl, h0, run.symm⟩
theorem bn_txt {o : Bo} {x y : Tr} : ByteArray.mk #[40] ++ bs (txt x) ++ ByteArray.mk #[32] ++ bs (Wd.bin o).bytes ++ ByteArray.mk #[32] ++ bs (txt y) ++ ByteArray.mk #[41] = bs (txt (.bn o x y)) := by
  rw [show ByteArray.mk #[40] = bs [40] from rfl, show ByteArray.mk #[32] = bs [32] from rfl, show ByteArray.mk #[41] = bs [41] from rfl]
  simp only [bs_app]
  congr 1
  simp [txt, Wd.bytes]
theorem ex_whole_bad {w0 : World} {A : List HProp} {r p : Nat} {S : ByteArray} {l l2 : List UInt8} {e least : Int} (hf : Fun Tryd.prog w0 29 [.pointer (some ⟨r, 0, none⟩)] (src r S l p :: A) (BadR w0 S A l2 e)) :
    Fun Tryd.prog w0 20 [.pointer (some ⟨r, 0, none⟩), .int .i64 least] (src r S l p :: A) (BadR w0 S A l2 e) := by
  unfold BadR at hf ⊢
  refine Fun.enter Tryd.func20 rfl Tryd.ntmps20 rfl ?_
  refine WC.seq <| WC.region <| sv (vaP rfl) <| sv (vaP rfl) <| WL.nil <| WX.thenN <| WC.seq <| WC.region <| sv (vmP rfl) <| clx (by repeat' (first | with_reducible exact Sb.all | exact Sb.nil | (apply Sb.cons; focus (first | ((repeat (first | with_reducible exact Tk.here | with_reducible apply Tk.there)); done) | ((repeat (first | exact Tk.here | apply Tk.there)); done))) | apply Sb.drop)) (hf) ct29 rfl fun r1 hr1 => ?_
  refine sv vmv <| sv (vex rfl rfl) <| sv (vex rfl rfl) <| sv (vaP rfl) <| sv (vaP rfl) <| WL.nil <| WX.thenN <| WC.seq <| WC.block <| ?_
  refine WC.loop (ι := Unit) (fun i => [(6, .pointer none)]) [(0, .pointer _), (1, .int _ _), (7, .pointer _)] (fun i => flt r1 S l2 e :: A) (fun i => True) (fun i => 0) (()) (trivial) ⟨rfl, trivial⟩ ⟨rfl, rfl, rfl, trivial⟩ (fun _ h => Sb.own (by repeat' (first | with_reducible exact Sb.all | exact Sb.nil | (apply Sb.cons; focus (first | ((repeat (first | with_reducible exact Tk.here | with_reducible apply Tk.there)); done) | ((repeat (first | exact Tk.here | apply Tk.there)); done))) | apply Sb.drop)) h) ?_
  intro i hi ρh
  refine WC.seq <| WC.seq <| WC.region <| sv (vmP rfl) <| sv (vpeqF Tryd.underlying44 rfl rfl) <| WL.nil <| WX.thenN <| ?_
  refine WC.ff rfl ?_
  exact WC.exit <| WX.thenE <| WX.thenE <| WX.blockH <| WX.thenN <| WC.seq <| WC.region <| sv (vmP rfl) <| sv (vmP rfl) <| sv (vaP rfl) <| sv (vaP rfl) <| WL.nil <| WX.thenN <| WC.ret <| WX.ret2 rfl (r1) (trivial) rfl (fun _ h => Sb.own (by repeat' (first | with_reducible exact Sb.all | exact Sb.nil | (apply Sb.cons; focus (first | ((repeat (first | with_reducible exact Tk.here | with_reducible apply Tk.there)); done) | ((repeat (first | exact Tk.here | apply Tk.there)); done))) | apply Sb.drop)) h)
theorem bs_size {l : List UInt8} : (bs l).size = l.length := rfl
theorem mk1_size {a : UInt8} : (ByteArray.mk #[a]).size = 1 := rfl
theorem rank_le (o : Bo) : o.rank ≤ 5 := by cases o <;> decide
theorem ex_whole_good {w0 : World} {A : List HProp} {r p K least : Nat} {S : ByteArray} {l l0 : List UInt8} {x0 : Tr} {p0 : Nat} {R : Res} (hS : S.size ≤ 4611686018427387903) (hl1 : 1 ≤ least) (hl5 : least ≤ 6)
    (hf : Fun Tryd.prog w0 29 [.pointer (some ⟨r, 0, none⟩)] (src r S l p :: A) (OkR w0 r S A x0 l0 p0))
    (hI : LpI S least R K x0 l0 p0)
    (hW : ∀ k' least' l' p' A, k' < K → l' <:+ S.data.toList → p' ≤ 64 → 3 * l'.length + 2 ≤ k' → 1 ≤ least' → least' ≤ 6 → Fun Tryd.prog w0 20 [.pointer (some ⟨r, 0, none⟩), .int .i64 ((least' : Nat) : Int)] (src r S l' p' :: A) (AnyR w0 r S A (wholeF k' least' l' p'))) :
    Fun Tryd.prog w0 20 [.pointer (some ⟨r, 0, none⟩), .int .i64 (least : Int)] (src r S l p :: A) (AnyR w0 r S A R) := by
  unfold OkR at hf
  refine Fun.enter Tryd.func20 rfl Tryd.ntmps20 rfl ?_
  refine WC.seq <| WC.region <| sv (vaP rfl) <| sv (vaP rfl) <| WL.nil <| WX.thenN <| WC.seq <| WC.region <| sv (vmP rfl) <| clx (by repeat' (first | with_reducible exact Sb.all | exact Sb.nil | (apply Sb.cons; focus (first | ((repeat (first | with_reducible exact Tk.here | with_reducible apply Tk.there)); done) | ((repeat (first | exact Tk.here | apply Tk.there)); done))) | apply Sb.drop)) (hf) ct29 rfl fun r1 hr1 => ?_
  refine sv vmv <| sv (vex rfl rfl) <| sv (vex rfl rfl) <| sv (vaP rfl) <| sv (vaP rfl) <| WL.nil <| WX.thenN <| WC.seq <| WC.block <| ?_
  refine WC.loop (ι := Nat × Nat × MT × List UInt8 × Nat) (fun i => [(6, .pointer (some ⟨i.2.1, 0, none⟩))]) [(0, .pointer _), (1, .int _ _), (7, .pointer _)] (fun i => exc i.2.1 i.2.2.1 :: hmt i.2.2.1 :: src r S i.2.2.2.1 i.2.2.2.2 :: A) (fun i => LpI S least R i.1 i.2.2.1.tr i.2.2.2.1 i.2.2.2.2 ∧ i.1 ≤ K) (fun i => i.1) ((K, r1.1, r1.2, l0, p0)) (⟨hr1.symm ▸ hI, Nat.le_refl _⟩) ⟨rfl, trivial⟩ ⟨rfl, rfl, rfl, trivial⟩ (fun _ h => Sb.own (by repeat' (first | with_reducible exact Sb.all | exact Sb.nil | (apply Sb.cons; focus (first | ((repeat (first | with_reducible exact Tk.here | with_reducible apply Tk.there)); done) | ((repeat (first | exact Tk.here | apply Tk.there)); done))) | apply Sb.drop)) h) ?_
  rintro ⟨k, e, m, l, p⟩ ⟨u1, u2⟩ ρh
  dsimp only at u1 u2 ⊢
  have hle := u1.le
  have hsf := u1.suf
  have hs2 := (sk_suffix l).trans hsf
  rcases u1.step hl1 with ⟨w, g1, g2, g3⟩ | ⟨o, k', g1, g2, g3, g4, ⟨g5, g6⟩ | ⟨g5, g6, g7, ⟨l2, e2, g8, g9⟩ | ⟨y, l2, q, g8, g9, g10, g11⟩⟩⟩
  · -- stop
    subst g3
    refine WC.seq <| WC.seq <| WC.region <| sv (vmP rfl) <| sv (vpeqT Tryd.underlying44 rfl rfl) <| WL.nil <| WX.thenN <| ?_
    refine WC.tt rfl ?_
    refine WC.skip <| WX.thenN <| WC.block <| WC.seq <| WC.region <| sv (vmP rfl) <| clx (by repeat' (first | with_reducible exact Sb.all | exact Sb.nil | (apply Sb.cons; focus (first | ((repeat (first | with_reducible exact Tk.here | with_reducible apply Tk.there)); done) | ((repeat (first | exact Tk.here | apply Tk.there)); done))) | apply Sb.drop)) (ex_op hsf hS rfl g1) ct30 rfl fun r3 hr3 => ?_
    refine sv (vaT rfl) <| WL.nil <| WX.thenN <| WC.seq <| WC.region <| sv (vmT rfl) <| clx (by repeat' (first | with_reducible exact Sb.all | exact Sb.nil | (apply Sb.cons; focus (first | ((repeat (first | with_reducible exact Tk.here | with_reducible apply Tk.there)); done) | ((repeat (first | exact Tk.here | apply Tk.there)); done))) | apply Sb.drop)) (ex_binary w) ct31 rfl fun r4 hr4 => ?_
    refine sv vmv <| sv (vex rfl rfl) <| sv (vex rfl rfl) <| alz (cs := [.nilFunc]) zt67 (by rfl) fun b5 => sv (vaI rfl) <| stp (v := doV w) pl67 sz67 rfl rfl (by cases w <;> rfl) <| WL.nil <| WX.thenN <| WC.seq <| WC.seq <| WC.region <| sv (vmI rfl) <| sv (vmI rfl) <| sv (vlt rfl rfl) <| WL.nil <| WX.thenN <| ?_
    refine WC.ite rfl (fun h2 => ?_) (fun h2 => ?_)
    · -- then
      exact WC.exit <| WX.thenE <| WX.blockE rfl <| WX.thenE <| WX.blockH <| WX.thenN <| WC.seq <| WC.region <| sv (vmP rfl) <| sv (vmP rfl) <| sv (vaP rfl) <| sv (vaP rfl) <| WL.nil <| WX.thenN <| WC.ret <| WX.ret2 rfl ((e, m)) (rfl) rfl (fun _ h => Sb.own (by repeat' (first | with_reducible exact Sb.all | exact Sb.nil | (apply Sb.cons; focus (first | ((repeat (first | with_reducible exact Tk.here | with_reducible apply Tk.there)); done) | ((repeat (first | exact Tk.here | apply Tk.there)); done))) | apply Sb.drop)) h)
    · -- else
      exact absurd (by omega) h2
  · -- many
    subst g6
    have hrk : rankW (.bin o) = o.rank := rfl
    refine WC.seq <| WC.seq <| WC.region <| sv (vmP rfl) <| sv (vpeqT Tryd.underlying44 rfl rfl) <| WL.nil <| WX.thenN <| ?_
    refine WC.tt rfl ?_
    refine WC.skip <| WX.thenN <| WC.block <| WC.seq <| WC.region <| sv (vmP rfl) <| clx (by repeat' (first | with_reducible exact Sb.all | exact Sb.nil | (apply Sb.cons; focus (first | ((repeat (first | with_reducible exact Tk.here | with_reducible apply Tk.there)); done) | ((repeat (first | exact Tk.here | apply Tk.there)); done))) | apply Sb.drop)) (ex_op hsf hS rfl g1) ct30 rfl fun r3 hr3 => ?_
    refine sv (vaT rfl) <| WL.nil <| WX.thenN <| WC.seq <| WC.region <| sv (vmT rfl) <| clx (by repeat' (first | with_reducible exact Sb.all | exact Sb.nil | (apply Sb.cons; focus (first | ((repeat (first | with_reducible exact Tk.here | with_reducible apply Tk.there)); done) | ((repeat (first | exact Tk.here | apply Tk.there)); done))) | apply Sb.drop)) (ex_binary (.bin o)) ct31 rfl fun r4 hr4 => ?_
    refine sv vmv <| sv (vex rfl rfl) <| sv (vex rfl rfl) <| alz (cs := [.nilFunc]) zt67 (by rfl) fun b5 => sv (vaI rfl) <| stp (v := .func _ _ _) pl67 sz67 rfl rfl rfl <| WL.nil <| WX.thenN <| WC.seq <| WC.seq <| WC.region <| sv (vmI rfl) <| sv (vmI rfl) <| sv (vlt rfl rfl) <| WL.nil <| WX.thenN <| ?_
    refine WC.ite rfl (fun h4 => ?_) (fun h4 => ?_)
    · -- then
      exact absurd h4 (by omega)
    · -- else
      refine WC.skip <| WX.thenN <| WC.seq <| WC.seq <| WC.region <| sv (vmP rfl) <| sv (vmT rfl) <| sv (vlens Tryd.underlying9 rfl) <| clx (by repeat' (first | with_reducible exact Sb.all | exact Sb.nil | (apply Sb.cons; focus (first | ((repeat (first | with_reducible exact Tk.here | with_reducible apply Tk.there)); done) | ((repeat (first | exact Tk.here | apply Tk.there)); done))) | apply Sb.drop)) (ex_part_many (k := (bs (Wd.bin o).bytes).size) g5) ct32 rfl fun r7 hr7 => ?_
      refine sv (vaP rfl) <| WL.nil <| WX.thenN <| WC.seq <| WC.region <| sv (vmP rfl) <| sv (vpneT Tryd.underlying44 rfl rfl) <| WL.nil <| WX.thenN <| ?_
      refine WC.tt rfl ?_
      exact WC.seq <| WC.region <| sv (vmP rfl) <| sv (vaP rfl) <| sv (vaP rfl) <| WL.nil <| WX.thenN <| WC.ret <| WX.thenR <| WX.blockR <| WX.thenR <| WX.blockR <| WX.thenR <| WX.ret2 rfl (r7) (trivial) rfl (fun w h => Sb.own (by repeat' (first | with_reducible exact Sb.all | exact Sb.nil | (apply Sb.cons; focus (first | ((repeat (first | with_reducible exact Tk.here | with_reducible apply Tk.there)); done) | ((repeat (first | exact Tk.here | apply Tk.there)); done))) | apply Sb.drop)) h)
  · -- bad
    subst g9
    have hrk : rankW (.bin o) = o.rank := rfl
    have hr5 := rank_le o
    have hb : ∀ A, Fun Tryd.prog w0 20 [.pointer (some ⟨r, 0, none⟩), .int .i64 ((o.rank + 1 : Nat) : Int)] (src r S ((sk l).drop o.bytes.length) (p + 1) :: A) (BadR w0 S A l2 e2) := fun A => by
      have h := hW k' (o.rank + 1) ((sk l).drop o.bytes.length) (p + 1) A (by omega) g7 (by omega) g6 (by omega) (by omega)
      rw [g8] at h
      exact h
    unfold BadR at hb
    refine WC.seq <| WC.seq <| WC.region <| sv (vmP rfl) <| sv (vpeqT Tryd.underlying44 rfl rfl) <| WL.nil <| WX.thenN <| ?_
    refine WC.tt rfl ?_
    refine WC.skip <| WX.thenN <| WC.block <| WC.seq <| WC.region <| sv (vmP rfl) <| clx (by repeat' (first | with_reducible exact Sb.all | exact Sb.nil | (apply Sb.cons; focus (first | ((repeat (first | with_reducible exact Tk.here | with_reducible apply Tk.there)); done) | ((repeat (first | exact Tk.here | apply Tk.there)); done))) | apply Sb.drop)) (ex_op hsf hS rfl g1) ct30 rfl fun r3 hr3 => ?_
    refine sv (vaT rfl) <| WL.nil <| WX.thenN <| WC.seq <| WC.region <| sv (vmT rfl) <| clx (by repeat' (first | with_reducible exact Sb.all | exact Sb.nil | (apply Sb.cons; focus (first | ((repeat (first | with_reducible exact Tk.here | with_reducible apply Tk.there)); done) | ((repeat (first | exact Tk.here | apply Tk.there)); done))) | apply Sb.drop)) (ex_binary (.bin o)) ct31 rfl fun r4 hr4 => ?_
    refine sv vmv <| sv (vex rfl rfl) <| sv (vex rfl rfl) <| alz (cs := [.nilFunc]) zt67 (by rfl) fun b5 => sv (vaI rfl) <| stp (v := .func _ _ _) pl67 sz67 rfl rfl rfl <| WL.nil <| WX.thenN <| WC.seq <| WC.seq <| WC.region <| sv (vmI rfl) <| sv (vmI rfl) <| sv (vlt rfl rfl) <| WL.nil <| WX.thenN <| ?_
    refine WC.ite rfl (fun h7 => ?_) (fun h7 => ?_)
    · -- then
      exact absurd h7 (by omega)
    · -- else
      refine WC.skip <| WX.thenN <| WC.seq <| WC.seq <| WC.region <| sv (vmP rfl) <| sv (vmT rfl) <| sv (vlens Tryd.underlying9 rfl) <| clx (by repeat' (first | with_reducible exact Sb.all | exact Sb.nil | (apply Sb.cons; focus (first | ((repeat (first | with_reducible exact Tk.here | with_reducible apply Tk.there)); done) | ((repeat (first | exact Tk.here | apply Tk.there)); done))) | apply Sb.drop)) (ex_part_ok hs2 hS g5 (k := (bs (Wd.bin o).bytes).size) g4) ct32 rfl fun r7 hr7 => ?_
      refine sv (vaP rfl) <| WL.nil <| WX.thenN <| WC.seq <| WC.region <| sv (vmP rfl) <| sv (vpneF Tryd.underlying44 rfl rfl) <| WL.nil <| WX.thenN <| ?_
      refine WC.ff rfl ?_
      refine WC.skip <| WX.thenN <| WC.seq <| WC.region <| sv (vmP rfl) <| sv (vmI rfl) <| sv (vw (v' := .int .i64 ((o.rank + 1 : Nat) : Int)) (vadd rfl rfl (by rw [hrk]; omega)) (by rw [hrk]; simp)) <| clx (by repeat' (first | with_reducible exact Sb.all | exact Sb.nil | (apply Sb.cons; focus (first | ((repeat (first | with_reducible exact Tk.here | with_reducible apply Tk.there)); done) | ((repeat (first | exact Tk.here | apply Tk.there)); done))) | apply Sb.drop)) (hb _) ct20 rfl fun r10 hr10 => ?_
      refine sv vmv <| sv (vex rfl rfl) <| sv (vex rfl rfl) <| sv (vaP rfl) <| sv (vaP rfl) <| WL.nil <| WX.thenN <| WC.seq <| WC.seq <| WC.region <| sv (vmP rfl) <| sv (vpneT Tryd.underlying44 rfl rfl) <| WL.nil <| WX.thenN <| ?_
      refine WC.tt rfl ?_
      exact WC.seq <| WC.region <| sv (vmP rfl) <| sv (vaP rfl) <| sv (vaP rfl) <| WL.nil <| WX.thenN <| WC.ret <| WX.thenR <| WX.blockR <| WX.thenR <| WX.blockR <| WX.thenR <| WX.ret2 rfl (r10) (trivial) rfl (fun _ h => Sb.own (by repeat' (first | with_reducible exact Sb.all | exact Sb.nil | (apply Sb.cons; focus (first | ((repeat (first | with_reducible exact Tk.here | with_reducible apply Tk.there)); done) | ((repeat (first | exact Tk.here | apply Tk.there)); done))) | apply Sb.drop)) h)
  · -- ok
    have hrk : rankW (.bin o) = o.rank := rfl
    have hr5 := rank_le o
    have hb : ∀ A, Fun Tryd.prog w0 20 [.pointer (some ⟨r, 0, none⟩), .int .i64 ((o.rank + 1 : Nat) : Int)] (src r S ((sk l).drop o.bytes.length) (p + 1) :: A) (OkR w0 r S A y l2 q) := fun A => by
      have h := hW k' (o.rank + 1) ((sk l).drop o.bytes.length) (p + 1) A (by omega) g7 (by omega) g6 (by omega) (by omega)
      rw [g8] at h
      exact h
    unfold OkR at hb
    refine WC.seq <| WC.seq <| WC.region <| sv (vmP rfl) <| sv (vpeqT Tryd.underlying44 rfl rfl) <| WL.nil <| WX.thenN <| ?_
    refine WC.tt rfl ?_
    refine WC.skip <| WX.thenN <| WC.block <| WC.seq <| WC.region <| sv (vmP rfl) <| clx (by repeat' (first | with_reducible exact Sb.all | exact Sb.nil | (apply Sb.cons; focus (first | ((repeat (first | with_reducible exact Tk.here | with_reducible apply Tk.there)); done) | ((repeat (first | exact Tk.here | apply Tk.there)); done))) | apply Sb.drop)) (ex_op hsf hS rfl g1) ct30 rfl fun r3 hr3 => ?_
    refine sv (vaT rfl) <| WL.nil <| WX.thenN <| WC.seq <| WC.region <| sv (vmT rfl) <| clx (by repeat' (first | with_reducible exact Sb.all | exact Sb.nil | (apply Sb.cons; focus (first | ((repeat (first | with_reducible exact Tk.here | with_reducible apply Tk.there)); done) | ((repeat (first | exact Tk.here | apply Tk.there)); done))) | apply Sb.drop)) (ex_binary (.bin o)) ct31 rfl fun r4 hr4 => ?_
    refine sv vmv <| sv (vex rfl rfl) <| sv (vex rfl rfl) <| alz (cs := [.nilFunc]) zt67 (by rfl) fun b5 => sv (vaI rfl) <| stp (v := .func _ _ _) pl67 sz67 rfl rfl rfl <| WL.nil <| WX.thenN <| WC.seq <| WC.seq <| WC.region <| sv (vmI rfl) <| sv (vmI rfl) <| sv (vlt rfl rfl) <| WL.nil <| WX.thenN <| ?_
    refine WC.ite rfl (fun h11 => ?_) (fun h11 => ?_)
    · -- then
      exact absurd h11 (by omega)
    · -- else
      refine WC.skip <| WX.thenN <| WC.seq <| WC.seq <| WC.region <| sv (vmP rfl) <| sv (vmT rfl) <| sv (vlens Tryd.underlying9 rfl) <| clx (by repeat' (first | with_reducible exact Sb.all | exact Sb.nil | (apply Sb.cons; focus (first | ((repeat (first | with_reducible exact Tk.here | with_reducible apply Tk.there)); done) | ((repeat (first | exact Tk.here | apply Tk.there)); done))) | apply Sb.drop)) (ex_part_ok hs2 hS g5 (k := (bs (Wd.bin o).bytes).size) g4) ct32 rfl fun r7 hr7 => ?_
      refine sv (vaP rfl) <| WL.nil <| WX.thenN <| WC.seq <| WC.region <| sv (vmP rfl) <| sv (vpneF Tryd.underlying44 rfl rfl) <| WL.nil <| WX.thenN <| ?_
      refine WC.ff rfl ?_
      refine WC.skip <| WX.thenN <| WC.seq <| WC.region <| sv (vmP rfl) <| sv (vmI rfl) <| sv (vw (v' := .int .i64 ((o.rank + 1 : Nat) : Int)) (vadd rfl rfl (by rw [hrk]; omega)) (by rw [hrk]; simp)) <| clx (by repeat' (first | with_reducible exact Sb.all | exact Sb.nil | (apply Sb.cons; focus (first | ((repeat (first | with_reducible exact Tk.here | with_reducible apply Tk.there)); done) | ((repeat (first | exact Tk.here | apply Tk.there)); done))) | apply Sb.drop)) (hb _) ct20 rfl fun r10 hr10 => ?_
      refine sv vmv <| sv (vex rfl rfl) <| sv (vex rfl rfl) <| sv (vaP rfl) <| sv (vaP rfl) <| WL.nil <| WX.thenN <| WC.seq <| WC.seq <| WC.region <| sv (vmP rfl) <| sv (vpneF Tryd.underlying44 rfl rfl) <| WL.nil <| WX.thenN <| ?_
      refine WC.ff rfl ?_
      refine WC.skip <| WX.thenN <| ?_
      refine WC.cutv (ι := Nat × Nat) (fun i => [(14, .pointer (some ⟨i.1, 0, none⟩)), (15, .pointer (some ⟨i.2, 0, none⟩))]) [(0, .pointer _), (1, .int _ _), (6, .pointer _), (7, .pointer _), (8, .string _), (10, _), (12, .pointer _)] (fun i => cel i.1 [fvOf m] 33 :: cel i.2 [fvOf r10.2] 33 :: exc e m :: exc r10.1 r10.2 :: cel b5 [doV (.bin o)] 67 :: hmt m :: hmt r10.2 :: src r S l2 q :: A) (fun i => True) ⟨rfl, rfl, rfl, rfl, rfl, rfl, rfl, trivial⟩ ?_ ?_
      · -- up to the join
        refine WC.plan (.two [0, 1, 2, 3, 4, 5, 6, 7] 8 (.one [] 9 (.one [] 10 (.bar [] 11 (.done [])))) 9 (.one [] 8 (.one [] 10 (.bar [] 11 (.done []))))) rfl (by kernel_rfl) <| WPl.twoE (fun g => by infer_instance) <| dv (fun g => (vmP rfl)) <| dv (fun g => (vnil rfl)) <| dv (fun g => (vfldpz fl61f0 rfl)) <| dv (fun g => (vldc pl33 rfl)) <| dv (fun g => (vmP rfl)) <| dv (fun g => (vnil rfl)) <| dv (fun g => (vfldpz fl61f0 rfl)) <| dv (fun g => (vldc pl33 rfl)) <| WD.eff2 rfl rfl ?_ ?_
        · -- t14 comes first
          refine alz (cs := [.nilFunc]) zt33 (by rfl) fun b14 => WL.nil <| WX.br <| WPl.oneX [cel b14 _ _] (by repeat' (first | exact Spl.nil | (apply Spl.cons; focus (first | ((repeat (first | with_reducible exact Tk.here | with_reducible apply Tk.there)); done) | ((repeat (first | exact Tk.here | apply Tk.there)); done))))) (fun g => by infer_instance) ?_
          refine WD.eff rfl <| alz (cs := [.nilFunc]) zt33 (by rfl) fun b15 => WL.nil <| WX.br <| WPl.oneX [cel b14 _ _] (by repeat' (first | exact Spl.nil | (apply Spl.cons; focus (first | ((repeat (first | with_reducible exact Tk.here | with_reducible apply Tk.there)); done) | ((repeat (first | exact Tk.here | apply Tk.there)); done))))) (fun g => by infer_instance) ?_
          exact WD.eff rfl <| stp (v := .func _ _ _) pl33 sz33 rfl rfl rfl <| WL.nil <| WX.br <| WPl.barC <| WD.eff rfl <| stp (v := .func _ _ _) pl33 sz33 rfl rfl rfl <| WL.nil <| WX.brT <| WPl.finC <| WD.nil <| WX.mid ((b14, b15)) (trivial) ⟨rfl, rfl, trivial⟩ ⟨rfl, rfl, rfl, rfl, rfl, rfl, rfl, trivial⟩ (fun _ h => Sb.own (by repeat' (first | with_reducible exact Sb.all | exact Sb.nil | (apply Sb.cons; focus (first | ((repeat (first | with_reducible exact Tk.here | with_reducible apply Tk.there)); done) | ((repeat (first | exact Tk.here | apply Tk.there)); done))) | apply Sb.drop)) h)
        · -- t15 comes first
          refine alz (cs := [.nilFunc]) zt33 (by rfl) fun b15 => WL.nil <| WX.br <| WPl.oneE (fun g => by infer_instance) <| WD.eff rfl <| alz (cs := [.nilFunc]) zt33 (by rfl) fun b14 => WL.nil <| WX.br <| WPl.oneX [cel b14 _ _] (by repeat' (first | exact Spl.nil | (apply Spl.cons; focus (first | ((repeat (first | with_reducible exact Tk.here | with_reducible apply Tk.there)); done) | ((repeat (first | exact Tk.here | apply Tk.there)); done))))) (fun g => by infer_instance) ?_
          exact WD.eff rfl <| stp (v := .func _ _ _) pl33 sz33 rfl rfl rfl <| WL.nil <| WX.br <| WPl.barC <| WD.eff rfl <| stp (v := .func _ _ _) pl33 sz33 rfl rfl rfl <| WL.nil <| WX.brT <| WPl.finC <| WD.nil <| WX.mid ((b14, b15)) (trivial) ⟨rfl, rfl, trivial⟩ ⟨rfl, rfl, rfl, rfl, rfl, rfl, rfl, trivial⟩ (fun _ h => Sb.own (by repeat' (first | with_reducible exact Sb.all | exact Sb.nil | (apply Sb.cons; focus (first | ((repeat (first | with_reducible exact Tk.here | with_reducible apply Tk.there)); done) | ((repeat (first | exact Tk.here | apply Tk.there)); done))) | apply Sb.drop)) h)
      · -- behind the join
        rintro ⟨b14, b15⟩ _ ρh
        dsimp only
        have hs1 := u1.sz
        have ht1 := txt_len u1.sm
        have ht2 := txt_len g10
        rw [← hr10] at ht2 g11
        have hob : (Wd.bin o).bytes.length ≤ 2 := bo_len o
        exact WC.plan (.bar [0, 1, 2, 3, 4, 5, 6, 7, 8, 9, 10, 11, 12, 13, 14, 15, 16, 17, 18, 19, 20, 21, 22, 23, 24, 25, 26] 27 (.done [28])) rfl (by kernel_rfl) <| WPl.barC <| dv (fun g => (vfn rfl)) <| dv (fun g => (vmP rfl)) <| dv (fun g => (vnil rfl)) <| dv (fun g => (vfldp fl61f1 rfl)) <| dv (fun g => (vldc pl9 rfl)) <| dv (fun g => (vcat rfl rfl (by simp only [ByteArray.size_append, bs_size, mk1_size]; omega))) <| dv (fun g => (vcat rfl rfl (by simp only [ByteArray.size_append, bs_size, mk1_size]; omega))) <| dv (fun g => (vmT rfl)) <| dv (fun g => (vcat rfl rfl (by simp only [ByteArray.size_append, bs_size, mk1_size]; omega))) <| dv (fun g => (vcat rfl rfl (by simp only [ByteArray.size_append, bs_size, mk1_size]; omega))) <| dv (fun g => (vmP rfl)) <| dv (fun g => (vnil rfl)) <| dv (fun g => (vfldp fl61f1 rfl)) <| dv (fun g => (vldc pl9 rfl)) <| dv (fun g => (vcat rfl rfl (by simp only [ByteArray.size_append, bs_size, mk1_size]; omega))) <| dv (fun g => (vw (v' := .string (bs (txt (.bn o m.tr r10.2.tr)))) (vcat rfl rfl (by simp only [ByteArray.size_append, bs_size, mk1_size]; omega)) (by rw [bn_txt]))) <| dv (fun g => (vmP rfl)) <| dv (fun g => (vnil rfl)) <| dv (fun g => (vfldp fl61f2 rfl)) <| dv (fun g => (vldc pl3 rfl)) <| dv (fun g => (vmP rfl)) <| dv (fun g => (vnil rfl)) <| dv (fun g => (vfldp fl61f2 rfl)) <| dv (fun g => (vldc pl3 rfl)) <| dv (fun g => (vadd rfl rfl (by omega))) <| dv (fun g => (vw (v' := .int .i64 ((Expr.sizeT (.bn o m.tr r10.2.tr) : Nat) : Int)) (vadd rfl rfl (by omega)) (by simp [Expr.sizeT]))) <| dv (fun g => (vbd (ps := [(0, .func _ _ _), (1, .string _), (2, .int _ _)]) (cs := [_, _, _]) bt61 zt61 rfl (by rfl))) <| WD.eff rfl <| bxc (v := .agg _) (cs := [_, .string _, .int _ _]) rfl rfl fun b31 => WL.nil <| WX.brT <| WPl.finC <| dv (fun g => (vaP rfl)) <| WD.nil <| WX.blockN <| WX.again ((k', b31, .bn o b5 b14 b15 m r10.2, l2, q)) (by show LpI S least R k' (.bn o m.tr r10.2.tr) l2 q ∧ k' ≤ K; rw [hr10]; exact ⟨g9, by omega⟩) (by show k' < k; omega) ⟨rfl, trivial⟩ ⟨rfl, rfl, rfl, trivial⟩ (fun w h => (bn_close (Sb.own (by repeat' (first | with_reducible exact Sb.all | exact Sb.nil | (apply Sb.cons; focus (first | ((repeat (first | with_reducible exact Tk.here | with_reducible apply Tk.there)); done) | ((repeat (first | exact Tk.here | apply Tk.there)); done))) | apply Sb.drop)) h)).pk1)
end Go.Proofs.YtoeglkkmjmhmiaaDoor
