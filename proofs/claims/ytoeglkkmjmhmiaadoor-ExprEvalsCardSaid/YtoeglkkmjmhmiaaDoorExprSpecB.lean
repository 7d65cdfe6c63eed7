/-
  Layer 4: the word that stands next.
-/
import Derived.Test.YtoeglkkmjmhmiaaDoorExprSpecA
set_option linter.unusedVariables false
set_option linter.unusedSimpArgs false
set_option maxRecDepth 4000
namespace Go.Proofs.YtoeglkkmjmhmiaaDoor
open Go.Sl Go.RowKit Go.Expr

def bs (l : List UInt8) : ByteArray := ⟨l.toArray⟩
theorem bs_inj {a b : List UInt8} : bs a = bs b ↔ a = b := by
  constructor
  · intro h
    have := congrArg (fun x : ByteArray => x.data.toList) h
    simpa [bs] using this
  · rintro rfl; rfl
theorem suf_extract {S : ByteArray} {l : List UInt8} {i j : Int} {n : Nat} (h : l <:+ S.data.toList) (hn : n ≤ l.length) (hi : i = ((S.size - l.length : Nat) : Int)) (hj : j = i + n) : S.extract i.toNat j.toNat = bs (l.take n) := by
  have hl := suf_len h
  obtain ⟨t, ht⟩ := h
  have hsz : S.size = t.length + l.length := by
    have : S.size = S.data.toList.length := rfl
    rw [this, ← ht, List.length_append]
  have hi' : i.toNat = t.length := by omega
  have hj' : j.toNat = t.length + n := by omega
  rw [hi', hj']
  apply ByteArray.ext
  rw [ByteArray.data_extract]
  apply Array.toList_inj.1
  rw [Array.toList_extract, ← ht]
  simp [bs, List.extract]
theorem two_eq {a b x y : UInt8} : bs [a, b] = ByteArray.mk #[x, y] ↔ a = x ∧ b = y := by
  rw [show ByteArray.mk #[x, y] = bs [x, y] from rfl, bs_inj]; simp
theorem one_eq {a x : UInt8} : bs [a] = ByteArray.mk #[x] ↔ a = x := by
  rw [show ByteArray.mk #[x] = bs [x] from rfl, bs_inj]; simp
theorem wd2_bytes {a b : UInt8} {o : Bo} (h : wd2 a b = some o) : [a, b] = o.bytes := by
  unfold wd2 at h
  repeat' split at h
  all_goals first | (cases h; simp_all [Bo.bytes]; done) | cases h
theorem wd1_bytes {a : UInt8} (h : wd1 a ≠ .none_) : [a] = (wd1 a).bytes := by
  unfold wd1 at h ⊢
  repeat' split
  all_goals first | (simp_all [Bo.bytes, Wd.bytes]; done) | simp_all
theorem wd_two {l : List UInt8} {o : Bo} (hl : 1 < l.length) (h : wd2 (l.headD 0) (l.getD 1 0) = some o) : wd l = .bin o := by
  match l, hl with
  | a :: b :: l, _ =>
    simp only [List.headD_cons, List.getD_cons_succ, List.getD_cons_zero] at h
    simp only [wd, h]
theorem wd_one {l : List UInt8} (hl : 0 < l.length) (h : l.length < 2 ∨ wd2 (l.headD 0) (l.getD 1 0) = none) : wd l = wd1 (l.headD 0) := by
  match l, hl with
  | [a], _ => rfl
  | a :: b :: l, _ =>
    rcases h with h | h
    · simp at h; omega
    · simp only [List.headD_cons, List.getD_cons_succ, List.getD_cons_zero] at h
      simp only [wd, h, List.headD_cons]
theorem take2 {l : List UInt8} (hl : 1 < l.length) : l.take 2 = [l.headD 0, l.getD 1 0] := by
  match l, hl with
  | a :: b :: l, _ => rfl
theorem take1 {l : List UInt8} (hl : 0 < l.length) : l.take 1 = [l.headD 0] := by
  match l, hl with
  | a :: l, _ => rfl
theorem ex_operator {w0 : World} {A : List HProp} {r p : Nat} {S : ByteArray} {l : List UInt8} (hl : l <:+ S.data.toList) (hS : S.size ≤ 4611686018427387903) :
    Fun Tryd.prog w0 30 [.pointer (some ⟨r, 0, none⟩)] (src r S l p :: A) (Ret w0 (fun _ : Unit => True) (fun _ => .string (bs (wd (sk l)).bytes)) (fun _ => src r S (sk l) p :: A)) := by
  have hs2 := (sk_suffix l).trans hl
  have hll := suf_len hs2
  refine Fun.enter Tryd.func30 rfl Tryd.ntmps30 rfl ?_
  refine WC.seq <| WC.region <| sv (vaT rfl) <| WL.nil <| WX.thenN <| WC.seq <| WC.seq <| WC.region <| sv (vmP rfl) <| clx (by repeat' (first | with_reducible exact Sb.all | exact Sb.nil | (apply Sb.cons; focus (first | ((repeat (first | with_reducible exact Tk.here | with_reducible apply Tk.there)); done) | ((repeat (first | exact Tk.here | apply Tk.there)); done))) | apply Sb.drop)) (ex_skip hl (by omega)) ct21 rfl fun r1 hr1 => ?_
  refine sv (vnot rfl) <| WL.nil <| WX.thenN <| ?_
  refine WC.iteb rfl (fun h1 => ?_) (fun h1 => ?_)
  · -- then
    have hz : sk l = [] := sk_nil_iff.2 (by simpa using h1)
    exact WC.seq <| WC.region <| sv (vaT rfl) <| WL.nil <| WX.thenN <| WC.ret <| WX.thenR <| WX.ret1 rfl (()) (trivial) (by rw [hz]; rfl) (fun _ h => Sb.own (by repeat' (first | with_reducible exact Sb.all | exact Sb.nil | (apply Sb.cons; focus (first | ((repeat (first | with_reducible exact Tk.here | with_reducible apply Tk.there)); done) | ((repeat (first | exact Tk.here | apply Tk.there)); done))) | apply Sb.drop)) h)
  · -- else
    have hpos : 0 < (sk l).length := by simpa using h1
    obtain ⟨a, ha⟩ : ∃ a, a = (sk l).headD 0 := ⟨_, rfl⟩
    obtain ⟨b, hb⟩ : ∃ b, b = (sk l).getD 1 0 := ⟨_, rfl⟩
    refine WC.skip <| WX.thenN <| ?_
    refine WC.cutvS (ι := Unit) (fun i => []) [(0, .pointer _)] (fun i => (sk l).length < 2 ∨ wd2 a b = none) ⟨rfl, trivial⟩ ?_ ?_
    · -- up to the join
      refine WC.seq <| WC.draws rfl (by kernel_rfl) <| qv (vmP rfl) <| qv (vnil rfl) <| qv (vfldp fl43f1 rfl) <| qv (vldc pl3 rfl) <| qv (vadd rfl rfl (by omega)) <| qv (vmP rfl) <| qv (vnil rfl) <| qv (vfldpz fl43f0 rfl) <| qv (vldc pl9 rfl) <| qv (vlens Tryd.underlying9 rfl) <| qv (vlt rfl rfl) <| WQ.nil <| WX.thenN <| ?_
      refine WC.ite rfl (fun h2 => ?_) (fun h2 => ?_)
      · -- then
        have hone : 1 < (sk l).length := by omega
        refine WC.seq <| WC.draws rfl (by kernel_rfl) <| qv (vmP rfl) <| qv (vnil rfl) <| qv (vfldpz fl43f0 rfl) <| qv (vldc pl9 rfl) <| qv (vmP rfl) <| qv (vnil rfl) <| qv (vfldp fl43f1 rfl) <| qv (vldc pl3 rfl) <| qv (vmP rfl) <| qv (vnil rfl) <| qv (vfldp fl43f1 rfl) <| qv (vldc pl3 rfl) <| qv (vadd rfl rfl (by omega)) <| qv (vw (v' := .string (bs [a, b])) (vsslLH Tryd.underlying9 rfl rfl rfl (by omega) (by omega) (by omega)) (by rw [suf_extract (n := 2) hs2 (by omega) rfl (by omega), take2 hone, ha, hb])) <| qv (vaT rfl) <| WQ.nil <| WX.thenN <| WC.seq <| WC.region <| sv (vmT rfl) <| WL.nil <| WX.thenN <| WC.block <| ?_
        refine WC.cutvS (ι := Unit) (fun i => [(34, .bool (decide ((wd2 a b).isSome = true)))]) [(0, .pointer _), (3, .string _)] (fun i => True) ⟨rfl, rfl, trivial⟩ ?_ ?_
        · -- up to the join
          refine WC.seq <| WC.region <| sv (veqs rfl rfl) <| sv (vaB rfl) <| WL.nil <| WX.thenN <| ?_
          refine WC.ite rfl (fun h3 => ?_) (fun h3 => ?_)
          · -- then
            exact WC.skip <| WX.mid (()) (trivial) ⟨bI ⟨fun _ => by have := two_eq.1 h3; simp [wd2, this], fun _ => h3⟩, trivial⟩ ⟨rfl, rfl, trivial⟩ (fun _ h => Sb.own (by repeat' (first | with_reducible exact Sb.all | exact Sb.nil | (apply Sb.cons; focus (first | ((repeat (first | with_reducible exact Tk.here | with_reducible apply Tk.there)); done) | ((repeat (first | exact Tk.here | apply Tk.there)); done))) | apply Sb.drop)) h)
          · -- else
            refine WC.seq <| WC.region <| sv (veqs rfl rfl) <| sv (vaB rfl) <| WL.nil <| WX.thenN <| ?_
            refine WC.ite rfl (fun h4 => ?_) (fun h4 => ?_)
            · -- then
              exact WC.skip <| WX.mid (()) (trivial) ⟨bI ⟨fun _ => by have := two_eq.1 h4; simp [wd2, this], fun _ => h4⟩, trivial⟩ ⟨rfl, rfl, trivial⟩ (fun _ h => Sb.own (by repeat' (first | with_reducible exact Sb.all | exact Sb.nil | (apply Sb.cons; focus (first | ((repeat (first | with_reducible exact Tk.here | with_reducible apply Tk.there)); done) | ((repeat (first | exact Tk.here | apply Tk.there)); done))) | apply Sb.drop)) h)
            · -- else
              refine WC.seq <| WC.region <| sv (veqs rfl rfl) <| sv (vaB rfl) <| WL.nil <| WX.thenN <| ?_
              refine WC.ite rfl (fun h5 => ?_) (fun h5 => ?_)
              · -- then
                exact WC.skip <| WX.mid (()) (trivial) ⟨bI ⟨fun _ => by have := two_eq.1 h5; simp [wd2, this], fun _ => h5⟩, trivial⟩ ⟨rfl, rfl, trivial⟩ (fun _ h => Sb.own (by repeat' (first | with_reducible exact Sb.all | exact Sb.nil | (apply Sb.cons; focus (first | ((repeat (first | with_reducible exact Tk.here | with_reducible apply Tk.there)); done) | ((repeat (first | exact Tk.here | apply Tk.there)); done))) | apply Sb.drop)) h)
              · -- else
                refine WC.seq <| WC.region <| sv (veqs rfl rfl) <| sv (vaB rfl) <| WL.nil <| WX.thenN <| ?_
                refine WC.ite rfl (fun h6 => ?_) (fun h6 => ?_)
                · -- then
                  exact WC.skip <| WX.mid (()) (trivial) ⟨bI ⟨fun _ => by have := two_eq.1 h6; simp [wd2, this], fun _ => h6⟩, trivial⟩ ⟨rfl, rfl, trivial⟩ (fun _ h => Sb.own (by repeat' (first | with_reducible exact Sb.all | exact Sb.nil | (apply Sb.cons; focus (first | ((repeat (first | with_reducible exact Tk.here | with_reducible apply Tk.there)); done) | ((repeat (first | exact Tk.here | apply Tk.there)); done))) | apply Sb.drop)) h)
                · -- else
                  refine WC.seq <| WC.region <| sv (veqs rfl rfl) <| sv (vaB rfl) <| WL.nil <| WX.thenN <| ?_
                  refine WC.ite rfl (fun h7 => ?_) (fun h7 => ?_)
                  · -- then
                    exact WC.skip <| WX.mid (()) (trivial) ⟨bI ⟨fun _ => by have := two_eq.1 h7; simp [wd2, this], fun _ => h7⟩, trivial⟩ ⟨rfl, rfl, trivial⟩ (fun _ h => Sb.own (by repeat' (first | with_reducible exact Sb.all | exact Sb.nil | (apply Sb.cons; focus (first | ((repeat (first | with_reducible exact Tk.here | with_reducible apply Tk.there)); done) | ((repeat (first | exact Tk.here | apply Tk.there)); done))) | apply Sb.drop)) h)
                  · -- else
                    exact WC.region <| sv (veqs rfl rfl) <| sv (vaB rfl) <| WL.nil <| WX.mid (()) (trivial) ⟨bI (by rw [two_eq] at h3 h4 h5 h6 h7 ⊢; unfold wd2; rw [if_neg h3, if_neg h4, if_neg h5, if_neg h6, if_neg h7]; split <;> simp_all), trivial⟩ ⟨rfl, rfl, trivial⟩ (fun _ h => Sb.own (by repeat' (first | with_reducible exact Sb.all | exact Sb.nil | (apply Sb.cons; focus (first | ((repeat (first | with_reducible exact Tk.here | with_reducible apply Tk.there)); done) | ((repeat (first | exact Tk.here | apply Tk.there)); done))) | apply Sb.drop)) h)
        · -- behind the join
          intro _ _ ρh
          refine WC.ite rfl (fun h8 => ?_) (fun h8 => ?_)
          · -- then
            obtain ⟨o, ho⟩ := Option.isSome_iff_exists.1 h8
            have hw : wd (sk l) = .bin o := wd_two hone (by rw [← ha, ← hb]; exact ho)
            exact WC.seq <| WC.region <| sv (vmT rfl) <| sv (vaT rfl) <| WL.nil <| WX.thenN <| WC.ret <| WX.blockR <| WX.thenR <| WX.ret1 rfl (()) (trivial) (by rw [hw]; show Value.string (bs [a, b]) = .string (bs o.bytes); rw [wd2_bytes ho]) (fun _ h => Sb.own (by repeat' (first | with_reducible exact Sb.all | exact Sb.nil | (apply Sb.cons; focus (first | ((repeat (first | with_reducible exact Tk.here | with_reducible apply Tk.there)); done) | ((repeat (first | exact Tk.here | apply Tk.there)); done))) | apply Sb.drop)) h)
          · -- else
            exact WC.skip <| WX.blockN <| WX.mid (()) (.inr (by cases hq : wd2 a b with | none => rfl | some o => exact absurd (by rw [hq]; rfl) h8)) trivial ⟨rfl, trivial⟩ (fun _ h => Sb.own (by repeat' (first | with_reducible exact Sb.all | exact Sb.nil | (apply Sb.cons; focus (first | ((repeat (first | with_reducible exact Tk.here | with_reducible apply Tk.there)); done) | ((repeat (first | exact Tk.here | apply Tk.there)); done))) | apply Sb.drop)) h)
      · -- else
        exact WC.skip <| WX.mid (()) (.inl (by omega)) trivial ⟨rfl, trivial⟩ (fun _ h => Sb.own (by repeat' (first | with_reducible exact Sb.all | exact Sb.nil | (apply Sb.cons; focus (first | ((repeat (first | with_reducible exact Tk.here | with_reducible apply Tk.there)); done) | ((repeat (first | exact Tk.here | apply Tk.there)); done))) | apply Sb.drop)) h)
    · -- behind the join
      intro _ hno ρh
      have hw : wd (sk l) = wd1 a := by rw [ha]; exact wd_one hpos (by rw [← ha, ← hb]; exact hno)
      refine WC.seq <| WC.seq <| WC.draws rfl (by kernel_rfl) <| qv (vmP rfl) <| qv (vnil rfl) <| qv (vfldpz fl43f0 rfl) <| qv (vldc pl9 rfl) <| qv (vmP rfl) <| qv (vnil rfl) <| qv (vfldp fl43f1 rfl) <| qv (vldc pl3 rfl) <| qv (vmP rfl) <| qv (vnil rfl) <| qv (vfldp fl43f1 rfl) <| qv (vldc pl3 rfl) <| qv (vadd rfl rfl (by omega)) <| qv (vw (v' := .string (bs [a])) (vsslLH Tryd.underlying9 rfl rfl rfl (by omega) (by omega) (by omega)) (by rw [suf_extract (n := 1) hs2 (by omega) rfl (by omega), take1 hpos, ha])) <| qv (vaT rfl) <| WQ.nil <| WX.thenN <| WC.seq <| WC.region <| sv (vmT rfl) <| WL.nil <| WX.thenN <| WC.block <| ?_
      refine WC.cutvS (ι := Unit) (fun i => [(57, .bool (decide (wd1 a ≠ .none_)))]) [(4, .string _)] (fun i => True) ⟨rfl, trivial⟩ ?_ ?_
      · -- up to the join
        refine WC.seq <| WC.region <| sv (veqs rfl rfl) <| sv (vaB rfl) <| WL.nil <| WX.thenN <| ?_
        refine WC.ite rfl (fun h9 => ?_) (fun h9 => ?_)
        · -- then
          exact WC.skip <| WX.mid (()) (trivial) ⟨bI ⟨fun _ => by rw [one_eq.1 h9]; decide, fun _ => h9⟩, trivial⟩ ⟨rfl, trivial⟩ (fun _ h => Sb.own (by repeat' (first | with_reducible exact Sb.all | exact Sb.nil | (apply Sb.cons; focus (first | ((repeat (first | with_reducible exact Tk.here | with_reducible apply Tk.there)); done) | ((repeat (first | exact Tk.here | apply Tk.there)); done))) | apply Sb.drop)) h)
        · -- else
          refine WC.seq <| WC.region <| sv (veqs rfl rfl) <| sv (vaB rfl) <| WL.nil <| WX.thenN <| ?_
          refine WC.ite rfl (fun h10 => ?_) (fun h10 => ?_)
          · -- then
            exact WC.skip <| WX.mid (()) (trivial) ⟨bI ⟨fun _ => by rw [one_eq.1 h10]; decide, fun _ => h10⟩, trivial⟩ ⟨rfl, trivial⟩ (fun _ h => Sb.own (by repeat' (first | with_reducible exact Sb.all | exact Sb.nil | (apply Sb.cons; focus (first | ((repeat (first | with_reducible exact Tk.here | with_reducible apply Tk.there)); done) | ((repeat (first | exact Tk.here | apply Tk.there)); done))) | apply Sb.drop)) h)
          · -- else
            refine WC.seq <| WC.region <| sv (veqs rfl rfl) <| sv (vaB rfl) <| WL.nil <| WX.thenN <| ?_
            refine WC.ite rfl (fun h11 => ?_) (fun h11 => ?_)
            · -- then
              exact WC.skip <| WX.mid (()) (trivial) ⟨bI ⟨fun _ => by rw [one_eq.1 h11]; decide, fun _ => h11⟩, trivial⟩ ⟨rfl, trivial⟩ (fun _ h => Sb.own (by repeat' (first | with_reducible exact Sb.all | exact Sb.nil | (apply Sb.cons; focus (first | ((repeat (first | with_reducible exact Tk.here | with_reducible apply Tk.there)); done) | ((repeat (first | exact Tk.here | apply Tk.there)); done))) | apply Sb.drop)) h)
            · -- else
              refine WC.seq <| WC.region <| sv (veqs rfl rfl) <| sv (vaB rfl) <| WL.nil <| WX.thenN <| ?_
              refine WC.ite rfl (fun h12 => ?_) (fun h12 => ?_)
              · -- then
                exact WC.skip <| WX.mid (()) (trivial) ⟨bI ⟨fun _ => by rw [one_eq.1 h12]; decide, fun _ => h12⟩, trivial⟩ ⟨rfl, trivial⟩ (fun _ h => Sb.own (by repeat' (first | with_reducible exact Sb.all | exact Sb.nil | (apply Sb.cons; focus (first | ((repeat (first | with_reducible exact Tk.here | with_reducible apply Tk.there)); done) | ((repeat (first | exact Tk.here | apply Tk.there)); done))) | apply Sb.drop)) h)
              · -- else
                refine WC.seq <| WC.region <| sv (veqs rfl rfl) <| sv (vaB rfl) <| WL.nil <| WX.thenN <| ?_
                refine WC.ite rfl (fun h13 => ?_) (fun h13 => ?_)
                · -- then
                  exact WC.skip <| WX.mid (()) (trivial) ⟨bI ⟨fun _ => by rw [one_eq.1 h13]; decide, fun _ => h13⟩, trivial⟩ ⟨rfl, trivial⟩ (fun _ h => Sb.own (by repeat' (first | with_reducible exact Sb.all | exact Sb.nil | (apply Sb.cons; focus (first | ((repeat (first | with_reducible exact Tk.here | with_reducible apply Tk.there)); done) | ((repeat (first | exact Tk.here | apply Tk.there)); done))) | apply Sb.drop)) h)
                · -- else
                  refine WC.seq <| WC.region <| sv (veqs rfl rfl) <| sv (vaB rfl) <| WL.nil <| WX.thenN <| ?_
                  refine WC.ite rfl (fun h14 => ?_) (fun h14 => ?_)
                  · -- then
                    exact WC.skip <| WX.mid (()) (trivial) ⟨bI ⟨fun _ => by rw [one_eq.1 h14]; decide, fun _ => h14⟩, trivial⟩ ⟨rfl, trivial⟩ (fun _ h => Sb.own (by repeat' (first | with_reducible exact Sb.all | exact Sb.nil | (apply Sb.cons; focus (first | ((repeat (first | with_reducible exact Tk.here | with_reducible apply Tk.there)); done) | ((repeat (first | exact Tk.here | apply Tk.there)); done))) | apply Sb.drop)) h)
                  · -- else
                    refine WC.seq <| WC.region <| sv (veqs rfl rfl) <| sv (vaB rfl) <| WL.nil <| WX.thenN <| ?_
                    refine WC.ite rfl (fun h15 => ?_) (fun h15 => ?_)
                    · -- then
                      exact WC.skip <| WX.mid (()) (trivial) ⟨bI ⟨fun _ => by rw [one_eq.1 h15]; decide, fun _ => h15⟩, trivial⟩ ⟨rfl, trivial⟩ (fun _ h => Sb.own (by repeat' (first | with_reducible exact Sb.all | exact Sb.nil | (apply Sb.cons; focus (first | ((repeat (first | with_reducible exact Tk.here | with_reducible apply Tk.there)); done) | ((repeat (first | exact Tk.here | apply Tk.there)); done))) | apply Sb.drop)) h)
                    · -- else
                      refine WC.seq <| WC.region <| sv (veqs rfl rfl) <| sv (vaB rfl) <| WL.nil <| WX.thenN <| ?_
                      refine WC.ite rfl (fun h16 => ?_) (fun h16 => ?_)
                      · -- then
                        exact WC.skip <| WX.mid (()) (trivial) ⟨bI ⟨fun _ => by rw [one_eq.1 h16]; decide, fun _ => h16⟩, trivial⟩ ⟨rfl, trivial⟩ (fun _ h => Sb.own (by repeat' (first | with_reducible exact Sb.all | exact Sb.nil | (apply Sb.cons; focus (first | ((repeat (first | with_reducible exact Tk.here | with_reducible apply Tk.there)); done) | ((repeat (first | exact Tk.here | apply Tk.there)); done))) | apply Sb.drop)) h)
                      · -- else
                        refine WC.seq <| WC.region <| sv (veqs rfl rfl) <| sv (vaB rfl) <| WL.nil <| WX.thenN <| ?_
                        refine WC.ite rfl (fun h17 => ?_) (fun h17 => ?_)
                        · -- then
                          exact WC.skip <| WX.mid (()) (trivial) ⟨bI ⟨fun _ => by rw [one_eq.1 h17]; decide, fun _ => h17⟩, trivial⟩ ⟨rfl, trivial⟩ (fun _ h => Sb.own (by repeat' (first | with_reducible exact Sb.all | exact Sb.nil | (apply Sb.cons; focus (first | ((repeat (first | with_reducible exact Tk.here | with_reducible apply Tk.there)); done) | ((repeat (first | exact Tk.here | apply Tk.there)); done))) | apply Sb.drop)) h)
                        · -- else
                          exact WC.region <| sv (veqs rfl rfl) <| sv (vaB rfl) <| WL.nil <| WX.mid (()) (trivial) ⟨bI (by rw [one_eq] at h9 h10 h11 h12 h13 h14 h15 h16 h17 ⊢; unfold wd1; rw [if_neg h9, if_neg h10, if_neg h11, if_neg h12, if_neg h13, if_neg h14, if_neg h15, if_neg h16, if_neg h17]; split <;> simp_all), trivial⟩ ⟨rfl, trivial⟩ (fun _ h => Sb.own (by repeat' (first | with_reducible exact Sb.all | exact Sb.nil | (apply Sb.cons; focus (first | ((repeat (first | with_reducible exact Tk.here | with_reducible apply Tk.there)); done) | ((repeat (first | exact Tk.here | apply Tk.there)); done))) | apply Sb.drop)) h)
      · -- behind the join
        intro _ _ ρh
        refine WC.ite rfl (fun h18 => ?_) (fun h18 => ?_)
        · -- then
          exact WC.seq <| WC.region <| sv (vmT rfl) <| sv (vaT rfl) <| WL.nil <| WX.thenN <| WC.ret <| WX.blockR <| WX.thenR <| WX.ret1 rfl (()) (trivial) (by rw [hw, ← wd1_bytes h18]; rfl) (fun _ h => Sb.own (by repeat' (first | with_reducible exact Sb.all | exact Sb.nil | (apply Sb.cons; focus (first | ((repeat (first | with_reducible exact Tk.here | with_reducible apply Tk.there)); done) | ((repeat (first | exact Tk.here | apply Tk.there)); done))) | apply Sb.drop)) h)
        · -- else
          exact WC.skip <| WX.blockN <| WX.thenN <| WC.seq <| WC.region <| sv (vaT rfl) <| WL.nil <| WX.thenN <| WC.ret <| WX.ret1 rfl (()) (trivial) (by rw [hw, Decidable.not_not.1 h18]; rfl) (fun _ h => Sb.own (by repeat' (first | with_reducible exact Sb.all | exact Sb.nil | (apply Sb.cons; focus (first | ((repeat (first | with_reducible exact Tk.here | with_reducible apply Tk.there)); done) | ((repeat (first | exact Tk.here | apply Tk.there)); done))) | apply Sb.drop)) h)
end Go.Proofs.YtoeglkkmjmhmiaaDoor
