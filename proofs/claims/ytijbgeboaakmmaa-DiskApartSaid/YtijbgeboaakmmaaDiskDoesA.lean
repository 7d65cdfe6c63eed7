/-
  Layer 2: what any call leaves; which scripts are looked at.
-/
import Derived.Test.YtijbgeboaakmmaaDiskStep
set_option linter.unusedVariables false
set_option linter.unusedSimpArgs false
set_option maxRecDepth 4000
namespace Go.Proofs.Ytijbgeboaakmmaa
open Go.Sl Go.RowKit

/-- a disk behind at most n calls -/
structure Dd (n : Nat) (st : DSt) : Prop where
  deeds : 0 ≤ st.deeds ∧ st.deeds ≤ n
  nm : Nm n st
theorem Dd.new : Dd 0 newD := ⟨⟨by decide, by decide⟩, Nm.new⟩
theorem Nm.putS {N : Nat} {st st' : DSt} {nm : ByteArray} {v : List UInt8 × Nat} (h : Nm N st) (hn : okName nm) (hf : st'.files = putV nm v st.files) : Nm (N + 1) st' := by
  have hs : ∀ k, (st'.files k).isSome = true → k = nm ∨ (st.files k).isSome = true := fun k hk => by
    rw [hf] at hk; unfold putV at hk
    split at hk
    · exact .inl (by assumption)
    · exact .inr hk
  obtain ⟨ns, hl, hm⟩ := h.names
  refine ⟨⟨nm :: ns, by simp only [List.length_cons]; omega, fun k hk => ?_⟩, fun k hk => ?_⟩
  · rcases hs k hk with rfl | hk
    · exact List.mem_cons_self
    · exact List.mem_cons_of_mem _ (hm k hk)
  · rcases hs k hk with rfl | hk
    · exact hn
    · exact h.ok k hk
theorem Nm.sub {N M : Nat} {st st' : DSt} (h : Nm N st) (hM : N ≤ M) (hs : ∀ k, (st'.files k).isSome = true → (st.files k).isSome = true) : Nm M st' := by
  obtain ⟨ns, hl, hm⟩ := h.names
  exact ⟨⟨ns, by omega, fun k hk => hm k (hs k hk)⟩, fun k hk => h.ok k (hs k hk)⟩
theorem Dd.more {n : Nat} {st : DSt} (h : Dd n st) : Dd (n + 1) st := ⟨⟨h.deeds.1, by have := h.deeds.2; omega⟩, h.nm.sub (Nat.le_succ n) fun _ hk => hk⟩
theorem off_some {keep : Int} {st : DSt} (k : ByteArray) : ((offS keep st).files k).isSome = (st.files k).isSome := by
  unfold offS
  split
  · rfl
  · dsimp only; rw [Option.isSome_map]
theorem Dd.deed {n : Nat} {st : DSt} {dof late : (ByteArray → Option (List UInt8 × Nat)) → ByteArray → Option (List UInt8 × Nat)} (h : Dd n st) (h1 : Nm (n + 1) { st with files := dof st.files }) (h2 : Nm (n + 1) { st with files := late st.files }) : Dd (n + 1) (deedS dof late st).1 := by
  have hd := h.deeds
  unfold deedS
  split
  · refine ⟨?_, h2.sub (Nat.le_refl _) fun k hk => ?_⟩
    · have : (offS st.keep { st with deeds := st.deeds + 1, fuse := 0, files := late st.files }).deeds = st.deeds + 1 := by unfold offS; split <;> rfl
      dsimp only at this ⊢
      rw [this]; omega
    · dsimp only at hk
      rw [off_some] at hk
      exact hk
  · exact ⟨by dsimp only; omega, h1.sub (Nat.le_refl _) fun k hk => hk⟩
theorem put_some {nm : ByteArray} {v : List UInt8 × Nat} {st : DSt} (hv : (st.files nm).isSome = true) (k : ByteArray) (h : (putV nm v st.files k).isSome = true) : (st.files k).isSome = true := by
  unfold putV at h
  split at h
  · subst_vars; exact hv
  · exact h
theorem Dd.step {n : Nat} {st : DSt} {k m p : Int} {nm : ByteArray} {b : List UInt8} (h : Dd n st) : Dd (n + 1) (stepS k nm b m p st) := by
  have hd := h.deeds
  unfold stepS
  split
  · unfold appendS
    split
    · exact h.more
    · split
      · exact h.more
      · rename_i hn
        have hn' : okName nm := Decidable.not_not.1 hn
        split
        · exact h.more
        · exact h.deed (h.nm.putS hn' rfl) (h.nm.putS hn' rfl)
  · split
    · unfold syncS
      split
      · exact h.more
      · split
        · exact h.more
        · rename_i v hv
          exact h.deed (h.nm.sub (Nat.le_succ n) fun k hk => put_some (by rw [hv]; rfl) k hk) h.more.nm
    · split
      · unfold cutS
        split
        · exact h.more
        · split
          · exact h.more
          · rename_i v hv
            split
            · exact h.more
            · exact h.deed (h.nm.sub (Nat.le_succ n) fun k hk => put_some (by rw [hv]; rfl) k hk) h.more.nm
      · split
        · exact h.more
        · split
          · exact ⟨⟨hd.1, by dsimp only; omega⟩, h.nm.sub (Nat.le_succ n) fun k hk => hk⟩
          · split
            · refine ⟨?_, h.nm.sub (Nat.le_succ n) fun k hk => by rwa [off_some] at hk⟩
              have : (offS p st).deeds = st.deeds := by unfold offS; split <;> rfl
              rw [this]; omega
            · split
              · exact ⟨⟨hd.1, by dsimp only; omega⟩, h.nm.sub (Nat.le_succ n) fun k hk => hk⟩
              · exact h.more
theorem rd_some {w0 w : World} {A : List HProp} {base : Option Addr} {vs : List Value} (hp : 0 < vs.length) (hR : RdC w0 A base vs) (h : Own w0 A w) : base.isSome = true := by
  obtain ⟨a, rfl, _⟩ := hR w h 0 vs[0] (List.getElem?_eq_getElem hp)
  rfl
abbrev AO := Int × ByteArray × Sla UInt8 × Int × Int × Unit
abbrev cellO (a : AO) : List Value := ocel a.1 a.2.1 a.2.2.1 a.2.2.2.1 a.2.2.2.2.1
theorem law_small {w0 : World} {A : List HProp} {o : Sla AO} (ho : Rd w0 o.base (o.xs.flatMap cellO)) :
    Fun Try.prog w0 18 [.slice o.base o.xs.length o.cap] A (Ret w0 (fun _ : Unit => True) (fun _ => .bool (decide (o.xs.length ≤ 300 ∧ ∀ a ∈ o.xs, a.2.2.1.xs.length ≤ 1024))) (fun _ => A)) := by
  have hfl : (o.xs.flatMap cellO).length = o.xs.length * 5 := flat_len (fun _ _ => rfl)
  refine Fun.enter Try.func18 rfl Try.ntmps18 rfl ?_
  refine WC.seq <| WC.region <| sv (vaB rfl) <| WL.nil <| WX.thenN <| WC.seq <| WC.seq <| WC.region <| sv (vmS rfl) <| sv (vlen Try.underlying40 rfl) <| sv (vgt rfl rfl) <| WL.nil <| WX.thenN <| ?_
  refine WC.ite rfl (fun h1 => ?_) (fun h1 => ?_)
  · -- then
    exact WC.seq <| WC.region <| sv (vaB rfl) <| WL.nil <| WX.thenN <| WC.ret <| WX.thenR <| WX.ret1 rfl (()) (trivial) (bF (fun h => by omega)) (fun _ h => Sb.own (by repeat' (first | with_reducible exact Sb.all | exact Sb.nil | (apply Sb.cons; focus (first | ((repeat (first | with_reducible exact Tk.here | with_reducible apply Tk.there)); done) | ((repeat (first | exact Tk.here | apply Tk.there)); done))) | apply Sb.drop)) h)
  · -- else
    refine WC.skip <| WX.thenN <| WC.seq <| WC.seq <| WC.region <| sv (vaI rfl) <| WL.nil <| WX.thenN <| WC.block <| ?_
    refine WC.loopS (ι := Nat) (fun i => [(3, .int .i64 i)]) [(0, .slice _ _ _)] (fun i => i ≤ o.xs.length ∧ ∀ a ∈ o.xs.take i, a.2.2.1.xs.length ≤ 1024) (fun i => o.xs.length - i) (0) (⟨Nat.zero_le _, fun a h => by rw [List.take_zero] at h; cases h⟩) ⟨rfl, trivial⟩ ⟨rfl, trivial⟩ ?_
    intro i hi ρh
    refine WC.seq <| WC.seq <| WC.region <| sv (vmI rfl) <| sv (vmS rfl) <| sv (vlen Try.underlying40 rfl) <| sv (vlt rfl rfl) <| WL.nil <| WX.thenN <| ?_
    refine WC.ite rfl (fun h2 => ?_) (fun h2 => ?_)
    · -- then
      have hil : i < o.xs.length := by omega
      obtain ⟨a, ha⟩ : ∃ a, o.xs[i]? = some a := ⟨_, List.getElem?_eq_getElem hil⟩
      have hpos : 0 < (o.xs.flatMap cellO).length := by omega
      have hf2 : (o.xs.flatMap cellO)[((i : Int)).toNat * 5 + 2]? = some (.slice a.2.2.1.base a.2.2.1.xs.length a.2.2.1.cap) := by rw [Int.toNat_natCast, flat_at (f := cellO) (s := 5) (fun _ _ => rfl) hil (by omega), (List.getElem?_eq_some_iff.1 ha).2]; rfl
      have hRi : Reads w0 A o.base (o.xs.flatMap cellO) := ⟨RdC.old ho⟩
      refine WC.known (fun w h => rd_some hpos hRi.rd h) fun hb => ?_
      refine WC.skip <| WX.thenN <| WC.seq <| WC.block <| WC.seq <| WC.region <| sv (vmS rfl) <| sv (vmI rfl) <| sv (vix Try.underlying40 sz48 rfl rfl (by omega) (by omega) reads (hpos)) <| sv (vfldr (hb) fl48f2 rfl) <| sv (vldo pl27 rfl reads (hf2)) <| sv (vlen Try.underlying27 rfl) <| sv (vgt rfl rfl) <| WL.nil <| WX.thenN <| ?_
      refine WC.ite rfl (fun h3 => ?_) (fun h3 => ?_)
      · -- then
        exact WC.seq <| WC.region <| sv (vaB rfl) <| WL.nil <| WX.thenN <| WC.ret <| WX.blockR <| WX.thenR <| WX.thenR <| WX.blockR <| WX.thenR <| WX.ret1 rfl (()) (trivial) (bF (fun h => by have := h.2 a (List.mem_of_getElem? ha); omega)) (fun _ h => Sb.own (by repeat' (first | with_reducible exact Sb.all | exact Sb.nil | (apply Sb.cons; focus (first | ((repeat (first | with_reducible exact Tk.here | with_reducible apply Tk.there)); done) | ((repeat (first | exact Tk.here | apply Tk.there)); done))) | apply Sb.drop)) h)
      · -- else
        exact WC.skip <| WX.blockN <| WX.thenN <| WC.region <| sv (vmI rfl) <| sv (vadd rfl rfl (by omega)) <| sv (vaI rfl) <| WL.nil <| WX.again (i + 1) (⟨by omega, fun c hc => by rw [List.take_add_one, ha] at hc; exact (List.mem_append.1 hc).elim (hi.2 c) (fun hc => by have : c = a := (by simpa using hc); subst this; omega)⟩) (by omega) ⟨rfl, trivial⟩ ⟨rfl, trivial⟩ (fun _ h => Sb.own (by repeat' (first | with_reducible exact Sb.all | exact Sb.nil | (apply Sb.cons; focus (first | ((repeat (first | with_reducible exact Tk.here | with_reducible apply Tk.there)); done) | ((repeat (first | exact Tk.here | apply Tk.there)); done))) | apply Sb.drop)) h)
    · -- else
      exact WC.exit <| WX.thenE <| WX.thenE <| WX.blockH <| WX.thenN <| WC.seq <| WC.region <| sv (vaB rfl) <| WL.nil <| WX.thenN <| WC.ret <| WX.ret1 rfl (()) (trivial) (bT ⟨by omega, by have := hi.2; rwa [List.take_of_length_le (by omega)] at this⟩) (fun _ h => Sb.own (by repeat' (first | with_reducible exact Sb.all | exact Sb.nil | (apply Sb.cons; focus (first | ((repeat (first | with_reducible exact Tk.here | with_reducible apply Tk.there)); done) | ((repeat (first | exact Tk.here | apply Tk.there)); done))) | apply Sb.drop)) h)
theorem disk_up_c {w0 : World} {A : List HProp} {d m : Nat} {st : DSt} [hc : CelAt A d (dcells m st) 59] : Fun Try.prog w0 20 [.pointer (some ⟨d, 0, none⟩)] A (Ret w0 (fun _ : Unit => True) (fun _ => .bool (!st.off)) (fun _ => A)) := by
  refine Fun.enter Try.func20 rfl Try.ntmps20 rfl ?_
  refine WC.seq <| WC.region <| sv (vaB rfl) <| WL.nil <| WX.thenN <| ?_
  refine WC.cutS [(2, .bool (!st.off))] [] trivial ?_ fun ρh => ?_
  · -- disk.go:159
    exact WC.region <| sv (vmP rfl) <| sv (vpneT Try.underlying25 rfl rfl) <| sv (vmB rfl) <| svg rfl (vmP rfl) <| svg rfl (vnil rfl) <| svg rfl (vfldp fl59f1 rfl) <| svg rfl (vldc pl4 rfl) <| svg rfl (vnot rfl) <| sv (vpkt rfl) <| sv (vaB rfl) <| WL.nil <| WX.mid () trivial ⟨rfl, trivial⟩ trivial (fun _ h => Sb.own (by repeat' (first | with_reducible exact Sb.all | exact Sb.nil | (apply Sb.cons; focus (first | ((repeat (first | with_reducible exact Tk.here | with_reducible apply Tk.there)); done) | ((repeat (first | exact Tk.here | apply Tk.there)); done))) | apply Sb.drop)) h)
  exact WC.ret <| WX.ret1 rfl (()) (trivial) rfl (fun _ h => Sb.own (by repeat' (first | with_reducible exact Sb.all | exact Sb.nil | (apply Sb.cons; focus (first | ((repeat (first | with_reducible exact Tk.here | with_reducible apply Tk.there)); done) | ((repeat (first | exact Tk.here | apply Tk.there)); done))) | apply Sb.drop)) h)
theorem disk_deeds_c {w0 : World} {A : List HProp} {d m : Nat} {st : DSt} [hc : CelAt A d (dcells m st) 59] : Fun Try.prog w0 21 [.pointer (some ⟨d, 0, none⟩)] A (Ret w0 (fun _ : Unit => True) (fun _ => .int .i64 st.deeds) (fun _ => A)) := by
  refine Fun.enter Try.func21 rfl Try.ntmps21 rfl ?_
  refine WC.seq <| WC.region <| sv (vaI rfl) <| WL.nil <| WX.thenN <| WC.seq <| WC.seq <| WC.region <| sv (vmP rfl) <| sv (vpeqF Try.underlying25 rfl rfl) <| WL.nil <| WX.thenN <| ?_
  refine WC.ff rfl ?_
  exact WC.skip <| WX.thenN <| WC.seq <| WC.region <| sv (vmP rfl) <| sv (vnil rfl) <| sv (vfldp fl59f4 rfl) <| sv (vldc pl3 rfl) <| sv (vaI rfl) <| WL.nil <| WX.thenN <| WC.ret <| WX.ret1 rfl (()) (trivial) rfl (fun _ h => Sb.own (by repeat' (first | with_reducible exact Sb.all | exact Sb.nil | (apply Sb.cons; focus (first | ((repeat (first | with_reducible exact Tk.here | with_reducible apply Tk.there)); done) | ((repeat (first | exact Tk.here | apply Tk.there)); done))) | apply Sb.drop)) h)
theorem both_mk {w0 w : World} {d r m c N : Nat} {base : Option Addr} {st : DSt} {l : List RF} {k : List DF} {A : List HProp} (hk : Rep k st) (hl : RRep l st) (hc : l.length ≤ c ∧ l.length ≤ N) (H : Own w0 (cel d (dcells m st) 59 :: mp .string m (ents k) :: pfiles k :: cel r (rcells base l.length c st) 45 :: row base c 3 51 (fcells l) :: rows 5 (l.map (·.b)) :: A) w) : Own w0 (pdisk d st :: rdisk r N st :: A) w := by
  have h1 : Own w0 (cel r (rcells base l.length c st) 45 :: row base c 3 51 (fcells l) :: rows 5 (l.map (·.b)) :: cel d (dcells m st) 59 :: mp .string m (ents k) :: pfiles k :: A) w := Sb.own (by repeat' (first | with_reducible exact Sb.all | exact Sb.nil | (apply Sb.cons; focus (first | ((repeat (first | with_reducible exact Tk.here | with_reducible apply Tk.there)); done) | ((repeat (first | exact Tk.here | apply Tk.there)); done))) | apply Sb.drop)) H
  have h2 : Own w0 (cel d (dcells m st) 59 :: mp .string m (ents k) :: pfiles k :: rdisk r N st :: A) w := Sb.own (by repeat' (first | with_reducible exact Sb.all | exact Sb.nil | (apply Sb.cons; focus (first | ((repeat (first | with_reducible exact Tk.here | with_reducible apply Tk.there)); done) | ((repeat (first | exact Tk.here | apply Tk.there)); done))) | apply Sb.drop)) (rdisk_mk hl hc h1)
  exact pdisk_mk hk h2
def hdr (d r n : Nat) : HProp := fun h => ∃ st, Dd n st ∧ star (pdisk d st) (rdisk r n st) h
theorem hdr_open {w0 w : World} {d r n : Nat} {A : List HProp} (H : Own w0 (hdr d r n :: A) w) : ∃ st, Dd n st ∧ Own w0 (pdisk d st :: rdisk r n st :: A) w := by
  obtain ⟨hb, h, ⟨h1, h2, ⟨st, hs, a⟩, a2, dd, y⟩, hw'⟩ := H
  exact ⟨st, hs, Own.star ⟨hb, h, ⟨h1, h2, a, a2, dd, y⟩, hw'⟩⟩
theorem hdr_mk {w0 w : World} {d r n : Nat} {A : List HProp} {st : DSt} (hs : Dd n st) (H : Own w0 (pdisk d st :: rdisk r n st :: A) w) : Own w0 (hdr d r n :: A) w := H.intro_star.head fun _ h => ⟨st, hs, h⟩
end Go.Proofs.Ytijbgeboaakmmaa
