/-
  Layer 19: what is said of nodes: logs that match.
-/
import Derived.Test.YtekoilhjlofncaaRaftNetE
import Derived.Test.YtekoilhjlofncaaSlEq
import Derived.Test.YtekoilhjlofncaaRaftSafeE
set_option linter.unusedVariables false
set_option linter.unusedSimpArgs false
set_option maxRecDepth 4000
namespace Go.Proofs.Ytekoilhjlofncaa
open Go.Sl Go.RowKit Go.Raft

theorem atT_nat {l : List Cl} {p : Nat} {c : Cl} (h : l[p]? = some c) : atT l ((p + 1 : Nat) : Int) = c.term := by
  have := atT_pos h; rwa [show ((p + 1 : Nat) : Int) = (p : Int) + 1 by omega]
theorem law_matched {w0 : World} {A : List HProp} {a b : List Cl} {ab bb : Option Addr} {ac bc : Nat} (ha : a.length ≤ 1099511627776) (hb : b.length ≤ 1099511627776) [hRa : Reads w0 A ab (cvs a)] [hRb : Reads w0 A bb (cvs b)] (h : ∀ p : Nat, 1 ≤ p → p ≤ a.length → p ≤ b.length → atT a p = atT b p → a.take p = b.take p) :
    Fun Try.prog w0 59 [.slice ab a.length ac, .slice bb b.length bc] A (Ret w0 (fun _ : Unit => True) (fun _ => .bool true) (fun _ => A)) := by
  have hla := cvs_length a
  have hlb := cvs_length b
  refine Fun.enter Try.func59 rfl Try.ntmps59 rfl ?_
  refine WC.seq <| WC.region <| sv (vaB rfl) <| WL.nil <| WX.thenN <| WC.seq <| WC.region <| sv (vmS rfl) <| sv (vlen Try.underlying22 rfl) <| sv (vmS rfl) <| sv (vlen Try.underlying22 rfl) <| sv (vmin rfl rfl) <| sv (vaI rfl) <| WL.nil <| WX.thenN <| WC.seq <| WC.block <| ?_
  refine WC.loopS (ι := Nat) (fun i => [(5, .int .i64 i)]) [(0, .slice _ _ _), (1, .slice _ _ _)] (fun i => i ≤ a.length ∧ i ≤ b.length) (fun i => i) (min a.length b.length) (⟨Nat.min_le_left _ _, Nat.min_le_right _ _⟩) ⟨iv (by omega), trivial⟩ ⟨rfl, rfl, trivial⟩ ?_
  intro i ⟨hia, hib⟩ ρh
  obtain ⟨da, hda⟩ : ∃ d, i = 0 ∨ a[i - 1]? = some d := by
    rcases Nat.eq_zero_or_pos i with h0 | h0
    · exact ⟨⟨0, ByteArray.empty⟩, .inl h0⟩
    · exact ⟨_, .inr (List.getElem?_eq_getElem (by omega))⟩
  obtain ⟨db, hdb⟩ : ∃ d, i = 0 ∨ b[i - 1]? = some d := by
    rcases Nat.eq_zero_or_pos i with h0 | h0
    · exact ⟨⟨0, ByteArray.empty⟩, .inl h0⟩
    · exact ⟨_, .inr (List.getElem?_eq_getElem (by omega))⟩
  refine WC.known (p := i = 0 ∨ ab.isSome = true) (fun w h => (Nat.eq_zero_or_pos i).imp_right fun h0 => rsome (by omega : 0 < (cvs a).length) reads h) fun hsa => ?_
  refine WC.known (p := i = 0 ∨ bb.isSome = true) (fun w h => (Nat.eq_zero_or_pos i).imp_right fun h0 => rsome (by omega : 0 < (cvs b).length) reads h) fun hsb => ?_
  have hfa : 0 < i → (cvs a)[((i : Int) - 1).toNat * 2 + 0]? = some (.int .i64 da.term) := fun h0 => by rw [show ((i : Int) - 1).toNat = i - 1 by omega, cvs_at (hda.resolve_left (by omega)) (by decide)]; rfl
  have hfb : 0 < i → (cvs b)[((i : Int) - 1).toNat * 2 + 0]? = some (.int .i64 db.term) := fun h0 => by rw [show ((i : Int) - 1).toNat = i - 1 by omega, cvs_at (hdb.resolve_left (by omega)) (by decide)]; rfl
  refine WC.seq <| ?_
  refine WC.cutS [(28, .bool (decide (0 < i ∧ da.term ≠ db.term)))] [(0, .slice _ _ _), (1, .slice _ _ _), (5, .int _ _)] ⟨rfl, rfl, rfl, trivial⟩ ?_ fun ρh => ?_
  · -- law.go:278
    refine WC.draws rfl (by kernel_rfl) <| qv (vmI rfl) <| qvs (vgt rfl rfl) (fun q1 => ?_) (fun q1 => ?_)
    ·
      exact qv (vmB rfl) <| qvg rfl (vmS rfl) <| qvg rfl (vmI rfl) <| qvg rfl (vw (v' := .int .i64 ((i : Int) - 1)) (vsub rfl rfl (by omega)) rfl) <| qvg rfl (vix Try.underlying22 sz39 rfl rfl (by omega) (by omega) (reads (vs := cvs a)) (by omega)) <| qvg rfl (vfldr (hsa.resolve_left (by omega)) fl39f0 rfl) <| qvg rfl (vldo pl3 rfl (reads (vs := cvs a)) (hfa (by omega))) <| qvg rfl (vmS rfl) <| qvg rfl (vmI rfl) <| qvg rfl (vw (v' := .int .i64 ((i : Int) - 1)) (vsub rfl rfl (by omega)) rfl) <| qvg rfl (vix Try.underlying22 sz39 rfl rfl (by omega) (by omega) (reads (vs := cvs b)) (by omega)) <| qvg rfl (vfldr (hsb.resolve_left (by omega)) fl39f0 rfl) <| qvg rfl (vldo pl3 rfl (reads (vs := cvs b)) (hfb (by omega))) <| qvg rfl (vne rfl rfl) <| qv (vpkt rfl) <| WQ.nil <| WX.mid () trivial ⟨bI (by constructor; exact fun h => ⟨by omega, h⟩; exact fun h => h.2), trivial⟩ ⟨rfl, rfl, rfl, trivial⟩ (fun _ h => Sb.own (by repeat' (first | with_reducible exact Sb.all | exact Sb.nil | (apply Sb.cons; focus (first | ((repeat (first | with_reducible exact Tk.here | with_reducible apply Tk.there)); done) | ((repeat (first | exact Tk.here | apply Tk.there)); done))) | apply Sb.drop)) h)
    ·
      exact qv (vmB rfl) <| qng rfl <| qng rfl <| qng rfl <| qng rfl <| qng rfl <| qng rfl <| qng rfl <| qng rfl <| qng rfl <| qng rfl <| qng rfl <| qng rfl <| qng rfl <| qv (vpkf rfl) <| WQ.nil <| WX.mid () trivial ⟨bF (by first | omega | simp_all | grind), trivial⟩ ⟨rfl, rfl, rfl, trivial⟩ (fun _ h => Sb.own (by repeat' (first | with_reducible exact Sb.all | exact Sb.nil | (apply Sb.cons; focus (first | ((repeat (first | with_reducible exact Tk.here | with_reducible apply Tk.there)); done) | ((repeat (first | exact Tk.here | apply Tk.there)); done))) | apply Sb.drop)) h)
  refine WC.ite rfl (fun h1 => ?_) (fun h1 => ?_)
  · -- then
    exact WC.skip <| WX.thenN <| WC.block <| WC.region <| sv (vmI rfl) <| sv (vsub rfl rfl (by omega)) <| sv (vaI rfl) <| WL.nil <| WX.blockN <| WX.again (i - 1) (⟨by omega, by omega⟩) (by omega) ⟨iv (by omega), trivial⟩ ⟨rfl, rfl, trivial⟩ (fun _ h => Sb.own (by repeat' (first | with_reducible exact Sb.all | exact Sb.nil | (apply Sb.cons; focus (first | ((repeat (first | with_reducible exact Tk.here | with_reducible apply Tk.there)); done) | ((repeat (first | exact Tk.here | apply Tk.there)); done))) | apply Sb.drop)) h)
  · -- else
    obtain ⟨at_, hat⟩ : ∃ at_ : Nat, at_ = i := ⟨_, rfl⟩
    subst hat
    have htk : a.take at_ = b.take at_ := by
      rcases Nat.eq_zero_or_pos at_ with h0 | h0
      · subst h0; rfl
      · refine h at_ h0 hia hib ?_
        obtain ⟨p, rfl⟩ : ∃ p, at_ = p + 1 := ⟨at_ - 1, by omega⟩
        rw [atT_nat (p := p) (c := da) (hda.resolve_left (by omega)), atT_nat (p := p) (c := db) (hdb.resolve_left (by omega))]
        exact Decidable.not_not.1 fun h2 => h1 ⟨h0, h2⟩
    refine WC.exit <| WX.thenE <| WX.thenE <| WX.blockH <| WX.thenN <| WC.seq <| WC.seq <| WC.region <| sv (vaI rfl) <| WL.nil <| WX.thenN <| WC.block <| ?_
    refine WC.loopS (ι := Nat) (fun i => [(6, .int .i64 i)]) [(0, .slice _ _ _), (1, .slice _ _ _), (5, .int _ _)] (fun i => i ≤ at_) (fun i => at_ - i) (0) (by omega) ⟨rfl, trivial⟩ ⟨rfl, rfl, rfl, trivial⟩ ?_
    intro k hk ρh
    refine WC.seq <| WC.seq <| WC.region <| sv (vmI rfl) <| sv (vmI rfl) <| sv (vlt rfl rfl) <| WL.nil <| WX.thenN <| ?_
    refine WC.ite rfl (fun h2 => ?_) (fun h2 => ?_)
    · -- then
      have hki : k < at_ := by omega
      obtain ⟨c, hc⟩ : ∃ c, a[k]? = some c := ⟨_, List.getElem?_eq_getElem (by omega)⟩
      have hd : b[k]? = some c := by have h2 := congrArg (fun l => l[k]?) htk; simp only [List.getElem?_take, if_pos hki] at h2; rw [← h2, hc]
      have haga : ((cvs a).drop (((k : Int)).toNat * 2)).take 2 = [.int .i64 c.term, .string c.data] := by rw [Int.toNat_natCast]; exact cvs_take2 hc
      have hagb : ((cvs b).drop (((k : Int)).toNat * 2)).take 2 = [.int .i64 c.term, .string c.data] := by rw [Int.toNat_natCast]; exact cvs_take2 hd
      refine WC.skip <| WX.thenN <| WC.seq <| WC.block <| WC.seq <| WC.draws rfl (by kernel_rfl) <| qv (vmS rfl) <| qv (vmI rfl) <| qv (vix Try.underlying22 sz39 rfl rfl (by omega) (by omega) (reads (vs := cvs a)) (by omega)) <| qv (vlda ag39 sz39 rfl (reads (vs := cvs a)) haga rfl (by decide)) <| qv (vmS rfl) <| qv (vmI rfl) <| qv (vix Try.underlying22 sz39 rfl rfl (by omega) (by omega) (reads (vs := cvs b)) (by omega)) <| qv (vlda ag39 sz39 rfl (reads (vs := cvs b)) hagb rfl (by decide)) <| qv (vneF eq39 rfl rfl (by simp [eqV])) <| WQ.nil <| WX.thenN <| ?_
      refine WC.ff rfl ?_
      exact WC.skip <| WX.blockN <| WX.thenN <| WC.region <| sv (vmI rfl) <| sv (vadd rfl rfl (by omega)) <| sv (vaI rfl) <| WL.nil <| WX.again (k + 1) (by omega) (by omega) ⟨rfl, trivial⟩ ⟨rfl, rfl, rfl, trivial⟩ (fun _ h => Sb.own (by repeat' (first | with_reducible exact Sb.all | exact Sb.nil | (apply Sb.cons; focus (first | ((repeat (first | with_reducible exact Tk.here | with_reducible apply Tk.there)); done) | ((repeat (first | exact Tk.here | apply Tk.there)); done))) | apply Sb.drop)) h)
    · -- else
      exact WC.exit <| WX.thenE <| WX.thenE <| WX.blockH <| WX.thenN <| WC.seq <| WC.region <| sv (vaB rfl) <| WL.nil <| WX.thenN <| WC.ret <| WX.ret1 rfl (()) (trivial) rfl (fun _ h => Sb.own (by repeat' (first | with_reducible exact Sb.all | exact Sb.nil | (apply Sb.cons; focus (first | ((repeat (first | with_reducible exact Tk.here | with_reducible apply Tk.there)); done) | ((repeat (first | exact Tk.here | apply Tk.there)); done))) | apply Sb.drop)) h)

theorem ldv_at {l : List (Int × Int)} {i : Nat} {e : Int × Int} (h : l[i]? = some e) {k : Nat} (hk : k < 2) : (ldv l)[i * 2 + k]? = ([.int .i64 e.1, .int .i64 e.2] : List Value)[k]? := by
  unfold ldv
  obtain ⟨h1, h2⟩ := List.getElem?_eq_some_iff.1 h
  rw [flat_at (s := 2) (fun _ _ => rfl) h1 hk, h2]
theorem ldv_snoc (l : List (Int × Int)) (e : Int × Int) : ldv (l ++ [e]) = ldv l ++ [.int .i64 e.1, .int .i64 e.2] := by simp [ldv]
theorem i64s_at {l : List Int} {i : Nat} {v : Int} (h : l[i]? = some v) : (i64s l)[i]? = some (.int .i64 v) := by simp [i64s, h]
theorem net_led {w0 : World} {R : List HProp} {p lc : Nat} {lb : Option Addr} {s : NS} {t who : Int} {log : List Cl} [hR : Reads w0 R lb (cvs log)] (hle : ∀ e ∈ s.led, e.1 = t → e.2 = who) (hlen : s.seen.length = s.done.length) (hd : ∀ (k : Nat) (c : Cl) (v : Int), s.done[k]? = some c → s.seen[k]? = some v → v < t → log[k]? = some c) (hll : log.length ≤ 1099511627776) (hg : s.led.length ≤ 1000000) (hdl : s.done.length ≤ 1000000) :
    Fun Try.prog w0 58 [.pointer (some ⟨p, 0, none⟩), .int .i64 t, .int .i64 who, .slice lb log.length lc] (hnet p s :: R) (Ret w0 (fun _ : Unit => True) (fun _ => .bool true) (fun _ => hnet p { s with led := s.led ++ [(t, who)] } :: R)) := by
  refine Fun.ex (fun w h => hnet_open h) ?_
  intro b hb
  dsimp only [netL, List.cons_append, List.nil_append]
  have hlg := ldv_length s.led
  have hld := cvs_length s.done
  have hlo := cvs_length log
  refine Fun.enter Try.func58 rfl Try.ntmps58 rfl ?_
  refine WC.seq <| WC.region <| sv (vaB rfl) <| WL.nil <| WX.thenN <| WC.seq <| WC.seq <| WC.region <| sv (vaI rfl) <| WL.nil <| WX.thenN <| WC.block <| ?_
  refine WC.loopS (ι := Nat) (fun i => [(9, .int .i64 i)]) [(0, .pointer _), (1, .int _ _), (2, .int _ _), (3, .slice _ _ _)] (fun i => i ≤ s.led.length) (fun i => s.led.length - i) (0) (by omega) ⟨rfl, trivial⟩ ⟨rfl, rfl, rfl, rfl, trivial⟩ ?_
  intro i hi ρh
  refine WC.seq <| WC.seq <| WC.region <| sv (vmI rfl) <| sv (vmP rfl) <| sv (vnil rfl) <| sv (vfldp fl70f2 rfl) <| sv (vldc pl67 rfl) <| sv (vlen Try.underlying67 rfl) <| sv (vlt rfl rfl) <| WL.nil <| WX.thenN <| ?_
  refine WC.ite rfl (fun h1 => ?_) (fun h1 => ?_)
  · -- then
    have hil : i < s.led.length := by omega
    obtain ⟨e, he⟩ : ∃ e, s.led[i]? = some e := ⟨_, List.getElem?_eq_getElem hil⟩
    have hpos : 0 < (ldv s.led).length := by omega
    refine WC.known (fun w h => rsome (base := b.gb) hpos (RdC.of_row (c := b.gc) (s := 2) (e := 95) (by simp)) h) fun hb0 => ?_
    have hf0 : (ldv s.led)[((i : Int)).toNat * 2 + ((0 : Int)).toNat]? = some (.int .i64 e.1) := by rw [Int.toNat_natCast]; exact ldv_at he (by decide)
    have hf1 : (ldv s.led)[((i : Int)).toNat * 2 + ((1 : Int)).toNat]? = some (.int .i64 e.2) := by rw [Int.toNat_natCast]; exact ldv_at he (by decide)
    refine WC.skip <| WX.thenN <| WC.seq <| WC.block <| ?_
    refine WC.cutS [(41, .bool (decide (e.1 = t ∧ e.2 ≠ who)))] [(0, .pointer _), (1, .int _ _), (2, .int _ _), (3, .slice _ _ _), (9, .int _ _)] ⟨rfl, rfl, rfl, rfl, rfl, trivial⟩ ?_ fun ρh => ?_
    · -- law.go:262
      refine WC.region <| sv (vmP rfl) <| sv (vnil rfl) <| sv (vfldp fl70f2 rfl) <| sv (vldc pl67 rfl) <| sv (vmI rfl) <| sv (vix Try.underlying67 sz95 rfl rfl (by omega) (by omega) (RdC.of_row (c := b.gc) (s := 2) (e := 95) (vs := ldv s.led) (by simp)) (by omega)) <| sv (vixar hb0 Try.underlying95 sz3 rfl rfl (by decide) (by decide)) <| sv (vldo pl3 rfl (RdC.of_row (c := b.gc) (s := 2) (e := 95) (vs := ldv s.led) (by simp)) hf0) <| sv (vmI rfl) <| svs (veq rfl rfl) (fun q1 => ?_) (fun q1 => ?_)
      ·
        exact sv (vmB rfl) <| svg rfl (vmP rfl) <| svg rfl (vnil rfl) <| svg rfl (vfldp fl70f2 rfl) <| svg rfl (vldc pl67 rfl) <| svg rfl (vmI rfl) <| svg rfl (vix Try.underlying67 sz95 rfl rfl (by omega) (by omega) (RdC.of_row (c := b.gc) (s := 2) (e := 95) (vs := ldv s.led) (by simp)) (by omega)) <| svg rfl (vixar hb0 Try.underlying95 sz3 rfl rfl (by decide) (by decide)) <| svg rfl (vldo pl3 rfl (RdC.of_row (c := b.gc) (s := 2) (e := 95) (vs := ldv s.led) (by simp)) hf1) <| svg rfl (vmI rfl) <| svg rfl (vne rfl rfl) <| sv (vpkt rfl) <| WL.nil <| WX.mid () trivial ⟨bI (by first | omega | simp_all | grind), trivial⟩ ⟨rfl, rfl, rfl, rfl, rfl, trivial⟩ (fun _ h => Sb.own (by repeat' (first | with_reducible exact Sb.all | exact Sb.nil | (apply Sb.cons; focus (first | ((repeat (first | with_reducible exact Tk.here | with_reducible apply Tk.there)); done) | ((repeat (first | exact Tk.here | apply Tk.there)); done))) | apply Sb.drop)) h)
      ·
        exact sv (vmB rfl) <| sng rfl <| sng rfl <| sng rfl <| sng rfl <| sng rfl <| sng rfl <| sng rfl <| sng rfl <| sng rfl <| sng rfl <| sv (vpkf rfl) <| WL.nil <| WX.mid () trivial ⟨bF (by first | omega | simp_all | grind), trivial⟩ ⟨rfl, rfl, rfl, rfl, rfl, trivial⟩ (fun _ h => Sb.own (by repeat' (first | with_reducible exact Sb.all | exact Sb.nil | (apply Sb.cons; focus (first | ((repeat (first | with_reducible exact Tk.here | with_reducible apply Tk.there)); done) | ((repeat (first | exact Tk.here | apply Tk.there)); done))) | apply Sb.drop)) h)
    refine WC.ite rfl (fun h2 => ?_) (fun h2 => ?_)
    · -- then
      exact absurd (hle e (List.mem_of_getElem? he) h2.1) h2.2
    · -- else
      exact WC.skip <| WX.blockN <| WX.thenN <| WC.region <| sv (vmI rfl) <| sv (vadd rfl rfl (by omega)) <| sv (vaI rfl) <| WL.nil <| WX.again (i + 1) (by omega) (by omega) ⟨rfl, trivial⟩ ⟨rfl, rfl, rfl, rfl, trivial⟩ (fun _ h => Sb.own (by repeat' (first | with_reducible exact Sb.all | exact Sb.nil | (apply Sb.cons; focus (first | ((repeat (first | with_reducible exact Tk.here | with_reducible apply Tk.there)); done) | ((repeat (first | exact Tk.here | apply Tk.there)); done))) | apply Sb.drop)) h)
  · -- else
    refine WC.exit <| WX.thenE <| WX.thenE <| WX.blockH <| WX.thenN <| WC.seq <| WC.region <| sv (vmP rfl) <| sv (vmP rfl) <| sv (vnil rfl) <| sv (vfldp fl70f2 rfl) <| sv (vldc pl67 rfl) <| sv (vmI rfl) <| sv (vmI rfl) <| sv (vbdR (ps := [(0, .int _ _), (1, .int _ _)]) (cs := [_, _]) Try.underlying95 sz3 zt95 rfl (by rfl)) <| pm (fun _ h => Sb.own (by repeat' (first | with_reducible exact Sb.all | exact Sb.nil | (apply Sb.cons; focus (first | ((repeat (first | with_reducible exact Tk.here | with_reducible apply Tk.there)); done) | ((repeat (first | exact Tk.here | apply Tk.there)); done))) | apply Sb.drop)) h) <| apA (v := .agg _) (cs := [.int .i64 t, .int .i64 who]) Try.underlying67 zt95 rfl (fun _ => rfl) (fun _ => rfl) rfl rfl rfl (by decide) (by decide) (by intro v hv; simp only [List.mem_cons, List.not_mem_nil, or_false] at hv; rcases hv with rfl | rfl <;> rfl) (by omega) (by simp only [maxLen]; omega) (by omega) fun _ base14 c14 hc14 => ?_
    refine sv (vnil rfl) <| sv (vfldp fl70f2 rfl) <| stp (v := .slice _ _ _) pl67 sz67 rfl rfl rfl <| WL.nil <| WX.thenN <| WC.seq <| WC.seq <| WC.region <| sv (vaI rfl) <| WL.nil <| WX.thenN <| WC.block <| ?_
    refine WC.loopS (ι := Nat) (fun i => [(10, .int .i64 i)]) [(0, .pointer _), (1, .int _ _), (3, .slice _ _ _)] (fun i => i ≤ s.done.length) (fun i => s.done.length - i) (0) (by omega) ⟨rfl, trivial⟩ ⟨rfl, rfl, rfl, trivial⟩ ?_
    intro i hi ρh
    refine WC.seq <| WC.seq <| WC.region <| sv (vmI rfl) <| sv (vmP rfl) <| sv (vnil rfl) <| sv (vfldp fl70f3 rfl) <| sv (vldc pl22 rfl) <| sv (vlen Try.underlying22 rfl) <| sv (vlt rfl rfl) <| WL.nil <| WX.thenN <| ?_
    refine WC.ite rfl (fun h3 => ?_) (fun h3 => ?_)
    · -- then
      have hil : i < s.done.length := by omega
      obtain ⟨c, hc⟩ : ∃ c, s.done[i]? = some c := ⟨_, List.getElem?_eq_getElem hil⟩
      obtain ⟨v, hv⟩ : ∃ v, s.seen[i]? = some v := ⟨_, List.getElem?_eq_getElem (by omega)⟩
      have hlogk : v < t → log[i]? = some c := hd i c v hc hv
      have hpos : 0 < (cvs s.done).length := by omega
      have hfv : (i64s s.seen)[((i : Int)).toNat]? = some (.int .i64 v) := by rw [Int.toNat_natCast]; exact i64s_at hv
      have hagd : ((cvs s.done).drop (((i : Int)).toNat * 2)).take 2 = [.int .i64 c.term, .string c.data] := by rw [Int.toNat_natCast]; exact cvs_take2 hc
      have hagl : v < t → ((cvs log).drop (((i : Int)).toNat * 2)).take 2 = [.int .i64 c.term, .string c.data] := fun h => by rw [Int.toNat_natCast]; exact cvs_take2 (hlogk h)
      refine WC.skip <| WX.thenN <| WC.seq <| WC.block <| ?_
      refine WC.cutS [(91, .bool (decide (False)))] [(0, .pointer _), (1, .int _ _), (3, .slice _ _ _), (10, .int _ _)] ⟨rfl, rfl, rfl, rfl, trivial⟩ ?_ fun ρh => ?_
      · -- law.go:268
        refine WC.draws rfl (by kernel_rfl) <| qv (vmP rfl) <| qv (vnil rfl) <| qv (vfldp fl70f4 rfl) <| qv (vldc pl68 rfl) <| qv (vmI rfl) <| qv (vix1 Try.underlying68 sz3 rfl rfl (by omega) (by omega) (RdC.of_row (c := b.sc) (s := 1) (e := 3) (vs := i64s s.seen) (by simp)) (by simp only [i64s, List.length_map]; omega)) <| qv (vldo pl3 rfl (RdC.of_row (c := b.sc) (s := 1) (e := 3) (vs := i64s s.seen) (by simp)) hfv) <| qv (vmI rfl) <| qvs (vlt rfl rfl) (fun q2 => ?_) (fun q2 => ?_)
        ·
          refine qv (vmB rfl) <| qvg rfl (vmI rfl) <| qvg rfl (vmS rfl) <| qvg rfl (vlen Try.underlying22 rfl) <| qvsg rfl (vge rfl rfl) (fun q3 => ?_) (fun q3 => ?_)
          ·
            refine qvg rfl (vmB rfl) <| qng rfl <| qng rfl <| qng rfl <| qng rfl <| qng rfl <| qng rfl <| qng rfl <| qng rfl <| qng rfl <| qng rfl <| qng rfl <| qng rfl <| qvg rfl (vpkt rfl) <| qv (vpkt rfl) <| WQ.nil <| WX.mid () trivial ⟨bT (by have h9 := (List.getElem?_eq_some_iff.1 (hlogk (by omega))).1; omega), trivial⟩ ⟨rfl, rfl, rfl, rfl, trivial⟩ (fun _ h => Sb.own (by repeat' (first | with_reducible exact Sb.all | exact Sb.nil | (apply Sb.cons; focus (first | ((repeat (first | with_reducible exact Tk.here | with_reducible apply Tk.there)); done) | ((repeat (first | exact Tk.here | apply Tk.there)); done))) | apply Sb.drop)) h)
          ·
            exact qvg rfl (vmB rfl) <| qvg rfl (vmS rfl) <| qvg rfl (vmI rfl) <| qvg rfl (vix Try.underlying22 sz39 rfl rfl (by omega) (by omega) (reads (vs := cvs log)) (by omega)) <| qvg rfl (vlda ag39 sz39 rfl (reads (vs := cvs log)) (hagl (by omega)) rfl (by decide)) <| qvg rfl (vmP rfl) <| qvg rfl (vnil rfl) <| qvg rfl (vfldp fl70f3 rfl) <| qvg rfl (vldc pl22 rfl) <| qvg rfl (vmI rfl) <| qvg rfl (vix Try.underlying22 sz39 rfl rfl (by omega) (by omega) (RdC.of_row (c := b.dc) (s := 2) (e := 39) (vs := cvs s.done) (by simp)) (by omega)) <| qvg rfl (vlda ag39 sz39 rfl (RdC.of_row (c := b.dc) (s := 2) (e := 39) (vs := cvs s.done) (by simp)) hagd rfl (by decide)) <| qvg rfl (vneF eq39 rfl rfl (by simp [eqV])) <| qvg rfl (vpkf rfl) <| qv (vpkt rfl) <| WQ.nil <| WX.mid () trivial ⟨bF (by first | omega | simp_all | grind), trivial⟩ ⟨rfl, rfl, rfl, rfl, trivial⟩ (fun _ h => Sb.own (by repeat' (first | with_reducible exact Sb.all | exact Sb.nil | (apply Sb.cons; focus (first | ((repeat (first | with_reducible exact Tk.here | with_reducible apply Tk.there)); done) | ((repeat (first | exact Tk.here | apply Tk.there)); done))) | apply Sb.drop)) h)
        ·
          exact qv (vmB rfl) <| qng rfl <| qng rfl <| qng rfl <| qng rfl <| qng rfl <| qng rfl <| qng rfl <| qng rfl <| qng rfl <| qng rfl <| qng rfl <| qng rfl <| qng rfl <| qng rfl <| qng rfl <| qng rfl <| qng rfl <| qng rfl <| qv (vpkf rfl) <| WQ.nil <| WX.mid () trivial ⟨bF (by first | omega | simp_all | grind), trivial⟩ ⟨rfl, rfl, rfl, rfl, trivial⟩ (fun _ h => Sb.own (by repeat' (first | with_reducible exact Sb.all | exact Sb.nil | (apply Sb.cons; focus (first | ((repeat (first | with_reducible exact Tk.here | with_reducible apply Tk.there)); done) | ((repeat (first | exact Tk.here | apply Tk.there)); done))) | apply Sb.drop)) h)
      refine WC.ite rfl (fun h4 => ?_) (fun h4 => ?_)
      · -- then
        exact h4.elim
      · -- else
        exact WC.skip <| WX.blockN <| WX.thenN <| WC.region <| sv (vmI rfl) <| sv (vadd rfl rfl (by omega)) <| sv (vaI rfl) <| WL.nil <| WX.again (i + 1) (by omega) (by omega) ⟨rfl, trivial⟩ ⟨rfl, rfl, rfl, trivial⟩ (fun _ h => Sb.own (by repeat' (first | with_reducible exact Sb.all | exact Sb.nil | (apply Sb.cons; focus (first | ((repeat (first | with_reducible exact Tk.here | with_reducible apply Tk.there)); done) | ((repeat (first | exact Tk.here | apply Tk.there)); done))) | apply Sb.drop)) h)
    · -- else
      refine WC.exit <| WX.thenE <| WX.thenE <| WX.blockH <| WX.thenN <| WC.seq <| WC.region <| sv (vaB rfl) <| WL.nil <| WX.thenN <| WC.ret <| WX.ret1 rfl (()) (trivial) rfl (fun w h => ?_)
      refine hnet_mk (b := { b with gb := base14, gc := c14 }) ⟨hb.l, hb.m, by show (s.led ++ [(t, who)]).length ≤ c14; simp only [List.length_append, List.length_cons, List.length_nil]; omega, hb.d, hb.s⟩ ?_
      show Own w0 (cel p [.slice b.lb s.nodes.length b.lc, .slice b.mb s.mails.length b.mc, .slice base14 (s.led ++ [(t, who)]).length c14, .slice b.db s.done.length b.dc, .slice b.sb s.seen.length b.sc] 70 :: row b.lb b.lc 1 32 (nptr (s.nodes.map Prod.fst)) :: hnodes s.nodes :: row b.mb b.mc 9 28 (mvs s.mails) :: mrows s.mails :: row base14 c14 2 95 (ldv (s.led ++ [(t, who)])) :: row b.db b.dc 2 39 (cvs s.done) :: row b.sb b.sc 1 3 (i64s s.seen) :: R) w
      rw [ldv_snoc, show (s.led ++ [(t, who)]).length = s.led.length + 1 by simp]
      exact Sb.own (by repeat' (first | with_reducible exact Sb.all | exact Sb.nil | (apply Sb.cons; focus (first | ((repeat (first | with_reducible exact Tk.here | with_reducible apply Tk.there)); done) | ((repeat (first | exact Tk.here | apply Tk.there)); done))) | apply Sb.drop)) h

structure SIn (n : Int) (g : Gh) (s : NS) : Prop where
  gok : GOk n g
  nodes : ∀ (j : Nat) (x : Rn), (nsL s)[j]? = some x → NOk n g ((j : Int) + 1) x
  led : ∀ e ∈ s.led, g.ld e.1 = some (e.2 + 1)
  len : s.seen.length = s.done.length
  done : ∀ (k : Nat) (v : Int), k < s.done.length → s.seen[k]? = some v → ∃ t p, Cm n g t p ∧ t ≤ v ∧ k < p ∧ s.done.take (k + 1) = (g.lg t).take (k + 1)
theorem at_of_take {l m : List Cl} {k : Nat} (h : l.take (k + 1) = m.take (k + 1)) : l[k]? = m[k]? := by
  have := congrArg (fun l => l[k]?) h
  simpa only [List.getElem?_take, if_pos (Nat.lt_succ_self k)] using this
theorem SIn.led_ok {n : Int} {g : Gh} {s : NS} {i : Nat} {x : Rn} (h : SIn n g s) (hx : (nsL s)[i]? = some x) (hr : x.role = 2) : ∀ e ∈ s.led, e.1 = x.term → e.2 = (i : Int) := fun e he h1 => by
  have h2 := h.led e he
  have h3 := ((h.nodes i x hx).lead hr).1
  rw [h1, h3] at h2
  have := Option.some.inj h2
  omega
theorem SIn.led_done {n : Int} {g : Gh} {s : NS} {i : Nat} {x : Rn} (h : SIn n g s) (hx : (nsL s)[i]? = some x) (hr : x.role = 2) : ∀ (k : Nat) (c : Cl) (v : Int), s.done[k]? = some c → s.seen[k]? = some v → v < x.term → x.log[k]? = some c := fun k c v hc hv hlt => by
  obtain ⟨t, p, hcm, htv, hkp, htk⟩ := h.done k v (List.getElem?_eq_some_iff.1 hc).1 hv
  have h3 := (h.nodes i x hx).lead hr
  have h4 := hcm.leader h.gok (by omega) (by rw [h3.1]; simp : g.ld x.term ≠ none)
  rw [h3.2.1] at h4
  have h5 : x.log.take (k + 1) = (g.lg t).take (k + 1) := take_less h4.2 (by omega)
  rw [at_of_take (h5.trans htk.symm), hc]
theorem SIn.led_add {n : Int} {g : Gh} {s : NS} {i : Nat} {x : Rn} (h : SIn n g s) (hx : (nsL s)[i]? = some x) (hr : x.role = 2) : SIn n g { s with led := s.led ++ [(x.term, (i : Int))] } := by
  refine ⟨h.gok, h.nodes, fun e he => ?_, h.len, h.done⟩
  rcases List.mem_append.1 he with he | he
  · exact h.led e he
  · simp only [List.mem_singleton] at he
    subst he
    exact ((h.nodes i x hx).lead hr).1
theorem SIn.cm {n : Int} {g : Gh} {s : NS} {i : Nat} {x : Rn} (h : SIn n g s) (hx : (nsL s)[i]? = some x) {k : Nat} (hk : (k : Int) < x.commit) : ∃ t p, Cm n g t p ∧ t ≤ x.term ∧ k < p ∧ x.log.take (k + 1) = (g.lg t).take (k + 1) := by
  rcases (h.nodes i x hx).c with h0 | ⟨t, p, hc, ht, hp, htk⟩
  · omega
  · exact ⟨t, p, hc, ht, by omega, take_less htk (by omega)⟩
theorem SIn.done_eq {n : Int} {g : Gh} {s : NS} {i : Nat} {x : Rn} (h : SIn n g s) (hx : (nsL s)[i]? = some x) {k : Nat} (hk : (k : Int) < x.commit) (hd : k < s.done.length) : s.done.take (k + 1) = x.log.take (k + 1) := by
  obtain ⟨t, p, hc, ht, hp, htk⟩ := h.cm hx hk
  obtain ⟨v, hv⟩ : ∃ v, s.seen[k]? = some v := ⟨_, List.getElem?_eq_getElem (by have := h.len; omega)⟩
  obtain ⟨t2, p2, hc2, ht2, hp2, htk2⟩ := h.done k v hd hv
  rw [htk, htk2]
  exact hc2.meet h.gok hc (by omega) (by omega)
theorem SIn.done_add {n : Int} {g : Gh} {s : NS} {i : Nat} {x : Rn} (h : SIn n g s) (hx : (nsL s)[i]? = some x) {c : Cl} (hk : (s.done.length : Int) < x.commit) (hc : x.log[s.done.length]? = some c) : SIn n g { s with done := s.done ++ [c], seen := s.seen ++ [x.term] } := by
  have e : s.done ++ [c] = x.log.take (s.done.length + 1) := by
    rw [List.take_add_one, hc]
    rcases Nat.eq_zero_or_pos s.done.length with h0 | h0
    · rw [h0, List.take_zero, List.eq_nil_of_length_eq_zero h0]; rfl
    · have h1 := h.done_eq hx (k := s.done.length - 1) (by omega) (by omega)
      rw [show s.done.length - 1 + 1 = s.done.length by omega, List.take_length] at h1
      rw [← h1]; rfl
  refine ⟨h.gok, h.nodes, h.led, by simp [h.len], fun k v hkl hv => ?_⟩
  simp only [List.length_append, List.length_cons, List.length_nil] at hkl
  have hv' : (s.seen ++ [x.term])[k]? = some v := hv
  show ∃ t p, Cm n g t p ∧ t ≤ v ∧ k < p ∧ (s.done ++ [c]).take (k + 1) = (g.lg t).take (k + 1)
  rcases Nat.lt_or_ge k s.done.length with h1 | h1
  · rw [List.getElem?_append_left (by rw [h.len]; exact h1)] at hv'
    rw [List.take_append_of_le_length (by omega)]
    exact h.done k v h1 hv'
  · have h2 : k = s.done.length := by omega
    subst h2
    rw [List.getElem?_append_right (by rw [h.len]; exact Nat.le_refl _), h.len, Nat.sub_self] at hv'
    have : v = x.term := by simpa using hv'.symm
    subst this
    obtain ⟨t, p, hcm, ht, hp, htk⟩ := h.cm hx hk
    refine ⟨t, p, hcm, ht, hp, ?_⟩
    rw [e, List.take_take, Nat.min_self, htk]
theorem SIn.match_ {n : Int} {g : Gh} {s : NS} {i j : Nat} {x y : Rn} (h : SIn n g s) (hx : (nsL s)[i]? = some x) (hy : (nsL s)[j]? = some y) : ∀ p : Nat, 1 ≤ p → p ≤ x.log.length → p ≤ y.log.length → atT x.log p = atT y.log p → x.log.take p = y.log.take p :=
  fun p _ h1 h2 he => (h.nodes i x hx).good.meet (h.nodes j y hy).good h1 h2 he
end Go.Proofs.Ytekoilhjlofncaa
