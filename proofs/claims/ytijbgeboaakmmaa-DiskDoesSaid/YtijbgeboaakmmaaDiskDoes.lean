/-
  Layer 2: files, power and deeds are, call by call, what the document says.
-/
import Derived.Test.YtijbgeboaakmmaaDiskDoesA
set_option linter.unusedVariables false
set_option linter.unusedSimpArgs false
set_option maxRecDepth 4000
namespace Go.Proofs.Ytijbgeboaakmmaa
open Go.Sl Go.RowKit

abbrev gO (w : World) (a : AO) : Prop := a.2.1.size ≤ 140737488351232 ∧ a.2.2.2.1 ≤ 9223372036854775807 ∧ Rd w a.2.2.1.base (u8s a.2.2.1.xs)
theorem step_same (nm : ByteArray) (b : List UInt8) (n p : Int) (st : DSt) : stepS 3 nm b n p st = st := rfl
theorem step_same7 (nm : ByteArray) (b : List UInt8) (n p : Int) (st : DSt) : stepS 7 nm b n p st = st := rfl
abbrev bO : Sla UInt8 := ⟨none, [], 0⟩
theorem step_quiet {w0 : World} {A : List HProp} {d r N : Nat} {k : Int} {nm : ByteArray} {st : DSt} (hk : k = 3 ∨ k = 7) (hN : N + 1 ≤ 1099511627776) (hs : nm.size ≤ 140737488351232) (hd : 0 ≤ st.deeds ∧ st.deeds + 1 ≤ 9223372036854775807) (hNm : Nm N st) :
    Fun Try.prog w0 19 [.pointer (some ⟨d, 0, none⟩), .pointer (some ⟨r, 0, none⟩), .agg (ocel k nm bO 0 0).toArray] (pdisk d st :: rdisk r N st :: A)
      (Ret w0 (fun _ : Unit => True) (fun _ => .bool true) (fun _ => pdisk d st :: rdisk r (N + 1) st :: A)) := by
  have h := law_step (w0 := w0) (A := A) (d := d) (r := r) (N := N) (k := k) (n := 0) (p := 0) (nm := nm) (b := bO) (st := st) hN hs hd hNm RdC.nil (by decide) (by decide)
  rcases hk with rfl | rfl
  · rwa [step_same] at h
  · rwa [step_same7] at h
theorem walk_does {w0 : World} {A : List HProp} {o : Sla AO} (ho : Rd w0 o.base (o.xs.flatMap cellO)) (hx : ∀ a ∈ o.xs, gO w0 a) :
    Fun Try.prog w0 5 [.slice o.base o.xs.length o.cap] A (Ret w0 (fun _ : Unit => True) (fun _ => .bool true) (fun _ => A)) := by
  have hfl : (o.xs.flatMap cellO).length = o.xs.length * 5 := flat_len (fun _ _ => rfl)
  refine Fun.enter Try.func5 rfl Try.ntmps5 rfl ?_
  refine WC.seq <| WC.region <| sv (vaB rfl) <| WL.nil <| WX.thenN <| WC.seq <| WC.seq <| WC.region <| sv (vmS rfl) <| clx (by repeat' (first | with_reducible exact Sb.all | exact Sb.nil | (apply Sb.cons; focus (first | ((repeat (first | with_reducible exact Tk.here | with_reducible apply Tk.there)); done) | ((repeat (first | exact Tk.here | apply Tk.there)); done))) | apply Sb.drop)) (law_small ho) ct18 rfl fun r1 hr1 => ?_
  refine sv (vnot rfl) <| WL.nil <| WX.thenN <| ?_
  refine WC.iteb rfl (fun h1 => ?_) (fun h1 => ?_)
  · -- then
    exact WC.seq <| WC.region <| sv (vaB rfl) <| WL.nil <| WX.thenN <| WC.ret <| WX.thenR <| WX.ret1 rfl (()) (trivial) rfl (fun _ h => Sb.own (by repeat' (first | with_reducible exact Sb.all | exact Sb.nil | (apply Sb.cons; focus (first | ((repeat (first | with_reducible exact Tk.here | with_reducible apply Tk.there)); done) | ((repeat (first | exact Tk.here | apply Tk.there)); done))) | apply Sb.drop)) h)
  · -- else
    have hsm : o.xs.length ≤ 300 ∧ ∀ a ∈ o.xs, a.2.2.1.xs.length ≤ 1024 := by simpa using h1
    refine WC.skip <| WX.thenN <| WC.seq <| WC.region <| clx (by repeat' (first | with_reducible exact Sb.all | exact Sb.nil | (apply Sb.cons; focus (first | ((repeat (first | with_reducible exact Tk.here | with_reducible apply Tk.there)); done) | ((repeat (first | exact Tk.here | apply Tk.there)); done))) | apply Sb.drop)) (disk_new) ct9 rfl fun r2 hr2 => ?_
    refine sv (vaP rfl) <| WL.nil <| WX.thenN <| WC.seq <| WC.seq <| WC.region <| sv (vmP rfl) <| sv (vpeqF Try.underlying25 rfl rfl) <| WL.nil <| WX.thenN <| ?_
    refine WC.ff rfl ?_
    refine WC.skip <| WX.thenN <| WC.seq <| WC.region <| sv (vbd (ps := []) (cs := [_, _, _, _, _]) bt45 zt45 rfl (by rfl)) <| bxc (v := .agg _) (cs := [.slice _ _ _, .bool _, .int _ _, .int _ _, .int _ _]) rfl rfl fun b5 => sv (vaP rfl) <| WL.nil <| WX.thenN <| WC.seq <| WC.seq <| WC.region <| sv (vaI rfl) <| WL.nil <| WX.thenN <| WC.block <| ?_
    refine WC.loop (ι := Nat) (fun i => [(5, .int .i64 i)]) [(0, .slice _ _ _), (3, .pointer _), (4, .pointer _)] (fun i => hdr r2 b5 i :: A) (fun i => i ≤ o.xs.length) (fun i => o.xs.length - i) (0) (by omega) ⟨rfl, trivial⟩ ⟨rfl, rfl, rfl, trivial⟩ (fun w h => hdr_mk Dd.new ((rdisk_mk (base := none) (c := 0) (l := []) RRep.new ⟨Nat.le_refl _, Nat.le_refl _⟩ (((Sb.own (by repeat' (first | with_reducible exact Sb.all | exact Sb.nil | (apply Sb.cons; focus (first | ((repeat (first | with_reducible exact Tk.here | with_reducible apply Tk.there)); done) | ((repeat (first | exact Tk.here | apply Tk.there)); done))) | apply Sb.drop)) h).intro_emp).pk1.intro_row_nil.pk1)).pk1)) ?_
    intro i hi ρh
    refine WC.seq <| WC.seq <| WC.region <| sv (vmI rfl) <| sv (vmS rfl) <| sv (vlen Try.underlying40 rfl) <| sv (vlt rfl rfl) <| WL.nil <| WX.thenN <| ?_
    refine WC.ite rfl (fun h3 => ?_) (fun h3 => ?_)
    · -- then
      have hil : i < o.xs.length := by omega
      obtain ⟨a, ha⟩ : ∃ a, o.xs[i]? = some a := ⟨_, List.getElem?_eq_getElem hil⟩
      have hag : gO w0 a := hx a (List.mem_of_getElem? ha)
      have hal := hsm.2 a (List.mem_of_getElem? ha)
      have hpos : 0 < (o.xs.flatMap cellO).length := by omega
      have hac : ((o.xs.flatMap cellO).drop (((i : Int)).toNat * 5)).take 5 = cellO a := by rw [Int.toNat_natCast, flat_take (f := cellO) (s := 5) (fun _ _ => rfl) hil, (List.getElem?_eq_some_iff.1 ha).2]
      refine WC.ex (B := fun st => pdisk r2 st :: rdisk b5 i st :: A) (fun w h => hdr_open h) ?_
      intro st hst
      have hsd := hst.deeds
      have hst' : Dd (i + 1) (stepS a.1 a.2.1 a.2.2.1.xs a.2.2.2.1 a.2.2.2.2.1 st) := hst.step
      refine WC.skip <| WX.thenN <| WC.seq <| WC.block <| ?_
      refine WC.cut0 [(46, .bool false)] [(0, .slice _ _ _), (3, .pointer _), (4, .pointer _), (5, .int _ _)] (hdr r2 b5 (i + 1) :: A) ⟨rfl, rfl, rfl, rfl, trivial⟩ ?_ fun ρh => ?_
      · -- law.go:111
        refine WC.plan (.bar [0, 1, 2, 3, 4, 5] 6 (.done [7, 8, 9, 10, 11, 12, 13, 14, 15, 16, 17, 18, 19, 20, 21, 22, 23, 24, 25])) rfl (by kernel_rfl) <| WPl.barC <| dv (fun g => (vmP rfl)) <| dv (fun g => (vmP rfl)) <| dv (fun g => (vmS rfl)) <| dv (fun g => (vmI rfl)) <| dv (fun g => (vix Try.underlying40 sz48 rfl rfl (by omega) (by omega) (RdC.old ho) hpos)) <| dv (fun g => (vlda ag48 sz48 rfl (RdC.old ho) hac rfl (by decide))) <| WD.eff rfl <| clx (by repeat' (first | with_reducible exact Sb.all | exact Sb.nil | (apply Sb.cons; focus (first | ((repeat (first | with_reducible exact Tk.here | with_reducible apply Tk.there)); done) | ((repeat (first | exact Tk.here | apply Tk.there)); done))) | apply Sb.drop)) (law_step (k := a.1) (b := a.2.2.1) (by omega) hag.1 (by omega) hst.nm (RdC.old hag.2.2) (by omega) hag.2.1) ct19 rfl fun r8 hr8 => ?_
        refine WL.ex (B := fun x : Option Addr × Nat × List RF => cel b5 (rcells x.1 x.2.2.length x.2.1 (stepS a.1 a.2.1 a.2.2.1.xs a.2.2.2.1 a.2.2.2.2.1 st)) 45 :: row x.1 x.2.1 3 51 (fcells x.2.2) :: rows 5 (x.2.2.map (·.b)) :: pdisk r2 (stepS a.1 a.2.1 a.2.2.1.xs a.2.2.2.1 a.2.2.2.2.1 st) :: A) (fun w h => rdisk_open (Sb.own (by repeat' (first | with_reducible exact Sb.all | exact Sb.nil | (apply Sb.cons; focus (first | ((repeat (first | with_reducible exact Tk.here | with_reducible apply Tk.there)); done) | ((repeat (first | exact Tk.here | apply Tk.there)); done))) | apply Sb.drop)) h)) ?_
        rintro ⟨base, c, l⟩ ⟨hl, hc⟩
        dsimp only at hl hc ⊢
        refine WL.ex (B := fun x : Nat × List DF => cel r2 (dcells x.1 (stepS a.1 a.2.1 a.2.2.1.xs a.2.2.2.1 a.2.2.2.2.1 st)) 59 :: mp .string x.1 (ents x.2) :: pfiles x.2 :: cel b5 (rcells base l.length c (stepS a.1 a.2.1 a.2.2.1.xs a.2.2.2.1 a.2.2.2.2.1 st)) 45 :: row base c 3 51 (fcells l) :: rows 5 (l.map (·.b)) :: A) (fun w h => pdisk_open (Sb.own (by repeat' (first | with_reducible exact Sb.all | exact Sb.nil | (apply Sb.cons; focus (first | ((repeat (first | with_reducible exact Tk.here | with_reducible apply Tk.there)); done) | ((repeat (first | exact Tk.here | apply Tk.there)); done))) | apply Sb.drop)) h)) ?_
        rintro ⟨pm9, pl9⟩ hpl
        dsimp only at hpl ⊢
        exact WL.nil <| WX.brT <| WPl.finC <| dv (fun g => (vnot rfl)) <| dv (fun g => (vmB rfl)) <| dvg rfl (fun g => (vmP rfl)) <| dclg rfl (fun g => Fun.quiet (disk_up_c)) ct20 rfl <| dvg rfl (fun g => (vmP rfl)) <| dvg rfl (fun g => (vnil rfl)) <| dvg rfl (fun g => (vfldp fl45f1 rfl)) <| dvg rfl (fun g => (vldc pl4 rfl)) <| dvg rfl (fun g => (vF (veqb Try.underlying4 rfl rfl) (by cases (stepS a.1 a.2.1 a.2.2.1.xs a.2.2.2.1 a.2.2.2.2.1 st).off <;> simp))) <| dv (fun g => (vpkf rfl)) <| dv (fun g => (vmB rfl)) <| dvg rfl (fun g => (vmP rfl)) <| dclg rfl (fun g => Fun.quiet (disk_deeds_c)) ct21 rfl <| dvg rfl (fun g => (vmP rfl)) <| dvg rfl (fun g => (vnil rfl)) <| dvg rfl (fun g => (vfldp fl45f4 rfl)) <| dvg rfl (fun g => (vldc pl3 rfl)) <| dvg rfl (fun g => (vF (vne rfl rfl) (by omega))) <| dv (fun g => (vpkf rfl)) <| WD.nil <| WX.mid () trivial ⟨rfl, trivial⟩ ⟨rfl, rfl, rfl, rfl, trivial⟩ (fun w h => hdr_mk hst' (both_mk hpl hl hc (Sb.own (by repeat' (first | with_reducible exact Sb.all | exact Sb.nil | (apply Sb.cons; focus (first | ((repeat (first | with_reducible exact Tk.here | with_reducible apply Tk.there)); done) | ((repeat (first | exact Tk.here | apply Tk.there)); done))) | apply Sb.drop)) h)))
      refine WC.ff rfl ?_
      exact WC.skip <| WX.blockN <| WX.thenN <| WC.region <| sv (vmI rfl) <| sv (vadd rfl rfl (by omega)) <| sv (vaI rfl) <| WL.nil <| WX.again (i + 1) (by omega) (by omega) ⟨rfl, trivial⟩ ⟨rfl, rfl, rfl, trivial⟩ (fun _ h => Sb.own (by repeat' (first | with_reducible exact Sb.all | exact Sb.nil | (apply Sb.cons; focus (first | ((repeat (first | with_reducible exact Tk.here | with_reducible apply Tk.there)); done) | ((repeat (first | exact Tk.here | apply Tk.there)); done))) | apply Sb.drop)) h)
    · -- else
      refine WC.ex (B := fun st => pdisk r2 st :: rdisk b5 i st :: A) (fun w h => hdr_open h) ?_
      intro st hst
      have hsd := hst.deeds
      obtain ⟨s2, hs2⟩ : ∃ s2 : DSt, s2 = { st with off := false } := ⟨_, rfl⟩
      have hs2n : Nm i s2 := hst.nm.sub (Nat.le_refl _) fun k hk => by rw [hs2] at hk; exact hk
      have hs2d : 0 ≤ s2.deeds ∧ s2.deeds ≤ i := by rw [hs2]; exact hsd
      have hs2o : s2.off = false := by rw [hs2]
      refine WC.ex (B := fun x : Option Addr × Nat × List RF => cel b5 (rcells x.1 x.2.2.length x.2.1 st) 45 :: row x.1 x.2.1 3 51 (fcells x.2.2) :: rows 5 (x.2.2.map (·.b)) :: pdisk r2 st :: A) (fun w h => rdisk_open (Sb.own (by repeat' (first | with_reducible exact Sb.all | exact Sb.nil | (apply Sb.cons; focus (first | ((repeat (first | with_reducible exact Tk.here | with_reducible apply Tk.there)); done) | ((repeat (first | exact Tk.here | apply Tk.there)); done))) | apply Sb.drop)) h)) ?_
      rintro ⟨base0, c0, l0⟩ ⟨hl0, hc0⟩
      dsimp only at hl0 hc0 ⊢
      have hn0 : NamesOf s2 (l0.map (·.name)) := by rw [hs2]; exact (hl0.same (st' := { st with off := false }) rfl hl0.fuse).names rfl
      refine WC.exit <| WX.thenE <| WX.thenE <| WX.blockH <| WX.thenN <| WC.seq <| WC.region <| sv (vmP rfl) <| clx (by repeat' (first | with_reducible exact Sb.all | exact Sb.nil | (apply Sb.cons; focus (first | ((repeat (first | with_reducible exact Tk.here | with_reducible apply Tk.there)); done) | ((repeat (first | exact Tk.here | apply Tk.there)); done))) | apply Sb.drop)) (disk_on) ct14 rfl fun r14 hr14 => ?_
      refine WL.nil <| WX.thenN <| WC.seq <| WC.region <| sv (vmP rfl) <| sv (vnil rfl) <| sv (vfldp fl45f1 rfl) <| stp (v := .bool _) pl4 sz4 rfl rfl rfl <| WL.nil <| WX.thenN <| WC.seq <| WC.seq <| WC.region <| sv (vaI rfl) <| WL.nil <| WX.thenN <| WC.block <| ?_
      refine WC.loop (ι := Nat) (fun j => [(6, .int .i64 j)]) [(3, .pointer _), (4, .pointer _)] (fun j => pdisk r2 s2 :: rdisk b5 (i + 2 * j) s2 :: A) (fun j => j ≤ l0.length) (fun j => l0.length - j) (0) (Nat.zero_le _) ⟨rfl, trivial⟩ ⟨rfl, rfl, trivial⟩ (fun w h => by rw [hs2]; exact (rdisk_mk (st := { st with off := false }) (hl0.same rfl hl0.fuse) hc0 (Sb.own (by repeat' (first | with_reducible exact Sb.all | exact Sb.nil | (apply Sb.cons; focus (first | ((repeat (first | with_reducible exact Tk.here | with_reducible apply Tk.there)); done) | ((repeat (first | exact Tk.here | apply Tk.there)); done))) | apply Sb.drop)) h)).pk1) ?_
      intro j hj ρh
      refine WC.ex (B := fun x : Option Addr × Nat × List RF => cel b5 (rcells x.1 x.2.2.length x.2.1 s2) 45 :: row x.1 x.2.1 3 51 (fcells x.2.2) :: rows 5 (x.2.2.map (·.b)) :: pdisk r2 s2 :: A) (fun w h => rdisk_open (Sb.own (by repeat' (first | with_reducible exact Sb.all | exact Sb.nil | (apply Sb.cons; focus (first | ((repeat (first | with_reducible exact Tk.here | with_reducible apply Tk.there)); done) | ((repeat (first | exact Tk.here | apply Tk.there)); done))) | apply Sb.drop)) h)) ?_
      rintro ⟨base, c, l⟩ ⟨hl, hc⟩
      dsimp only at hl hc ⊢
      have hle : l.map (·.name) = l0.map (·.name) := (hl.names hs2o).uniq hn0
      have hln : l.length = l0.length := by have := congrArg List.length hle; simpa using this
      have hfl5 := fcells_length l
      refine WC.seq <| WC.seq <| WC.region <| sv (vmI rfl) <| sv (vmP rfl) <| sv (vnil rfl) <| sv (vfldpz fl45f0 rfl) <| sv (vldc pl43 rfl) <| sv (vlen Try.underlying43 rfl) <| sv (vlt rfl rfl) <| WL.nil <| WX.thenN <| ?_
      refine WC.ite rfl (fun h5 => ?_) (fun h5 => ?_)
      · -- then
        have hjl : j < l.length := by omega
        obtain ⟨x, hxj⟩ : ∃ x, l[j]? = some x := ⟨_, List.getElem?_eq_getElem hjl⟩
        have hxn : okName x.name := hs2n.ok x.name ((rlook_some hl).2 (List.mem_map.2 ⟨x, List.mem_of_getElem? hxj, rfl⟩))
        have hxs := hxn.2.2
        have hpos : 0 < (fcells l).length := by omega
        have hf0 := fc0 hxj
        refine WC.known (fun w h => row_some hpos h.pk1) fun hb => ?_
        refine WC.skip <| WX.thenN <| WC.seq <| WC.block <| ?_
        refine WC.cut0 [(88, .bool false)] [(3, .pointer _), (4, .pointer _), (6, .int _ _)] (pdisk r2 s2 :: rdisk b5 (i + 2 * (j + 1)) s2 :: A) ⟨rfl, rfl, rfl, trivial⟩ ?_ fun ρh => ?_
        · -- law.go:118
          refine WC.region <| sv (vmP rfl) <| sv (vmP rfl) <| sv (vmP rfl) <| sv (vnil rfl) <| sv (vfldpz fl45f0 rfl) <| sv (vldc pl43 rfl) <| sv (vmI rfl) <| sv (vix Try.underlying43 sz51 rfl rfl (by omega) (by omega) reads (hpos)) <| sv (vfldr (hb) fl51f0 rfl) <| sv (vldo pl9 rfl reads (hf0)) <| sv (vbd (ps := [(0, (.int .i64 3)), (1, .string _)]) (cs := [_, _, _, _, _]) bt48 zt48 rfl (by rfl)) <| pm (fun _ h => (show Own w0 (pdisk r2 s2 :: rdisk b5 (i + 2 * j) s2 :: A) _ from (rdisk_mk hl hc (Sb.own (by repeat' (first | with_reducible exact Sb.all | exact Sb.nil | (apply Sb.cons; focus (first | ((repeat (first | with_reducible exact Tk.here | with_reducible apply Tk.there)); done) | ((repeat (first | exact Tk.here | apply Tk.there)); done))) | apply Sb.drop)) h)).pk1)) <| clx (by repeat' (first | with_reducible exact Sb.all | exact Sb.nil | (apply Sb.cons; focus (first | ((repeat (first | with_reducible exact Tk.here | with_reducible apply Tk.there)); done) | ((repeat (first | exact Tk.here | apply Tk.there)); done))) | apply Sb.drop)) (step_quiet (.inl rfl) (by omega) (by omega) (by omega) (hs2n.sub (by omega) fun _ h => h)) ct19 rfl fun r21 hr21 => ?_
          refine WL.ex (B := fun x : Option Addr × Nat × List RF => cel b5 (rcells x.1 x.2.2.length x.2.1 s2) 45 :: row x.1 x.2.1 3 51 (fcells x.2.2) :: rows 5 (x.2.2.map (·.b)) :: pdisk r2 s2 :: A) (fun w h => rdisk_open (Sb.own (by repeat' (first | with_reducible exact Sb.all | exact Sb.nil | (apply Sb.cons; focus (first | ((repeat (first | with_reducible exact Tk.here | with_reducible apply Tk.there)); done) | ((repeat (first | exact Tk.here | apply Tk.there)); done))) | apply Sb.drop)) h)) ?_
          rintro ⟨base2, c2, l2⟩ ⟨hl2, hc2⟩
          dsimp only at hl2 hc2 ⊢
          have hle2 : l2.map (·.name) = l0.map (·.name) := (hl2.names hs2o).uniq hn0
          have hln2 : l2.length = l0.length := by have := congrArg List.length hle2; simpa using this
          have hfl6 := fcells_length l2
          have hjl2 : j < l2.length := by omega
          obtain ⟨y, hyj⟩ : ∃ x, l2[j]? = some x := ⟨_, List.getElem?_eq_getElem hjl2⟩
          have hyn : okName y.name := hs2n.ok y.name ((rlook_some hl2).2 (List.mem_map.2 ⟨y, List.mem_of_getElem? hyj, rfl⟩))
          have hys := hyn.2.2
          have hpos : 0 < (fcells l2).length := by omega
          have hf0 := fc0 hyj
          refine WL.known (fun w h => row_some hpos h.pk1) fun hb => ?_
          refine sv (vnot rfl) <| sv (vmB rfl) <| svg rfl (vmP rfl) <| svg rfl (vmP rfl) <| svg rfl (vmP rfl) <| svg rfl (vnil rfl) <| svg rfl (vfldpz fl45f0 rfl) <| svg rfl (vldc pl43 rfl) <| svg rfl (vmI rfl) <| svg rfl (vix Try.underlying43 sz51 rfl rfl (by omega) (by omega) reads (hpos)) <| svg rfl (vfldr (hb) fl51f0 rfl) <| svg rfl (vldo pl9 rfl reads (hf0)) <| svg rfl (vbd (ps := [(0, (.int .i64 3)), (1, .string _)]) (cs := [_, _, _, _, _]) bt48 zt48 rfl (by rfl)) <| pm (fun _ h => (show Own w0 (pdisk r2 s2 :: rdisk b5 (i + 2 * j + 1) s2 :: A) _ from (rdisk_mk hl2 hc2 (Sb.own (by repeat' (first | with_reducible exact Sb.all | exact Sb.nil | (apply Sb.cons; focus (first | ((repeat (first | with_reducible exact Tk.here | with_reducible apply Tk.there)); done) | ((repeat (first | exact Tk.here | apply Tk.there)); done))) | apply Sb.drop)) h)).pk1)) <| gy rfl <| clx (by repeat' (first | with_reducible exact Sb.all | exact Sb.nil | (apply Sb.cons; focus (first | ((repeat (first | with_reducible exact Tk.here | with_reducible apply Tk.there)); done) | ((repeat (first | exact Tk.here | apply Tk.there)); done))) | apply Sb.drop)) (step_quiet (.inl rfl) (by omega) (by omega) (by omega) (hs2n.sub (by omega) fun _ h => h)) ct19 rfl fun r26 hr26 => ?_
          exact svg rfl (vnot rfl) <| sv (vpkf rfl) <| WL.nil <| WX.mid () trivial ⟨rfl, trivial⟩ ⟨rfl, rfl, rfl, trivial⟩ (fun w h => by rw [show i + 2 * (j + 1) = i + 2 * j + 1 + 1 by omega]; exact Sb.own (by repeat' (first | with_reducible exact Sb.all | exact Sb.nil | (apply Sb.cons; focus (first | ((repeat (first | with_reducible exact Tk.here | with_reducible apply Tk.there)); done) | ((repeat (first | exact Tk.here | apply Tk.there)); done))) | apply Sb.drop)) h)
        refine WC.ff rfl ?_
        exact WC.skip <| WX.blockN <| WX.thenN <| WC.region <| sv (vmI rfl) <| sv (vadd rfl rfl (by omega)) <| sv (vaI rfl) <| WL.nil <| WX.again (j + 1) (by omega) (by omega) ⟨rfl, trivial⟩ ⟨rfl, rfl, trivial⟩ (fun _ h => Sb.own (by repeat' (first | with_reducible exact Sb.all | exact Sb.nil | (apply Sb.cons; focus (first | ((repeat (first | with_reducible exact Tk.here | with_reducible apply Tk.there)); done) | ((repeat (first | exact Tk.here | apply Tk.there)); done))) | apply Sb.drop)) h)
      · -- else
        have hN9 := hc0.2
        refine WC.exit <| WX.thenE <| WX.thenE <| WX.blockH <| WX.thenN <| ?_
        refine WC.cut0 [(2, .bool true)] [] (A) trivial ?_ fun ρh => ?_
        · -- law.go:122
          refine WC.region <| clx (by repeat' (first | with_reducible exact Sb.all | exact Sb.nil | (apply Sb.cons; focus (first | ((repeat (first | with_reducible exact Tk.here | with_reducible apply Tk.there)); done) | ((repeat (first | exact Tk.here | apply Tk.there)); done))) | apply Sb.drop)) (law2_awake) ct15 rfl fun r28 hr28 => ?_
          refine sv (vmB rfl) <| svg rfl (vmP rfl) <| svg rfl (vmP rfl) <| svg rfl (vbd (ps := [(0, (.int .i64 7))]) (cs := [_, _, _, _, _]) bt48 zt48 rfl (by rfl)) <| pm (fun _ h => (show Own w0 (pdisk r2 s2 :: rdisk b5 (i + 2 * j) s2 :: A) _ from (rdisk_mk hl hc (Sb.own (by repeat' (first | with_reducible exact Sb.all | exact Sb.nil | (apply Sb.cons; focus (first | ((repeat (first | with_reducible exact Tk.here | with_reducible apply Tk.there)); done) | ((repeat (first | exact Tk.here | apply Tk.there)); done))) | apply Sb.drop)) h)).pk1)) <| gy rfl <| clx (by repeat' (first | with_reducible exact Sb.all | exact Sb.nil | (apply Sb.cons; focus (first | ((repeat (first | with_reducible exact Tk.here | with_reducible apply Tk.there)); done) | ((repeat (first | exact Tk.here | apply Tk.there)); done))) | apply Sb.drop)) (step_quiet (nm := ByteArray.empty) (.inr rfl) (by omega) (by decide) (by omega) (hs2n.sub (by omega) fun _ h => h)) ct19 rfl fun r30 hr30 => ?_
          refine sv (vpkt rfl) <| sv (vmB rfl) <| svg rfl (vmP rfl) <| svg rfl (vmP rfl) <| svg rfl (vbd (ps := [(0, (.int .i64 7))]) (cs := [_, _, _, _, _]) bt48 zt48 rfl (by rfl)) <| gy rfl <| clx (by repeat' (first | with_reducible exact Sb.all | exact Sb.nil | (apply Sb.cons; focus (first | ((repeat (first | with_reducible exact Tk.here | with_reducible apply Tk.there)); done) | ((repeat (first | exact Tk.here | apply Tk.there)); done))) | apply Sb.drop)) (step_quiet (nm := ByteArray.empty) (.inr rfl) (by omega) (by decide) (by omega) (hs2n.sub (by omega) fun _ h => h)) ct19 rfl fun r32 hr32 => ?_
          exact sv (vpkt rfl) <| sv (vaB rfl) <| WL.nil <| WX.mid () trivial ⟨rfl, trivial⟩ trivial (fun _ h => Sb.own (by repeat' (first | with_reducible exact Sb.all | exact Sb.nil | (apply Sb.cons; focus (first | ((repeat (first | with_reducible exact Tk.here | with_reducible apply Tk.there)); done) | ((repeat (first | exact Tk.here | apply Tk.there)); done))) | apply Sb.drop)) h)
        exact WC.ret <| WX.ret1 rfl (()) (trivial) rfl (fun _ h => Sb.own (by repeat' (first | with_reducible exact Sb.all | exact Sb.nil | (apply Sb.cons; focus (first | ((repeat (first | with_reducible exact Tk.here | with_reducible apply Tk.there)); done) | ((repeat (first | exact Tk.here | apply Tk.there)); done))) | apply Sb.drop)) h)
end Go.Proofs.Ytijbgeboaakmmaa
