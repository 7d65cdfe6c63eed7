/-
  Texts one behind the other: RaftLawA, JournalRefP, JournalRefA, JournalRefB, RefDiskA, RefDiskB, RefDiskC, RefDiskD, RefDiskE, RefDiskF, JournalRefC, JournalDoesA, PackRefC, CouncilRefA, CouncilRefB, CouncilRefC, CouncilRefD, CouncilRefE, CouncilRefF, CouncilRefG, CouncilRefH, CouncilRefI.
-/
import Derived.Sort.Walk0
import Derived.Test.YtigjompojlhomaaGreatPg4
section
set_option linter.unusedVariables false
set_option linter.unusedSimpArgs false
set_option maxRecDepth 4000
namespace Go.Proofs.YtigjompojlhomaaGreat
open Go.Sl Go.RowKit Go.Raft
variable {w0 : World} {A : List HProp}
theorem ref_samecells {ca cb : Nat} {a b : Option Addr} {k l : List Cl} (hk : k.length ≤ 9223372036854775807) [hR : Reads w0 A a (cvs k)] [hS : Reads w0 A b (cvs l)] :
  Fun Tryz.prog w0 35 [.slice a k.length ca, .slice b l.length cb] A (Ru w0 (.bool (decide (k = l))) A) := by
 refine Fun.enter Tryz.func35 rfl Tryz.ntmps35 rfl ?_
 refine wS $ wR $ yB rfl $ wN $ tN $ wS $ wS $ wR $ zS rfl $ sv (vlen Tryz.underlying54 rfl) $ zS rfl $ sv (vlen Tryz.underlying54 rfl) $ sv (vne rfl rfl) $ wN $ tN $ ?_
 refine WC.ite rfl (fun h1 => ?_) (fun h1 => ?_)
 ·
  exact wS $ wR $ yB rfl $ wN $ tN $ WC.ret $ tR $ xR rfl (()) (trivial) (bF (fun h => h1 (by rw [h]))) ow
 ·
  have hll : k.length = l.length := by omega
  have hlk := cvs_length k
  have hlj := cvs_length l
  refine WC.skip $ tN $ wS $ wS $ wR $ yI rfl $ wN $ tN $ WC.block $ ?_
  refine WC.loopS (ι := Nat) (fun i => [(5, .int .i64 i)]) [(0, .slice _ _ _), (1, .slice _ _ _)] (fun i => i ≤ k.length ∧ k.take i = l.take i) (fun i => k.length - i) (0) (⟨by omega, rfl⟩) ⟨rfl, trivial⟩ ⟨rfl, rfl, trivial⟩ ?_
  intro i hi ρh
  refine wS $ wS $ wR $ zI rfl $ zS rfl $ sv (vlen Tryz.underlying54 rfl) $ sv (vlt rfl rfl) $ wN $ tN $ ?_
  refine WC.ite rfl (fun h2 => ?_) (fun h2 => ?_)
  ·
   have hik : i < k.length := by omega
   have hil : i < l.length := by omega
   obtain ⟨c, hc⟩ : ∃ c, k[i]? = some c := ⟨_, List.getElem?_eq_getElem hik⟩
   obtain ⟨d, hd⟩ : ∃ d, l[i]? = some d := ⟨_, List.getElem?_eq_getElem hil⟩
   have hposa : 0 < (cvs k).length := by omega
   have hposb : 0 < (cvs l).length := by omega
   have haga : ((cvs k).drop (((i : Int)).toNat * 2)).take 2 = [.int .i64 c.term, .string c.data] := by rw [Int.toNat_natCast]; exact cvs_take2 hc
   have hagb : ((cvs l).drop (((i : Int)).toNat * 2)).take 2 = [.int .i64 d.term, .string d.data] := by rw [Int.toNat_natCast]; exact cvs_take2 hd
   refine WC.known (fun w h => rsome (base := a) hposa reads h) fun hba => ?_
   refine WC.known (fun w h => rsome (base := b) hposb reads h) fun hbb => ?_
   refine WC.skip $ tN $ wS $ WC.block $ wS $ WC.draws rfl (by kernel_rfl) $ qv (vmS rfl) $ qv (vmI rfl) $ qv (vix Tryz.underlying54 sz89 rfl rfl (by omega) (by omega) reads hposa) $ qv (vlda ag89 sz89 rfl reads haga rfl (by decide)) $ qv (vmS rfl) $ qv (vmI rfl) $ qv (vix Tryz.underlying54 sz89 rfl rfl (by omega) (by omega) reads hposb) $ qv (vlda ag89 sz89 rfl reads hagb rfl (by decide)) $ qv (vneA eq89 rfl rfl rfl) $ WQ.nil $ tN $ ?_
   refine WC.iteb rfl (fun h3 => ?_) (fun h3 => ?_)
   ·
    exact wS $ wR $ yB rfl $ wN $ tN $ WC.ret $ WX.blockR $ tR $ tR $ WX.blockR $ tR $ xR rfl (()) (trivial) (bF (fun h => by subst h; rw [hc] at hd; cases hd; simp at h3)) ow
   ·
    have hcd : c = d := by
     obtain ⟨t1, d1⟩ := c
     obtain ⟨t2, d2⟩ := d
     have h4 : t1 = t2 ∧ d1 = d2 := by simpa using h3
     rw [h4.1, h4.2]
    exact WC.skip $ WX.blockN $ tN $ wR $ zI rfl $ sv (vadd rfl rfl (by omega)) $ yI rfl $ wN $ WX.again (i + 1) (⟨by omega, by rw [List.take_add_one, List.take_add_one, hi.2, hc, hd, hcd]⟩) (by omega) ⟨rfl, trivial⟩ ⟨rfl, rfl, trivial⟩ ow
  ·
   exact WC.exit $ WX.thenE $ WX.thenE $ WX.blockH $ tN $ wS $ wR $ yB rfl $ wN $ tN $ WC.ret $ xR rfl (()) (trivial) (bT (by have := hi.2; rwa [List.take_of_length_le (by omega), List.take_of_length_le (by omega)] at this)) ow
theorem ref_samecells_eq {ca cb : Nat} {a b : Option Addr} {k l : List Cl} (hk : k.length ≤ 9223372036854775807) [hR : Reads w0 A a (cvs k)] [hS : Reads w0 A b (cvs l)] (he : k = l) :
  Fun Tryz.prog w0 35 [.slice a k.length ca, .slice b l.length cb] A (Ru w0 (.bool true) A) := by
 have h := ref_samecells (w0 := w0) (A := A) (ca := ca) (cb := cb) (a := a) (b := b) (k := k) (l := l) hk
 rwa [decide_eq_true he] at h
theorem mvs_at {l : List Mh} {i k : Nat} {m : Mh} (h : l[i]? = some m) (hk : k < 9) : (mvs l)[i * 9 + k]? = (mv m)[k]? := by
 have hi := (List.getElem?_eq_some_iff.1 h).1
 have := flat_at (f := mv) (s := 9) (l := l) (i := i) (k := k) (fun _ _ => rfl) hi hk
 rw [(List.getElem?_eq_some_iff.1 h).2] at this
 exact this
theorem mvs_take9 {l : List Mh} {i : Nat} {m : Mh} (h : l[i]? = some m) : ((mvs l).drop (i * 9)).take 9 = mv m := by
 have hi := (List.getElem?_eq_some_iff.1 h).1
 have := flat_take (f := mv) (s := 9) (l := l) (i := i) (fun _ _ => rfl) hi
 rw [(List.getElem?_eq_some_iff.1 h).2] at this
 exact this
theorem ref_same {ca cb : Nat} {a b : Option Addr} (k l : List Mh) (hR : RdC w0 A a (mvs k)) (hS : RdC w0 A b (mvs l)) (hk : k.length ≤ 9223372036854775807 ∧ ∀ m ∈ k, m.cs.xs.length ≤ 9223372036854775807) (hra : ∀ m ∈ k, RdC w0 A m.cs.base (cvs m.cs.xs)) (hrb : ∀ m ∈ l, RdC w0 A m.cs.base (cvs m.cs.xs)) :
  Fun Tryz.prog w0 36 [.slice a k.length ca, .slice b l.length cb] A (Ru w0 (.bool (decide (k.map Mh.ml = l.map Mh.ml))) A) := by
 have hRi : Reads w0 A a (mvs k) := ⟨hR⟩
 have hSi : Reads w0 A b (mvs l) := ⟨hS⟩
 refine Fun.enter Tryz.func36 rfl Tryz.ntmps36 rfl ?_
 refine wS $ wR $ yB rfl $ wN $ tN $ wS $ wS $ wR $ zS rfl $ sv (vlen Tryz.underlying41 rfl) $ zS rfl $ sv (vlen Tryz.underlying41 rfl) $ sv (vne rfl rfl) $ wN $ tN $ ?_
 refine WC.ite rfl (fun h1 => ?_) (fun h1 => ?_)
 ·
  exact wS $ wR $ yB rfl $ wN $ tN $ WC.ret $ tR $ xR rfl (()) (trivial) (bF (fun h => h1 (by have := congrArg List.length h; simp at this; omega))) ow
 ·
  have hll : k.length = l.length := by omega
  have hlk := mvs_length k
  have hlj := mvs_length l
  refine WC.skip $ tN $ wS $ wS $ wR $ yI rfl $ wN $ tN $ WC.block $ ?_
  refine WC.loopS (ι := Nat) (fun i => [(5, .int .i64 i)]) [(0, .slice _ _ _), (1, .slice _ _ _)] (fun i => i ≤ k.length ∧ (k.take i).map Mh.ml = (l.take i).map Mh.ml) (fun i => k.length - i) (0) (⟨by omega, rfl⟩) ⟨rfl, trivial⟩ ⟨rfl, rfl, trivial⟩ ?_
  intro i hi ρh
  refine wS $ wS $ wR $ zI rfl $ zS rfl $ sv (vlen Tryz.underlying41 rfl) $ sv (vlt rfl rfl) $ wN $ tN $ ?_
  refine WC.ite rfl (fun h2 => ?_) (fun h2 => ?_)
  ·
   have hik : i < k.length := by omega
   have hil : i < l.length := by omega
   obtain ⟨m, hm⟩ : ∃ m, k[i]? = some m := ⟨_, List.getElem?_eq_getElem hik⟩
   obtain ⟨o, ho⟩ : ∃ o, l[i]? = some o := ⟨_, List.getElem?_eq_getElem hil⟩
   have hposa : 0 < (mvs k).length := by omega
   have hposb : 0 < (mvs l).length := by omega
   have haga : ((mvs k).drop (((i : Int)).toNat * 9)).take 9 = mv m := by rw [Int.toNat_natCast]; exact mvs_take9 hm
   have hagb : ((mvs l).drop (((i : Int)).toNat * 9)).take 9 = mv o := by rw [Int.toNat_natCast]; exact mvs_take9 ho
   have hmr : ∀ {B : List HProp}, (∀ w, Own w0 B w → Own w0 A w) → Reads w0 B m.cs.base (cvs m.cs.xs) := fun {B} hB => ⟨(hra m (List.mem_of_getElem? hm)).mono hB⟩
   have hor : ∀ {B : List HProp}, (∀ w, Own w0 B w → Own w0 A w) → Reads w0 B o.cs.base (cvs o.cs.xs) := fun {B} hB => ⟨(hrb o (List.mem_of_getElem? ho)).mono hB⟩
   have hml := hk.2 m (List.mem_of_getElem? hm)
   refine WC.known (fun w h => rsome (base := a) hposa reads h) fun hba => ?_
   refine WC.known (fun w h => rsome (base := b) hposb reads h) fun hbb => ?_
   refine WC.skip $ tN $ wS $ WC.block $ wS $ wR $ zS rfl $ zI rfl $ sv (vix Tryz.underlying41 sz85 rfl rfl (by omega) (by omega) reads hposa) $ sv (vlda ag85 sz85 rfl reads haga rfl (by decide)) $ alz (cs := [.int .i64 0, .int .i64 0, .int .i64 0, .int .i64 0, .int .i64 0, .int .i64 0, .int .i64 0, .bool false, .slice none 0 0]) zt85 (by rfl) fun b3 => stAp sz85 rfl rfl rfl (by intro v hv; simp only [List.mem_cons, List.not_mem_nil, or_false] at hv; rcases hv with rfl | rfl | rfl | rfl | rfl | rfl | rfl | rfl | rfl <;> rfl) rfl $ wN $ tN $ wS $ wR $ zS rfl $ zI rfl $ sv (vix Tryz.underlying41 sz85 rfl rfl (by omega) (by omega) reads hposb) $ sv (vlda ag85 sz85 rfl reads hagb rfl (by decide)) $ alz (cs := [.int .i64 0, .int .i64 0, .int .i64 0, .int .i64 0, .int .i64 0, .int .i64 0, .int .i64 0, .bool false, .slice none 0 0]) zt85 (by rfl) fun b7 => stAp sz85 rfl rfl rfl (by intro v hv; simp only [List.mem_cons, List.not_mem_nil, or_false] at hv; rcases hv with rfl | rfl | rfl | rfl | rfl | rfl | rfl | rfl | rfl <;> rfl) rfl $ wN $ tN $ ?_
   refine WC.cut0 [(88, .bool (decide (m.kind ≠ o.kind ∨ m.fr ≠ o.fr ∨ m.to_ ≠ o.to_ ∨ m.term ≠ o.term ∨ m.index ≠ o.index ∨ m.prev ≠ o.prev ∨ m.commit ≠ o.commit ∨ m.ok ≠ o.ok ∨ m.cs.xs ≠ o.cs.xs)))] [(0, .slice _ _ _), (1, .slice _ _ _), (5, .int _ _)] (cel b7 (mv o) 85 :: cel b3 (mv m) 85 :: A) ⟨rfl, rfl, rfl, trivial⟩ ?_ fun ρh => ?_
   ·
    refine wR $ sv (vfldpz fl85f0 rfl) $ sv (vldc pl3 rfl) $ sv (vfldpz fl85f0 rfl) $ sv (vldc pl3 rfl) $ svs (vne rfl rfl) (fun q1 => ?_) (fun q1 => ?_)
    ·
     exact zB rfl $ sng rfl $ sng rfl $ sng rfl $ sng rfl $ sng rfl $ uT rfl $ zB rfl $ sng rfl $ sng rfl $ sng rfl $ sng rfl $ sng rfl $ uT rfl $ zB rfl $ sng rfl $ sng rfl $ sng rfl $ sng rfl $ sng rfl $ uT rfl $ zB rfl $ sng rfl $ sng rfl $ sng rfl $ sng rfl $ sng rfl $ uT rfl $ zB rfl $ sng rfl $ sng rfl $ sng rfl $ sng rfl $ sng rfl $ uT rfl $ zB rfl $ sng rfl $ sng rfl $ sng rfl $ sng rfl $ sng rfl $ uT rfl $ zB rfl $ sng rfl $ sng rfl $ sng rfl $ sng rfl $ sng rfl $ uT rfl $ zB rfl $ sng rfl $ sng rfl $ sng rfl $ sng rfl $ sng rfl $ sng rfl $ uT rfl $ wN $ xM () trivial ⟨bTa, trivial⟩ ⟨rfl, rfl, rfl, trivial⟩ ow
    ·
     refine zB rfl $ svg rfl (vfldp fl85f1 rfl) $ svg rfl (vldc pl3 rfl) $ svg rfl (vfldp fl85f1 rfl) $ svg rfl (vldc pl3 rfl) $ svsg rfl (vne rfl rfl) (fun q2 => ?_) (fun q2 => ?_)
     ·
      exact uF rfl $ zB rfl $ sng rfl $ sng rfl $ sng rfl $ sng rfl $ sng rfl $ uT rfl $ zB rfl $ sng rfl $ sng rfl $ sng rfl $ sng rfl $ sng rfl $ uT rfl $ zB rfl $ sng rfl $ sng rfl $ sng rfl $ sng rfl $ sng rfl $ uT rfl $ zB rfl $ sng rfl $ sng rfl $ sng rfl $ sng rfl $ sng rfl $ uT rfl $ zB rfl $ sng rfl $ sng rfl $ sng rfl $ sng rfl $ sng rfl $ uT rfl $ zB rfl $ sng rfl $ sng rfl $ sng rfl $ sng rfl $ sng rfl $ uT rfl $ zB rfl $ sng rfl $ sng rfl $ sng rfl $ sng rfl $ sng rfl $ sng rfl $ uT rfl $ wN $ xM () trivial ⟨bTa, trivial⟩ ⟨rfl, rfl, rfl, trivial⟩ ow
     ·
      refine uF rfl $ zB rfl $ svg rfl (vfldp fl85f2 rfl) $ svg rfl (vldc pl3 rfl) $ svg rfl (vfldp fl85f2 rfl) $ svg rfl (vldc pl3 rfl) $ svsg rfl (vne rfl rfl) (fun q3 => ?_) (fun q3 => ?_)
      ·
       exact uF rfl $ zB rfl $ sng rfl $ sng rfl $ sng rfl $ sng rfl $ sng rfl $ uT rfl $ zB rfl $ sng rfl $ sng rfl $ sng rfl $ sng rfl $ sng rfl $ uT rfl $ zB rfl $ sng rfl $ sng rfl $ sng rfl $ sng rfl $ sng rfl $ uT rfl $ zB rfl $ sng rfl $ sng rfl $ sng rfl $ sng rfl $ sng rfl $ uT rfl $ zB rfl $ sng rfl $ sng rfl $ sng rfl $ sng rfl $ sng rfl $ uT rfl $ zB rfl $ sng rfl $ sng rfl $ sng rfl $ sng rfl $ sng rfl $ sng rfl $ uT rfl $ wN $ xM () trivial ⟨bTa, trivial⟩ ⟨rfl, rfl, rfl, trivial⟩ ow
      ·
       refine uF rfl $ zB rfl $ svg rfl (vfldp fl85f3 rfl) $ svg rfl (vldc pl3 rfl) $ svg rfl (vfldp fl85f3 rfl) $ svg rfl (vldc pl3 rfl) $ svsg rfl (vne rfl rfl) (fun q4 => ?_) (fun q4 => ?_)
       ·
        exact uF rfl $ zB rfl $ sng rfl $ sng rfl $ sng rfl $ sng rfl $ sng rfl $ uT rfl $ zB rfl $ sng rfl $ sng rfl $ sng rfl $ sng rfl $ sng rfl $ uT rfl $ zB rfl $ sng rfl $ sng rfl $ sng rfl $ sng rfl $ sng rfl $ uT rfl $ zB rfl $ sng rfl $ sng rfl $ sng rfl $ sng rfl $ sng rfl $ uT rfl $ zB rfl $ sng rfl $ sng rfl $ sng rfl $ sng rfl $ sng rfl $ sng rfl $ uT rfl $ wN $ xM () trivial ⟨bTa, trivial⟩ ⟨rfl, rfl, rfl, trivial⟩ ow
       ·
        refine uF rfl $ zB rfl $ svg rfl (vfldp fl85f4 rfl) $ svg rfl (vldc pl3 rfl) $ svg rfl (vfldp fl85f4 rfl) $ svg rfl (vldc pl3 rfl) $ svsg rfl (vne rfl rfl) (fun q5 => ?_) (fun q5 => ?_)
        ·
         exact uF rfl $ zB rfl $ sng rfl $ sng rfl $ sng rfl $ sng rfl $ sng rfl $ uT rfl $ zB rfl $ sng rfl $ sng rfl $ sng rfl $ sng rfl $ sng rfl $ uT rfl $ zB rfl $ sng rfl $ sng rfl $ sng rfl $ sng rfl $ sng rfl $ uT rfl $ zB rfl $ sng rfl $ sng rfl $ sng rfl $ sng rfl $ sng rfl $ sng rfl $ uT rfl $ wN $ xM () trivial ⟨bTa, trivial⟩ ⟨rfl, rfl, rfl, trivial⟩ ow
        ·
         refine uF rfl $ zB rfl $ svg rfl (vfldp fl85f5 rfl) $ svg rfl (vldc pl3 rfl) $ svg rfl (vfldp fl85f5 rfl) $ svg rfl (vldc pl3 rfl) $ svsg rfl (vne rfl rfl) (fun q6 => ?_) (fun q6 => ?_)
         ·
          exact uF rfl $ zB rfl $ sng rfl $ sng rfl $ sng rfl $ sng rfl $ sng rfl $ uT rfl $ zB rfl $ sng rfl $ sng rfl $ sng rfl $ sng rfl $ sng rfl $ uT rfl $ zB rfl $ sng rfl $ sng rfl $ sng rfl $ sng rfl $ sng rfl $ sng rfl $ uT rfl $ wN $ xM () trivial ⟨bTa, trivial⟩ ⟨rfl, rfl, rfl, trivial⟩ ow
         ·
          refine uF rfl $ zB rfl $ svg rfl (vfldp fl85f6 rfl) $ svg rfl (vldc pl3 rfl) $ svg rfl (vfldp fl85f6 rfl) $ svg rfl (vldc pl3 rfl) $ svsg rfl (vne rfl rfl) (fun q7 => ?_) (fun q7 => ?_)
          ·
           exact uF rfl $ zB rfl $ sng rfl $ sng rfl $ sng rfl $ sng rfl $ sng rfl $ uT rfl $ zB rfl $ sng rfl $ sng rfl $ sng rfl $ sng rfl $ sng rfl $ sng rfl $ uT rfl $ wN $ xM () trivial ⟨bTa, trivial⟩ ⟨rfl, rfl, rfl, trivial⟩ ow
          ·
           refine uF rfl $ zB rfl $ svg rfl (vfldp fl85f7 rfl) $ svg rfl (vldc pl4 rfl) $ svg rfl (vfldp fl85f7 rfl) $ svg rfl (vldc pl4 rfl) $ svsg rfl (vneb Tryz.underlying4 rfl rfl) (fun q8 => ?_) (fun q8 => ?_)
           ·
            exact uF rfl $ zB rfl $ sng rfl $ sng rfl $ sng rfl $ sng rfl $ sng rfl $ sng rfl $ uT rfl $ wN $ xM () trivial ⟨bTa, trivial⟩ ⟨rfl, rfl, rfl, trivial⟩ ow
           ·
            refine uF rfl $ zB rfl $ svg rfl (vfldp fl85f8 rfl) $ svg rfl (vldc pl54 rfl) $ svg rfl (vfldp fl85f8 rfl) $ svg rfl (vldc pl54 rfl) $ gy rfl $ clx (by repeat' (first | with_reducible exact Sb.all | exact Sb.nil | (apply Sb.cons; focus (first | ((repeat (first | with_reducible exact Tk.here | with_reducible apply Tk.there)); done) | ((repeat (first | exact Tk.here | apply Tk.there)); done))) | apply Sb.drop)) (ref_samecells (hR := hmr fun _ h => h.tail.tail) (hS := hor fun _ h => h.tail.tail) hml) ct35 rfl fun r27 hr27 => ?_
            exact svg rfl (vnot rfl) $ uF rfl $ wN $ xM () trivial ⟨bB ⟨fun h => by simp at h; simp [h], fun h => by simp_all⟩, trivial⟩ ⟨rfl, rfl, rfl, trivial⟩ ow
   refine WC.ite rfl (fun h3 => ?_) (fun h3 => ?_)
   ·
    have hne : m.ml ≠ o.ml := fun h => by
     have h' := h
     simp only [Mh.ml, Ml.mk.injEq] at h'
     rcases h3 with h3 | h3 | h3 | h3 | h3 | h3 | h3 | h3 | h3
     ·exact h3 h'.1
     ·exact h3 h'.2.1
     ·exact h3 h'.2.2.1
     ·exact h3 h'.2.2.2.1
     ·exact h3 h'.2.2.2.2.1
     ·exact h3 h'.2.2.2.2.2.1
     ·exact h3 h'.2.2.2.2.2.2.1
     ·exact h3 h'.2.2.2.2.2.2.2.1
     ·exact h3 h'.2.2.2.2.2.2.2.2
    exact wS $ wR $ yB rfl $ wN $ tN $ WC.ret $ WX.blockR $ tR $ tR $ WX.blockR $ tR $ xR rfl (()) (trivial) (bF (fun h => hne (by have := congrArg (fun q => q[i]?) h; simpa [hm, ho] using this))) ow
   ·
    have heq : m.ml = o.ml := by
     simp only [not_or, Decidable.not_not, ne_eq] at h3
     simp only [Mh.ml, Ml.mk.injEq]
     exact h3
    exact WC.skip $ WX.blockN $ tN $ wR $ zI rfl $ sv (vadd rfl rfl (by omega)) $ yI rfl $ wN $ WX.again (i + 1) (⟨by omega, by rw [List.take_add_one, List.take_add_one, hm, ho, List.map_append, List.map_append, hi.2]; simp [heq]⟩) (by omega) ⟨rfl, trivial⟩ ⟨rfl, rfl, trivial⟩ ow
  ·
   exact WC.exit $ WX.thenE $ WX.thenE $ WX.blockH $ tN $ wS $ wR $ yB rfl $ wN $ tN $ WC.ret $ xR rfl (()) (trivial) (bT (by have := hi.2; rwa [List.take_of_length_le (by omega), List.take_of_length_le (by omega)] at this)) ow
theorem ref_same_eq {ca cb : Nat} {a b : Option Addr} (k l : List Mh) (hR : RdC w0 A a (mvs k)) (hS : RdC w0 A b (mvs l)) (hk : k.length ≤ 9223372036854775807 ∧ ∀ m ∈ k, m.cs.xs.length ≤ 9223372036854775807) (hra : ∀ m ∈ k, RdC w0 A m.cs.base (cvs m.cs.xs)) (hrb : ∀ m ∈ l, RdC w0 A m.cs.base (cvs m.cs.xs)) (he : k.map Mh.ml = l.map Mh.ml) :
  Fun Tryz.prog w0 36 [.slice a k.length ca, .slice b l.length cb] A (Ru w0 (.bool true) A) := by
 have h := ref_same (w0 := w0) (A := A) (ca := ca) (cb := cb) (a := a) (b := b) k l hR hS hk hra hrb
 rwa [decide_eq_true he] at h
theorem cvs_set {l : List Cl} {i : Nat} {c : Cl} (h : i < l.length) : splice (cvs l) (i * 2) (cv c) = cvs (l.set i c) := by
 unfold splice
 have e : i * 2 + (cv c).length = (i + 1) * 2 := by show i * 2 + 2 = _; omega
 rw [e, cvs_take, cvs_drop, List.set_eq_take_append_cons_drop, if_pos h]
 have : cv c = cvs [c] := by simp [cvs]
 rw [this, ← cvs_append, ← cvs_append, List.append_assoc]; rfl
theorem mvs_drop (l : List Mh) (i : Nat) : (mvs l).drop (i * 9) = mvs (l.drop i) := by
 by_cases hi : i ≤ l.length
 ·have h1 : mvs l = mvs (l.take i) ++ mvs (l.drop i) := by unfold mvs; rw [← List.flatMap_append, List.take_append_drop]
  rw [h1, List.drop_append_of_le_length (by rw [mvs_length, List.length_take]; omega), List.drop_eq_nil_of_le (by rw [mvs_length, List.length_take]; omega), List.nil_append]
 ·rw [List.drop_eq_nil_of_le (by rw [mvs_length]; omega), List.drop_eq_nil_of_le (by omega)]; rfl
theorem mvs_take (l : List Mh) (i : Nat) : (mvs l).take (i * 9) = mvs (l.take i) := by
 by_cases hi : i ≤ l.length
 ·have h1 : mvs l = mvs (l.take i) ++ mvs (l.drop i) := by unfold mvs; rw [← List.flatMap_append, List.take_append_drop]
  rw [h1, List.take_left' (by rw [mvs_length, List.length_take]; omega)]
 ·rw [List.take_of_length_le (by rw [mvs_length]; omega), List.take_of_length_le (by omega)]
theorem mvs_set {l : List Mh} {i : Nat} {m : Mh} (h : i < l.length) : splice (mvs l) (i * 9) (mv m) = mvs (l.set i m) := by
 unfold splice
 have e : i * 9 + (mv m).length = (i + 1) * 9 := by show i * 9 + 9 = _; omega
 rw [e, mvs_take, mvs_drop, List.set_eq_take_append_cons_drop, if_pos h]
 have : mv m = mvs [m] := by simp [mvs]
 rw [this]
 unfold mvs
 rw [← List.flatMap_append, ← List.flatMap_append, List.append_assoc]; rfl
abbrev goneC : Cl := ⟨0, ⟨#[103, 111, 110, 101]⟩⟩
abbrev zeroM : Mh := ⟨0, 0, 0, 0, 0, 0, 0, false, ⟨none, [], 0⟩⟩
end Go.Proofs.YtigjompojlhomaaGreat
end
section
set_option linter.unusedVariables false
set_option linter.unusedSimpArgs false
namespace Go.Journal
open Go.Sl Go.Pack
variable {w0 : World} {A : List HProp}
theorem num4_congr {a b : List UInt8} (h : ∀ k, k < 4 → a.getD k 0 = b.getD k 0) : num4 a = num4 b := by
 unfold num4
 rw [h 0 (by omega), h 1 (by omega), h 2 (by omega), h 3 (by omega)]
theorem getD_drop (l : List UInt8) (i k : Nat) : (l.drop i).getD k 0 = l.getD (i + k) 0 := by
 rw [List.getD_eq_getElem?_getD, List.getD_eq_getElem?_getD, List.getElem?_drop]
theorem first_iff {b : List UInt8} (h8 : 8 ≤ b.length) (hn : num4 b ≤ b.length - 8) :
  (∀ k, k < 8 → (frameB ((b.drop 8).take (num4 b))).getD k 0 = b.getD k 0) ↔ sum (b.take 4 ++ (b.drop 8).take (num4 b)) = num4 (b.drop 4) := by
 have hl : ((b.drop 8).take (num4 b)).length = num4 b := by rw [List.length_take, List.length_drop]; omega
 have e : frameB ((b.drop 8).take (num4 b)) = b.take 4 ++ (le4 (sum (b.take 4 ++ (b.drop 8).take (num4 b))) ++ (b.drop 8).take (num4 b)) := by
  unfold frameB; rw [hl, le4_num4 (by omega), List.append_assoc]
 rw [e]
 have ht : (b.take 4).length = 4 := by rw [List.length_take]; omega
 constructor
 ·intro h
  have h2 : num4 (le4 (sum (b.take 4 ++ (b.drop 8).take (num4 b))) ++ (b.drop 8).take (num4 b)) = num4 (b.drop 4) := by
   apply num4_congr
   intro k hk
   have := h (4 + k) (by omega)
   rw [getD_drop, ← this]
   have e3 : ∀ X : List UInt8, (b.take 4 ++ X).getD (4 + k) 0 = X.getD k 0 := fun X => by rw [List.getD_eq_getElem?_getD, List.getD_eq_getElem?_getD, List.getElem?_append_right (by omega), ht, Nat.add_sub_cancel_left]
   rw [e3]
  rwa [num4_le4 (sum_lt' _)] at h2
 ·intro h k hk
  rw [h, le4_num4 (by rw [List.length_drop]; omega), ← List.append_assoc, ← List.take_add]
  rw [List.getD_eq_getElem?_getD, List.getD_eq_getElem?_getD, List.getElem?_append_left (by rw [List.length_take]; omega), List.getElem?_take, if_pos hk]
end Go.Journal
end
section
set_option linter.unusedVariables false
set_option linter.unusedSimpArgs false
set_option maxRecDepth 4000
namespace Go.Proofs.YtigjompojlhomaaGreat
open Go.Sl Go.RowKit Go.Pack Go.Journal
variable {w0 : World} {A : List HProp}
theorem ref_four {n : Nat} :
  Fun Tryz.prog w0 107 [.int .u32 n] A (Ret w0 (fun _ : Nat => True) (fun g => .slice (some ⟨g, 0, none⟩) 4 4) (fun g => row (some ⟨g, 0, none⟩) 4 1 5 (u8s (le4 n)) :: A)) := by
 refine Fun.enter Tryz.func107 rfl Tryz.ntmps107 rfl ?_
 exact wS $ wR $ yS rfl $ wN $ tN $ wS $ wR $ zI rfl $ sv (vcv is171 Tryz.underlying5 rfl) $ zI rfl $ sv (vshr rfl rfl (by omega)) $ sv (vcv is171 Tryz.underlying5 rfl) $ zI rfl $ sv (vshr rfl rfl (by omega)) $ sv (vcv is171 Tryz.underlying5 rfl) $ zI rfl $ sv (vshr rfl rfl (by omega)) $ sv (vcv is171 Tryz.underlying5 rfl) $ bsln [.int _ _, .int _ _, .int _ _, .int _ _] Tryz.underlying108 zt5 rfl rfl (by intro v hv; simp only [List.mem_cons, List.not_mem_nil, or_false] at hv; rcases hv with rfl | rfl | rfl | rfl <;> rfl) (by simp) fun b8 => yS rfl $ wN $ tN $ WC.ret $ xR rfl (b8) (trivial) rfl (fun w h => (cel_eq (low_vals n) h).cel_row rfl (by simp [maxLen]))
theorem ref_sum_k {base : Option Addr} {c k : Nat} {bs : List UInt8} (hR : RdC w0 A base (u8s bs)) (hk : k = bs.length) (hb : bs.length ≤ 140737488355328) :
  Fun Tryz.prog w0 108 [.slice base k c] A (Ru w0 (.int .u32 (sum bs)) A) := hk ▸ ref_sum (hR := ⟨hR⟩) hb
theorem ref_frame {base : Option Addr} {c k : Nat} {bs : List UInt8} (hR : RdC w0 A base (u8s bs)) (hk : k = bs.length) (hb : bs.length ≤ 1048576) :
  Fun Tryz.prog w0 86 [.slice base k c] A (Ret w0 (fun i : Option Addr × Nat => (frameB bs).length ≤ i.2) (fun i => .slice i.1 (frameB bs).length i.2) (fun i => row i.1 i.2 1 5 (u8s (frameB bs)) :: A)) := by
 refine Fun.enter Tryz.func86 rfl Tryz.ntmps86 rfl ?_
 refine wS $ wR $ yS rfl $ wN $ tN $ wS $ wR $ zS rfl $ sv (vlen Tryz.underlying108 rfl) $ sv (vcw is3 Tryz.underlying171 rfl (w32 (by omega))) $ cl (ref_four) ct107 rfl fun g2 _ => yS rfl $ wN $ tN $ wS $ wR $ bsl0 Tryz.underlying108 zt5 fun b3 => yS rfl $ wN $ tN $ wS $ wR $ zS rfl $ zS rfl $ apb Tryz.underlying108 zt5 rfl rfl (by simp) (by rw [le4_length]) reads (by omega) fun base4 c4 hc4 =>yS rfl $ wN $ tN $ wS $ wR $ zS rfl $ zS rfl $ apb Tryz.underlying108 zt5 rfl rfl (by simp [le4]) hk hR.cons.cons (by omega) fun base5 c5 hc5 =>yS rfl $ wN $ tN $ wS $ wR $ bsl0 Tryz.underlying108 zt5 fun b6 => yS rfl $ wN $ tN $ wS $ wR $ zS rfl $ zS rfl $ apb Tryz.underlying108 zt5 rfl rfl (by simp) (by rw [le4_length]) reads (by omega) fun base7 c7 hc7 =>yS rfl $ wN $ tN $ wS $ wR $ zS rfl $ zS rfl $ cl (ref_sum_k (bs := [] ++ le4 k ++ bs) reads (by simp [le4, hk]; omega) (by simp [le4]; omega)) ct108 rfl fun _ _ => cl (ref_four) ct107 rfl fun g9 _ => pm (fun _ h => h.pk1) $ apb Tryz.underlying108 zt5 rfl rfl (by simp [le4]) (by rw [le4_length]) reads (by omega) fun base10 c10 hc10 =>yS rfl $ wN $ tN $ wS $ wR $ zS rfl $ zS rfl $ apb Tryz.underlying108 zt5 rfl rfl (by simp [le4]) hk hR.cons.cons.cons.cons (by omega) fun base11 c11 hc11 =>yS rfl $ wN $ tN $ wS $ wR $ zS rfl $ yS rfl $ wN $ tN $ WC.ret $ xR rfl ((base11, c11)) (by rw [frameB_len]; omega) ?_ (fun w h => ?_)
 ·show Value.slice _ _ _ = Value.slice _ _ _
  rw [frameB_len]
  congr 1
  omega
 ·have e : u8s (frameB bs) = u8s ([] ++ le4 k ++ le4 (sum ([] ++ le4 k ++ bs)) ++ bs) := by rw [hk]; rfl
  rw [e]
  exact h.pk1.tail.pk1.tail.pk1.tail
theorem first_val {b1 b1' : Option Addr} {a1 a1' a2 a2' : Nat} (e0 : b1 = b1') (e1 : a1 = a1') (e2 : a2 = a2') : Value.tuple #[.slice b1 a1 a2, .bool true] = .tuple #[.slice b1' a1' a2', .bool true] := by rw [e0, e1, e2]
theorem byte_ne {a b : UInt8} (h : ¬ ((a.toNat : Int) ≠ (b.toNat : Int))) : a = b := UInt8.toNat_inj.1 (by omega)
theorem ref_first_none {base : Option Addr} {c k : Nat} {bs : List UInt8} (hR : RdC w0 A base (u8s bs)) (hk : k = bs.length) (hc : bs.length ≤ c) (hbl : bs.length ≤ 1099511627776) (hn : nextB bs = none) :
  Fun Tryz.prog w0 76 [.slice base k c] A (Ru w0 (.tuple #[.slice none 0 0, .bool false]) A) := by
 have hlt := num4_lt bs
 have hb : ∀ i : Nat, (bs.getD i 0).toNat < 256 := fun i => (bs.getD i 0).toNat_lt
 have hb0 := hb 0; have hb1 := hb 1; have hb2 := hb 2; have hb3 := hb 3
 have hnum : ((bs.getD 0 0).toNat : Int) + 256 * ((bs.getD 1 0).toNat : Int) + 65536 * ((bs.getD 2 0).toNat : Int) + 16777216 * ((bs.getD 3 0).toNat : Int) = (num4 bs : Nat) := by unfold num4; omega
 unfold nextB at hn
 refine Fun.enter Tryz.func76 rfl Tryz.ntmps76 rfl ?_
 refine wS $ wR $ yS rfl $ yB rfl $ wN $ tN $ wS $ wS $ wR $ zS rfl $ sv (vlen Tryz.underlying108 rfl) $ sv (vlt rfl rfl) $ wN $ tN $ ?_
 refine WC.ite rfl (fun h1 => ?_) (fun h1 => ?_)
 ·
  exact wS $ wR $ yS rfl $ yB rfl $ wN $ tN $ WC.ret $ tR $ WX.ret2 rfl (()) (trivial) rfl (fun _ h => h)
 ·
  rw [if_neg (by omega)] at hn
  refine WC.skip $ tN $ wS $ WC.draws rfl (by kernel_rfl) $ qv (vmS rfl) $ qv (vix1 Tryz.underlying108 sz5 rfl rfl (by omega) (by omega) hR (by simp; omega)) $ qv (vldo pl5 rfl hR (u8s_at0 (i := 0) (by omega))) $ qv (vcw is5 Tryz.underlying3 rfl (w64 (by omega))) $ qv (vmS rfl) $ qv (vix1 Tryz.underlying108 sz5 rfl rfl (by omega) (by omega) hR (by simp; omega)) $ qv (vldo pl5 rfl hR (u8s_at0 (i := 1) (by omega))) $ qv (vcw is5 Tryz.underlying3 rfl (w64 (by omega))) $ qv (vmul rfl rfl (by omega)) $ qv (vadd rfl rfl (by omega)) $ qv (vmS rfl) $ qv (vix1 Tryz.underlying108 sz5 rfl rfl (by omega) (by omega) hR (by simp; omega)) $ qv (vldo pl5 rfl hR (u8s_at0 (i := 2) (by omega))) $ qv (vcw is5 Tryz.underlying3 rfl (w64 (by omega))) $ qv (vmul rfl rfl (by omega)) $ qv (vadd rfl rfl (by omega)) $ qv (vmS rfl) $ qv (vix1 Tryz.underlying108 sz5 rfl rfl (by omega) (by omega) hR (by simp; omega)) $ qv (vldo pl5 rfl hR (u8s_at0 (i := 3) (by omega))) $ qv (vcw is5 Tryz.underlying3 rfl (w64 (by omega))) $ qv (vmul rfl rfl (by omega)) $ qv (vw (vadd rfl rfl (by omega)) (iv hnum)) $ qv (vaI rfl) $ WQ.nil $ tN $ wS $ ?_
  refine WC.cut0 [(40, .bool (decide ((1048576 : Int) < (num4 bs : Nat) ∨ (bs.length : Int) - 8 < (num4 bs : Nat))))] [(0, .slice _ _ _), (4, .int _ _)] (A) ⟨rfl, rfl, trivial⟩ ?_ fun ρh => ?_
  ·
   refine wR $ zI rfl $ svs (vgt rfl rfl) (fun q1 => ?_) (fun q1 => ?_)
   ·
    exact zB rfl $ sng rfl $ sng rfl $ sng rfl $ sng rfl $ sng rfl $ uT rfl $ wN $ xM () trivial ⟨bTa, trivial⟩ ⟨rfl, rfl, trivial⟩ (fun _ h => h)
   ·
    exact zB rfl $ svg rfl (vmI rfl) $ svg rfl (vmS rfl) $ svg rfl (vlen Tryz.underlying108 rfl) $ svg rfl (vsub rfl rfl (by omega)) $ svg rfl (vgt rfl rfl) $ uF rfl $ wN $ xM () trivial ⟨bIa, trivial⟩ ⟨rfl, rfl, trivial⟩ (fun _ h => h)
  refine WC.ite rfl (fun h2 => ?_) (fun h2 => ?_)
  ·
   exact wS $ wR $ yS rfl $ yB rfl $ wN $ tN $ WC.ret $ tR $ WX.ret2 rfl (()) (trivial) rfl (fun _ h => h)
  ·
   rw [if_neg (by omega)] at hn
   have hiff := first_iff (b := bs) (by omega) (by omega)
   refine WC.skip $ tN $ wS $ wR $ zS rfl $ zI rfl $ sv (vadd rfl rfl (by omega)) $ sv (vslLH Tryz.underlying108 sz5 rfl rfl rfl (by omega) (by omega) (by omega)) $ cl (ref_frame (bs := (bs.drop 8).take (num4 bs)) (rdb hR 8 c (num4 bs) (by omega)) (by rw [List.length_take, List.length_drop]; omega) (by rw [List.length_take]; omega)) ct86 rfl fun r5 hr5 => yS rfl $ wN $ tN $ wS $ wS $ wR $ yI rfl $ wN $ tN $ WC.block $ ?_
   refine WC.loop (ι := Nat) (fun i => [(6, .int .i64 i)]) [(0, .slice _ _ _), (4, .int _ _), (5, .slice _ _ _)] (fun i => row r5.1 r5.2 1 5 (u8s (frameB ((bs.drop 8).take (num4 bs)))) :: A) (fun i => i ≤ 8 ∧ ∀ k, k < i → (frameB ((bs.drop 8).take (num4 bs))).getD k 0 = bs.getD k 0) (fun i => 8 - i) (0) (⟨by omega, fun k h => by omega⟩) ⟨rfl, trivial⟩ ⟨rfl, rfl, rfl, trivial⟩ (fun _ h => h) ?_
   intro i hi ρh
   refine wS $ wS $ wR $ zI rfl $ sv (vlt rfl rfl) $ wN $ tN $ ?_
   refine WC.ite rfl (fun h3 => ?_) (fun h3 => ?_)
   ·
    have hfl := frameB_len ((bs.drop 8).take (num4 bs))
    refine WC.skip $ tN $ wS $ WC.block $ wS $ WC.draws rfl (by kernel_rfl) $ qv (vmS rfl) $ qv (vmI rfl) $ qv (vix1 Tryz.underlying108 sz5 rfl rfl (by omega) (by omega) reads (by simp; omega)) $ qv (vldo pl5 rfl reads (u8s_at0 (by omega))) $ qv (vmS rfl) $ qv (vmI rfl) $ qv (vix1 Tryz.underlying108 sz5 rfl rfl (by omega) (by omega) hR.cons (by simp; omega)) $ qv (vldo pl5 rfl hR.cons (u8s_at0 (by omega))) $ qv (vne rfl rfl) $ WQ.nil $ tN $ ?_
    refine WC.ite rfl (fun h4 => ?_) (fun h4 => ?_)
    ·
     exact wS $ wR $ yS rfl $ yB rfl $ wN $ tN $ WC.ret $ WX.blockR $ tR $ tR $ WX.blockR $ tR $ WX.ret2 rfl (()) (trivial) rfl (fun w h => h.tail)
    ·
     exact WC.skip $ WX.blockN $ tN $ wR $ zI rfl $ sv (vadd rfl rfl (by omega)) $ yI rfl $ wN $ WX.again (i + 1) (⟨by omega, fun k hk => by rcases Nat.lt_succ_iff_lt_or_eq.1 hk with h | rfl; exact hi.2 k h; exact byte_ne h4⟩) (by omega) ⟨rfl, trivial⟩ ⟨rfl, rfl, rfl, trivial⟩ (fun _ h => h)
   ·
    exact absurd hn (by rw [if_neg (fun h => h (hiff.1 fun k hk => hi.2 k (by omega)))]; simp)
theorem ref_first_some {base : Option Addr} {c k m : Nat} {bs : List UInt8} (hR : RdC w0 A base (u8s bs)) (hk : k = bs.length) (hc : bs.length ≤ c) (hbl : bs.length ≤ 1099511627776) (hn : nextB bs = some m) :
  Fun Tryz.prog w0 76 [.slice base k c] A (Ru w0 (.tuple #[.slice (slB base 8 c 1) m (c - 8), .bool true]) A) := by
 have hlt := num4_lt bs
 have hb : ∀ i : Nat, (bs.getD i 0).toNat < 256 := fun i => (bs.getD i 0).toNat_lt
 have hb0 := hb 0; have hb1 := hb 1; have hb2 := hb 2; have hb3 := hb 3
 have hnum : ((bs.getD 0 0).toNat : Int) + 256 * ((bs.getD 1 0).toNat : Int) + 65536 * ((bs.getD 2 0).toNat : Int) + 16777216 * ((bs.getD 3 0).toNat : Int) = (num4 bs : Nat) := by unfold num4; omega
 have hle := nextB_le hn
 unfold nextB at hn
 refine Fun.enter Tryz.func76 rfl Tryz.ntmps76 rfl ?_
 refine wS $ wR $ yS rfl $ yB rfl $ wN $ tN $ wS $ wS $ wR $ zS rfl $ sv (vlen Tryz.underlying108 rfl) $ sv (vlt rfl rfl) $ wN $ tN $ ?_
 refine WC.ite rfl (fun h1 => ?_) (fun h1 => ?_)
 ·
  exact absurd hn (by rw [if_pos (by omega)]; simp)
 ·
  rw [if_neg (by omega)] at hn
  refine WC.skip $ tN $ wS $ WC.draws rfl (by kernel_rfl) $ qv (vmS rfl) $ qv (vix1 Tryz.underlying108 sz5 rfl rfl (by omega) (by omega) hR (by simp; omega)) $ qv (vldo pl5 rfl hR (u8s_at0 (i := 0) (by omega))) $ qv (vcw is5 Tryz.underlying3 rfl (w64 (by omega))) $ qv (vmS rfl) $ qv (vix1 Tryz.underlying108 sz5 rfl rfl (by omega) (by omega) hR (by simp; omega)) $ qv (vldo pl5 rfl hR (u8s_at0 (i := 1) (by omega))) $ qv (vcw is5 Tryz.underlying3 rfl (w64 (by omega))) $ qv (vmul rfl rfl (by omega)) $ qv (vadd rfl rfl (by omega)) $ qv (vmS rfl) $ qv (vix1 Tryz.underlying108 sz5 rfl rfl (by omega) (by omega) hR (by simp; omega)) $ qv (vldo pl5 rfl hR (u8s_at0 (i := 2) (by omega))) $ qv (vcw is5 Tryz.underlying3 rfl (w64 (by omega))) $ qv (vmul rfl rfl (by omega)) $ qv (vadd rfl rfl (by omega)) $ qv (vmS rfl) $ qv (vix1 Tryz.underlying108 sz5 rfl rfl (by omega) (by omega) hR (by simp; omega)) $ qv (vldo pl5 rfl hR (u8s_at0 (i := 3) (by omega))) $ qv (vcw is5 Tryz.underlying3 rfl (w64 (by omega))) $ qv (vmul rfl rfl (by omega)) $ qv (vw (vadd rfl rfl (by omega)) (iv hnum)) $ qv (vaI rfl) $ WQ.nil $ tN $ wS $ ?_
  refine WC.cut0 [(40, .bool (decide ((1048576 : Int) < (num4 bs : Nat) ∨ (bs.length : Int) - 8 < (num4 bs : Nat))))] [(0, .slice _ _ _), (4, .int _ _)] (A) ⟨rfl, rfl, trivial⟩ ?_ fun ρh => ?_
  ·
   refine wR $ zI rfl $ svs (vgt rfl rfl) (fun q1 => ?_) (fun q1 => ?_)
   ·
    exact zB rfl $ sng rfl $ sng rfl $ sng rfl $ sng rfl $ sng rfl $ uT rfl $ wN $ xM () trivial ⟨bTa, trivial⟩ ⟨rfl, rfl, trivial⟩ (fun _ h => h)
   ·
    exact zB rfl $ svg rfl (vmI rfl) $ svg rfl (vmS rfl) $ svg rfl (vlen Tryz.underlying108 rfl) $ svg rfl (vsub rfl rfl (by omega)) $ svg rfl (vgt rfl rfl) $ uF rfl $ wN $ xM () trivial ⟨bIa, trivial⟩ ⟨rfl, rfl, trivial⟩ (fun _ h => h)
  refine WC.ite rfl (fun h2 => ?_) (fun h2 => ?_)
  ·
   exact absurd hn (by rw [if_pos (by omega)]; simp)
  ·
   rw [if_neg (by omega)] at hn
   have hm : m = num4 bs := by split at hn <;> simp at hn; exact hn.symm
   have hsum : sum (bs.take 4 ++ (bs.drop 8).take (num4 bs)) = num4 (bs.drop 4) := by split at hn; cases hn; rename_i h; simpa using h
   have hiff := (first_iff (b := bs) (by omega) (by omega)).2 hsum
   refine WC.skip $ tN $ wS $ wR $ zS rfl $ zI rfl $ sv (vadd rfl rfl (by omega)) $ sv (vslLH Tryz.underlying108 sz5 rfl rfl rfl (by omega) (by omega) (by omega)) $ cl (ref_frame (bs := (bs.drop 8).take (num4 bs)) (rdb hR 8 c (num4 bs) (by omega)) (by rw [List.length_take, List.length_drop]; omega) (by rw [List.length_take]; omega)) ct86 rfl fun r5 hr5 => yS rfl $ wN $ tN $ wS $ wS $ wR $ yI rfl $ wN $ tN $ WC.block $ ?_
   refine WC.loop (ι := Nat) (fun i => [(6, .int .i64 i)]) [(0, .slice _ _ _), (4, .int _ _), (5, .slice _ _ _)] (fun i => row r5.1 r5.2 1 5 (u8s (frameB ((bs.drop 8).take (num4 bs)))) :: A) (fun i => i ≤ 8 ∧ ∀ k, k < i → (frameB ((bs.drop 8).take (num4 bs))).getD k 0 = bs.getD k 0) (fun i => 8 - i) (0) (⟨by omega, fun k h => by omega⟩) ⟨rfl, trivial⟩ ⟨rfl, rfl, rfl, trivial⟩ (fun _ h => h) ?_
   intro i hi ρh
   refine wS $ wS $ wR $ zI rfl $ sv (vlt rfl rfl) $ wN $ tN $ ?_
   refine WC.ite rfl (fun h3 => ?_) (fun h3 => ?_)
   ·
    have hfl := frameB_len ((bs.drop 8).take (num4 bs))
    refine WC.skip $ tN $ wS $ WC.block $ wS $ WC.draws rfl (by kernel_rfl) $ qv (vmS rfl) $ qv (vmI rfl) $ qv (vix1 Tryz.underlying108 sz5 rfl rfl (by omega) (by omega) reads (by simp; omega)) $ qv (vldo pl5 rfl reads (u8s_at0 (by omega))) $ qv (vmS rfl) $ qv (vmI rfl) $ qv (vix1 Tryz.underlying108 sz5 rfl rfl (by omega) (by omega) hR.cons (by simp; omega)) $ qv (vldo pl5 rfl hR.cons (u8s_at0 (by omega))) $ qv (vne rfl rfl) $ WQ.nil $ tN $ ?_
    refine WC.ite rfl (fun h4 => ?_) (fun h4 => ?_)
    ·
     exact absurd (congrArg (fun x : UInt8 => (x.toNat : Int)) (hiff i (by omega))) h4
    ·
     exact WC.skip $ WX.blockN $ tN $ wR $ zI rfl $ sv (vadd rfl rfl (by omega)) $ yI rfl $ wN $ WX.again (i + 1) (⟨by omega, fun k hk => by rcases Nat.lt_succ_iff_lt_or_eq.1 hk with h | rfl; exact hi.2 k h; exact byte_ne h4⟩) (by omega) ⟨rfl, trivial⟩ ⟨rfl, rfl, rfl, trivial⟩ (fun _ h => h)
   ·
    exact WC.exit $ WX.thenE $ WX.thenE $ WX.blockH $ tN $ wS $ wR $ zS rfl $ zI rfl $ sv (vadd rfl rfl (by omega)) $ sv (vslLH Tryz.underlying108 sz5 rfl rfl rfl (by omega) (by omega) (by omega)) $ yS rfl $ yB rfl $ wN $ tN $ WC.ret $ WX.ret2 rfl (()) (trivial) (first_val rfl (by rw [nat8, hm]; show 8 + num4 bs - 8 = _; omega) rfl) (fun w h => h.tail)
theorem all_val {b1 b1' : Value} {n n' : Int} (e0 : b1 = b1') (e1 : n = n') : Value.tuple #[b1, .int .i64 n] = .tuple #[b1', .int .i64 n'] := by rw [e0, e1]
structure AlI where
 done : List (Sla UInt8)
 at_ : Nat
 qb : Option Addr
 qc : Nat
structure AlR (bs : List UInt8) (i : AlI) : Prop where
 recs : i.done.map (·.xs) ++ (recsB (bs.drop i.at_)).1 = (recsB bs).1
 left : (recsB (bs.drop i.at_)).2 = (recsB bs).2
 le : i.at_ ≤ bs.length
 len : i.done.length ≤ i.at_
 qcap : i.done.length ≤ i.qc
theorem ref_all {base : Option Addr} {c k : Nat} {bs : List UInt8} (hR : RdC w0 A base (u8s bs)) (hk : k = bs.length) (hc : bs.length ≤ c) (hbl : bs.length ≤ 1073741824) :
  Fun Tryz.prog w0 49 [.slice base k c] A
   (Ret w0 (fun i : Option Addr × Nat × List (Sla UInt8) => i.2.2.map (·.xs) = (recsB bs).1 ∧ i.2.2.length ≤ i.2.1) (fun i => .tuple #[.slice i.1 i.2.2.length i.2.1, .int .i64 (flat (recsB bs).1).length])
    (fun i => row i.1 i.2.1 1 108 (bss i.2.2) :: rows 5 i.2.2 :: A)) := by
 have hwh := congrArg List.length (recsB_whole bs)
 rw [List.length_append] at hwh
 refine Fun.enter Tryz.func49 rfl Tryz.ntmps49 rfl ?_
 refine wS $ wR $ yS rfl $ yI rfl $ wN $ tN $ wS $ wR $ yS rfl $ wN $ tN $ wS $ wR $ yI rfl $ wN $ tN $ WC.block $ ?_
 refine WC.loop (ι := AlI) (fun i => [(4, .slice i.qb i.done.length i.qc), (5, .int .i64 i.at_)]) [(0, .slice _ _ _)] (fun i => row i.qb i.qc 1 108 (bss i.done) :: rows 5 i.done :: A) (fun i => AlR bs i) (fun i => bs.length - i.at_) (⟨[], 0, none, 0⟩) (⟨by simp, by simp, by simp, by simp, by simp⟩) ⟨rfl, rfl, trivial⟩ ⟨rfl, trivial⟩ (fun w h => Own.intro_row_nil (Own.intro_emp h)) ?_
 rintro ⟨done, at_, qb, qc⟩ ⟨u1, u2, u3, u4, u5⟩ ρh
 dsimp only at u1 u2 u3 u4 u5 ⊢
 have hdl : (bs.drop at_).length = bs.length - at_ := List.length_drop
 have hrd : RdC w0 A (slB base at_ c 1) (u8s (bs.drop at_)) := rdbL hR at_ c hc
 rcases hn : nextB (bs.drop at_) with _ | m
 ·
  have hrs := recsB_none hn
  rw [hrs] at u1 u2
  dsimp only at u1 u2
  rw [List.append_nil] at u1
  rw [← u2, hdl] at hwh
  refine WC.block $ wS $ wR $ zS rfl $ zI rfl $ sv (vslL Tryz.underlying108 sz5 rfl rfl (by omega) (by omega)) $ cl (ref_first_none hrd.cons.cons (by rw [hdl]; omega) (by rw [hdl]; omega) (by rw [hdl]; omega) hn) ct76 rfl fun _ _ => sv vmv $ sv (vex rfl rfl) $ sv (vex rfl rfl) $ yS rfl $ yB rfl $ wN $ tN $ wS $ wS $ wR $ zB rfl $ sv (vnot rfl) $ wN $ tN $ ?_
  refine WC.tt rfl ?_
  exact wS $ wR $ zS rfl $ zI rfl $ yS rfl $ yI rfl $ wN $ tN $ WC.ret $ tR $ WX.blockR $ tR $ WX.blockR $ WX.ret2 rfl ((qb, qc, done)) (⟨u1, u5⟩) (all_val rfl (by omega)) (fun _ h => h)
 ·
  have hle := nextB_le hn
  have hrs := recsB_some hn
  rw [hdl] at hle
  have hml : (((bs.drop at_).drop 8).take m).length = m := by rw [List.length_take, List.length_drop, hdl]; omega
  refine WC.block $ wS $ wR $ zS rfl $ zI rfl $ sv (vslL Tryz.underlying108 sz5 rfl rfl (by omega) (by omega)) $ cl (ref_first_some hrd.cons.cons (by rw [hdl]; omega) (by rw [hdl]; omega) (by rw [hdl]; omega) hn) ct76 rfl fun _ _ => sv vmv $ sv (vex rfl rfl) $ sv (vex rfl rfl) $ yS rfl $ yB rfl $ wN $ tN $ wS $ wS $ wR $ zB rfl $ sv (vnot rfl) $ wN $ tN $ ?_
  refine WC.ff rfl ?_
  refine WC.skip $ tN $ wS $ wR $ bsl0 Tryz.underlying108 zt5 fun b3 => yS rfl $ wN $ tN $ wS $ wR $ zS rfl $ zS rfl $ apb Tryz.underlying108 zt5 rfl rfl (by simp) (by rw [hml]) (rdb hrd 8 (c - at_) m (by omega)).cons.cons.cons (by omega) fun base4 c4 hc4 =>yS rfl $ wN $ tN $ wS $ wR $ zS rfl $ zS rfl $ pm (fun _ h => h.pk1) $ ap1 (v := .slice _ _ _) Tryz.underlying69 zt108 rfl (fun _ => rfl) (fun _ => rfl) rfl rfl rfl (by rw [bss_length]) (by simp only [maxLen]; omega) (by omega) fun _ base6 c6 hc6 =>yS rfl $ wN $ tN $ wR $ zI rfl $ sv (vadd rfl rfl (by omega)) $ zS rfl $ sv (vlen Tryz.underlying108 rfl) $ sv (vadd rfl rfl (by omega)) $ yI rfl $ wN $ WX.blockN $ WX.again (⟨done ++ [⟨base4, ((bs.drop at_).drop 8).take m, c4⟩], at_ + 8 + m, base6, c6⟩) (⟨by dsimp only; rw [List.map_append, ← u1, hrs, List.drop_drop]; simp [Nat.add_assoc], by dsimp only; rw [← u2, hrs, List.drop_drop]; simp [Nat.add_assoc], by dsimp only; omega, by simp only [List.length_append, List.length_cons, List.length_nil]; omega, by rw [List.length_append]; exact hc6⟩) (by dsimp only; omega) ⟨by show Value.slice _ _ _ = Value.slice _ _ _; rw [List.length_append]; rfl, by show Value.int _ _ = Value.int _ _; rw [show ((at_ + 8 + m : Nat) : Int) = (at_ : Int) + 8 + (m : Int) by omega], trivial⟩ ⟨rfl, trivial⟩ (fun w h => ?_)
  rw [bss_snoc]
  dsimp only
  rw [hml]
  simp only [List.length_nil, Nat.zero_add] at h
  exact (rows_snoc (y := ⟨base4, ((bs.drop at_).drop 8).take m, c4⟩) (h.ix [1, 2, 0])).ix [1, 0]
end Go.Proofs.YtigjompojlhomaaGreat
end
section
set_option linter.unusedVariables false
set_option linter.unusedSimpArgs false
set_option maxRecDepth 4000
namespace Go.Proofs.YtigjompojlhomaaGreat
open Go.Sl Go.RowKit
variable {w0 : World} {A : List HProp}
structure RF where
  name : ByteArray
  b : Sla UInt8
  safe : Nat
def fcells (l : List RF) : List Value := l.flatMap fun x => [.string x.name, .slice x.b.base x.b.xs.length x.b.cap, .int .i64 x.safe]
def lookR : List RF → ByteArray → Option (List UInt8 × Nat)
  | [], _ => none
  | x :: l, k => if x.name = k then some (x.b.xs, x.safe) else lookR l k
def nless (a b : ByteArray) : Prop := Op.bytesLess a.toList b.toList = true
structure RRep (l : List RF) (st : DSt) : Prop where
  sorted : (l.map (·.name)).Pairwise nless
  look : ∀ k, lookR l k = st.files k
  ok : ∀ x ∈ l, x.safe ≤ x.b.xs.length ∧ x.b.xs.length ≤ 16777216 ∧ x.b.xs.length ≤ x.b.cap
  fuse : 0 ≤ st.fuse ∧ st.fuse ≤ 9223372036854775807
abbrev rcells (base : Option Addr) (n c : Nat) (st : DSt) : List Value := [.slice base n c, .bool st.off, .int .i64 st.fuse, .int .i64 st.keep, .int .i64 st.deeds]
def rdisk (r N : Nat) (st : DSt) : HProp := fun h => ∃ base c l, RRep l st ∧ (l.length ≤ c ∧ l.length ≤ N) ∧ star (cel r (rcells base l.length c st) 64) (star (row base c 3 153 (fcells l)) (rows 5 (l.map (·.b)))) h
theorem rdisk_open {w0 w : World} {r N : Nat} {st : DSt} {A : List HProp} (H : Own w0 (rdisk r N st :: A) w) :
    ∃ x : Option Addr × Nat × List RF, (RRep x.2.2 st ∧ (x.2.2.length ≤ x.2.1 ∧ x.2.2.length ≤ N)) ∧ Own w0 (cel r (rcells x.1 x.2.2.length x.2.1 st) 64 :: row x.1 x.2.1 3 153 (fcells x.2.2) :: rows 5 (x.2.2.map (·.b)) :: A) w := by
  obtain ⟨hb, h, ⟨h1, h2, ⟨base, c, l, hc, hl, a⟩, a2, dd, x⟩, hw⟩ := H
  have h3 : Own w0 (star (cel r (rcells base l.length c st) 64) (star (row base c 3 153 (fcells l)) (rows 5 (l.map (·.b)))) :: A) w := ⟨hb, h, ⟨h1, h2, a, a2, dd, x⟩, hw⟩
  exact ⟨(base, c, l), ⟨hc, hl⟩, h3.star.pk1.star.pk2⟩
theorem rdisk_mk {w0 w : World} {r c N : Nat} {base : Option Addr} {st : DSt} {l : List RF} {A : List HProp} (hl : RRep l st) (hc : l.length ≤ c ∧ l.length ≤ N) (H : Own w0 (cel r (rcells base l.length c st) 64 :: row base c 3 153 (fcells l) :: rows 5 (l.map (·.b)) :: A) w) :
    Own w0 (rdisk r N st :: A) w := H.pk2.pk2.intro_star.pk1.intro_star.head fun _ h => ⟨base, c, l, hl, hc, h⟩
theorem RRep.new : RRep [] newD := ⟨by simp, fun _ => rfl, by simp, by simp [newD]⟩
theorem RRep.same {l : List RF} {st st' : DSt} (h : RRep l st) (hf : st'.files = st.files) (hu : 0 ≤ st'.fuse ∧ st'.fuse ≤ 9223372036854775807) : RRep l st' := ⟨h.sorted, fun k => by rw [h.look, hf], h.ok, hu⟩
theorem nless_iff {a b : ByteArray} : nless a b ↔ a.toList < b.toList := by unfold nless; rw [bytesLess_eq]; simp
theorem nless_ne {a b : ByteArray} (h : nless a b) : a ≠ b := by
  rintro rfl
  rw [nless_iff] at h
  exact List.lt_irrefl _ h
theorem RRep.nodup {l : List RF} {st : DSt} (h : RRep l st) : (l.map (·.name)).Nodup := h.sorted.imp fun h => nless_ne h
theorem fcells_length (l : List RF) : (fcells l).length = l.length * 3 := by
  induction l with
  | nil => rfl
  | cons x l ih => have e : fcells (x :: l) = [.string x.name, .slice x.b.base x.b.xs.length x.b.cap, .int .i64 x.safe] ++ fcells l := rfl
                   rw [e, List.length_append, ih]; simp; omega
theorem fcells_at : ∀ {l : List RF} {i k : Nat} {x : RF}, l[i]? = some x → k < 3 → (fcells l)[i * 3 + k]? = [Value.string x.name, .slice x.b.base x.b.xs.length x.b.cap, .int .i64 x.safe][k]?
  | [], _, _, _, h, _ => by simp at h
  | y :: l, 0, k, x, h, hk => by
    simp at h; subst h
    have e : fcells (y :: l) = [.string y.name, .slice y.b.base y.b.xs.length y.b.cap, .int .i64 y.safe] ++ fcells l := rfl
    rw [e, Nat.zero_mul, Nat.zero_add, List.getElem?_append_left (by simpa using hk)]
  | y :: l, i + 1, k, x, h, hk => by
    have e : fcells (y :: l) = [.string y.name, .slice y.b.base y.b.xs.length y.b.cap, .int .i64 y.safe] ++ fcells l := rfl
    rw [e, List.getElem?_append_right (by simp; omega)]
    have e2 : (i + 1) * 3 + k - [Value.string y.name, .slice y.b.base y.b.xs.length y.b.cap, .int .i64 y.safe].length = i * 3 + k := by simp; omega
    rw [e2]
    exact fcells_at (by simpa using h) hk
theorem fc0 {l : List RF} {i : Nat} {x : RF} (h : l[i]? = some x) : (fcells l)[((i : Int)).toNat * 3 + 0]? = some (.string x.name) := by rw [Int.toNat_natCast, fcells_at h (by omega)]; rfl
theorem fc1 {l : List RF} {i : Nat} {x : RF} (h : l[i]? = some x) : (fcells l)[((i : Int)).toNat * 3 + 1]? = some (.slice x.b.base x.b.xs.length x.b.cap) := by rw [Int.toNat_natCast, fcells_at h (by omega)]; rfl
theorem fc2 {l : List RF} {i : Nat} {x : RF} (h : l[i]? = some x) : (fcells l)[((i : Int)).toNat * 3 + 2]? = some (.int .i64 x.safe) := by rw [Int.toNat_natCast, fcells_at h (by omega)]; rfl
theorem row_some {w0 w : World} {A : List HProp} {base : Option Addr} {c s : Nat} {e : TypeId} {vs : List Value} (hp : 0 < vs.length) (H : Own w0 (row base c s e vs :: A) w) : base.isSome = true := by
  rcases H.row with ⟨_, rfl, _⟩ | ⟨g, o, cur, rfl, _⟩
  · simp at hp
  · rfl
theorem ref_find {w0 : World} {R : List HProp} {r c : Nat} {base : Option Addr} {st : DSt} {l : List RF} {nm : ByteArray} {v : Int} (hl : l.length ≤ 1099511627776) (k1 : ∀ (i : Nat) (x : RF), l[i]? = some x → x.name = nm → (∀ (k : Nat) (y : RF), k < i → l[k]? = some y → y.name ≠ nm) → v = i) (k2 : (∀ x ∈ l, x.name ≠ nm) → v = -1) :
    Fun Tryz.prog w0 75 [.pointer (some ⟨r, 0, none⟩), .string nm] (cel r (rcells base l.length c st) 64 :: row base c 3 153 (fcells l) :: R)
      (Ru w0 (.int .i64 v) (cel r (rcells base l.length c st) 64 :: row base c 3 153 (fcells l) :: R)) := by
  refine Fun.enter Tryz.func75 rfl Tryz.ntmps75 rfl ?_
  refine wS $ wR $ yI rfl $ wN $ tN $ wS $ wS $ wR $ yI rfl $ wN $ tN $ WC.block $ ?_
  refine WC.loop (ι := Nat) (fun i => [(5, .int .i64 i)]) [(0, .pointer _), (1, .string _)] (fun i => cel r (rcells base l.length c st) 64 :: row base c 3 153 (fcells l) :: R) (fun i => i ≤ l.length ∧ ∀ (k : Nat) (y : RF), k < i → l[k]? = some y → y.name ≠ nm) (fun i => l.length - i) (0) (⟨by omega, fun k y h => by omega⟩) ⟨rfl, trivial⟩ ⟨rfl, rfl, trivial⟩ (fun _ h => h) ?_
  intro i hi ρh
  refine wS $ wS $ wR $ zI rfl $ zP rfl $ uN rfl $ sv (vfld fl64f0 rfl) $ sv (vldc pl62 rfl) $ sv (vlen Tryz.underlying62 rfl) $ sv (vlt rfl rfl) $ wN $ tN $ ?_
  refine WC.ite rfl (fun h1 => ?_) (fun h1 => ?_)
  ·
    have hil : i < l.length := by omega
    obtain ⟨x, hx⟩ : ∃ x, l[i]? = some x := ⟨_, List.getElem?_eq_getElem hil⟩
    have hpos : 0 < (fcells l).length := by rw [fcells_length]; omega
    have hf0 := fc0 hx
    refine WC.known (fun w h => row_some hpos h.pk1) fun hb => ?_
    refine WC.skip $ tN $ wS $ WC.block $ wS $ wR $ zP rfl $ uN rfl $ sv (vfld fl64f0 rfl) $ sv (vldc pl62 rfl) $ zI rfl $ sv (vix Tryz.underlying62 sz153 rfl rfl (by omega) (by omega) reads (hpos)) $ sv (vfldr (hb) fl153f0 rfl) $ sv (vldo pl9 rfl reads (hf0)) $ sv (vmT rfl) $ sv (veqs rfl rfl) $ wN $ tN $ ?_
    refine WC.ite rfl (fun h2 => ?_) (fun h2 => ?_)
    ·
      exact wS $ wR $ zI rfl $ yI rfl $ wN $ tN $ WC.ret $ WX.blockR $ tR $ tR $ WX.blockR $ tR $ xR rfl (()) (trivial) (iv (k1 i x hx h2 hi.2).symm) (fun _ h => h)
    ·
      exact WC.skip $ WX.blockN $ tN $ wR $ zI rfl $ sv (vadd rfl rfl (by omega)) $ yI rfl $ wN $ WX.again (i + 1) (⟨by omega, fun k y hk hy => by rcases Nat.lt_succ_iff_lt_or_eq.1 hk with h | rfl; exact hi.2 k y h hy; rw [hx] at hy; cases hy; exact h2⟩) (by omega) ⟨rfl, trivial⟩ ⟨rfl, rfl, trivial⟩ (fun _ h => h)
  ·
    refine WC.exit $ WX.thenE $ WX.thenE $ WX.blockH $ tN $ wS $ wR $ yI rfl $ wN $ tN $ WC.ret $ xR rfl (()) (trivial) (iv (k2 (fun x hx => by obtain ⟨k, hk⟩ := List.mem_iff_getElem?.1 hx; exact hi.2 k x (by have := (List.getElem?_eq_some_iff.1 hk).1; omega) hk)).symm) (fun _ h => h)
theorem ref_deed {w0 : World} {R : List HProp} {r c n : Nat} {base : Option Addr} {st : DSt} (hu : 0 ≤ st.fuse ∧ st.fuse ≤ 9223372036854775807) (hd : 0 ≤ st.deeds ∧ st.deeds + 1 ≤ 9223372036854775807) :
  Fun Tryz.prog w0 77 [.pointer (some ⟨r, 0, none⟩)] (cel r (rcells base n c st) 64 :: R)
   (Ru w0 (.bool (decide (st.fuse - 1 = 0))) (cel r (rcells base n c { st with deeds := st.deeds + 1, fuse := max (st.fuse - 1) 0 }) 64 :: R)) := by
 refine Fun.enter Tryz.func77 rfl Tryz.ntmps77 rfl ?_
 refine wS $ wR $ yB rfl $ wN $ tN $ wS $ wR $ zP rfl $ uN rfl $ sv (vfld fl64f4 rfl) $ sv (vldc pl3 rfl) $ sv (vadd rfl rfl (by omega)) $ uN rfl $ sv (vfld fl64f4 rfl) $ stc (v := .int _ _) pl3 sz3 rfl rfl rfl $ wN $ tN $ wS $ wS $ wR $ zP rfl $ uN rfl $ sv (vfld fl64f2 rfl) $ sv (vldc pl3 rfl) $ sv (vgt rfl rfl) $ wN $ tN $ ?_
 refine WC.ite rfl (fun h1 => ?_) (fun h1 => ?_)
 ·
  have e : max (st.fuse - 1) 0 = st.fuse - 1 := by omega
  rw [e]
  exact wS $ wR $ zP rfl $ uN rfl $ sv (vfld fl64f2 rfl) $ sv (vldc pl3 rfl) $ sv (vsub rfl rfl (by omega)) $ uN rfl $ sv (vfld fl64f2 rfl) $ stc (v := .int _ _) pl3 sz3 rfl rfl rfl $ wN $ tN $ wS $ wR $ zP rfl $ uN rfl $ sv (vfld fl64f2 rfl) $ sv (vldc pl3 rfl) $ sv (veq rfl rfl) $ yB rfl $ wN $ tN $ WC.ret $ tR $ xR rfl (()) (trivial) rfl (fun _ h => h)
 ·
  have e : max (st.fuse - 1) 0 = st.fuse := by omega
  rw [e]
  exact WC.skip $ tN $ wS $ wR $ yB rfl $ wN $ tN $ WC.ret $ xR rfl (()) (trivial) (bF (by omega)) (fun _ h => h)
theorem ref_arm {r N : Nat} {st : DSt} {x k : Int} (hx : x ≤ 9223372036854775807) :
  Fun Tryz.prog w0 62 [.pointer (some ⟨r, 0, none⟩), .int .i64 x, .int .i64 k] (rdisk r N st :: A) (Ru w0 (.tuple #[]) (rdisk r N { st with fuse := max x 0, keep := k } :: A)) := by
 refine Fun.ex (fun w h => rdisk_open h) ?_
 rintro ⟨base, c, l⟩ ⟨hl, hc⟩
 dsimp only at hl hc ⊢
 refine Fun.enter Tryz.func62 rfl Tryz.ntmps62 rfl ?_
 exact wS $ wR $ zP rfl $ zI rfl $ sv (vmax rfl rfl) $ uN rfl $ sv (vfld fl64f2 rfl) $ stc (v := .int _ _) pl3 sz3 rfl rfl rfl $ wN $ tN $ wR $ zP rfl $ zI rfl $ uN rfl $ sv (vfld fl64f3 rfl) $ stc (v := .int _ _) pl3 sz3 rfl rfl rfl $ wN $ WX.end0 rfl (()) (trivial) rfl (fun w h => rdisk_mk (hl.same rfl (by dsimp only; omega)) hc h)
def cutR (keep : Int) (x : RF) : RF := ⟨x.name, ⟨x.b.base, x.b.xs.take (keptOf keep (x.b.xs, x.safe)), x.b.cap⟩, keptOf keep (x.b.xs, x.safe)⟩
def cutI (keep : Int) (i : Nat) (l : List RF) : List RF := (l.take i).map (cutR keep) ++ l.drop i
theorem cutI_zero {keep : Int} {l : List RF} : cutI keep 0 l = l := by simp [cutI]
theorem cutI_length {keep : Int} {i : Nat} {l : List RF} : (cutI keep i l).length = l.length := by simp [cutI]; omega
theorem cutI_all {keep : Int} {l : List RF} : cutI keep l.length l = l.map (cutR keep) := by simp [cutI]
theorem cutI_at {keep : Int} {i : Nat} {l : List RF} {x : RF} (h : l[i]? = some x) : (cutI keep i l)[i]? = some x := by
 have hi := (List.getElem?_eq_some_iff.1 h).1
 have hl : ((l.take i).map (cutR keep)).length = i := by simp; omega
 unfold cutI
 rw [List.getElem?_append_right (by omega), hl, Nat.sub_self, List.getElem?_drop]
 simpa using h
theorem cutI_set {keep : Int} {i : Nat} {l : List RF} {x : RF} (h : l[i]? = some x) : (cutI keep i l).set i (cutR keep x) = cutI keep (i + 1) l := by
 have hi := (List.getElem?_eq_some_iff.1 h).1
 have hx : l[i] = x := (List.getElem?_eq_some_iff.1 h).2
 have hl : ((l.take i).map (cutR keep)).length = i := by simp; omega
 unfold cutI
 rw [List.take_succ_eq_append_getElem hi, List.map_append, List.set_append_right _ _ (by omega), hl, Nat.sub_self, List.drop_eq_getElem_cons hi, List.set_cons_zero, hx]
 simp
theorem fcells_set : ∀ {l : List RF} {i : Nat} {x y : RF}, l[i]? = some x → y.name = x.name → fcells (l.set i y) = ((fcells l).set (i * 3 + 1) (.slice y.b.base y.b.xs.length y.b.cap)).set (i * 3 + 2) (.int .i64 y.safe)
 | [], _, _, _, h, _ => by simp at h
 | z :: l, 0, x, y, h, hn => by
  simp at h; subst h
  have e1 : fcells (y :: l) = [.string y.name, .slice y.b.base y.b.xs.length y.b.cap, .int .i64 y.safe] ++ fcells l := rfl
  have e2 : fcells (z :: l) = [.string z.name, .slice z.b.base z.b.xs.length z.b.cap, .int .i64 z.safe] ++ fcells l := rfl
  rw [List.set_cons_zero, e1, e2, hn]
  rfl
 | z :: l, i + 1, x, y, h, hn => by
  have ih := fcells_set (l := l) (i := i) (x := x) (y := y) (by simpa using h) hn
  have e1 : ∀ m : List RF, fcells (z :: m) = [.string z.name, .slice z.b.base z.b.xs.length z.b.cap, .int .i64 z.safe] ++ fcells m := fun _ => rfl
  rw [List.set_cons_succ, e1, e1, ih]
  rw [List.set_append_right _ _ (by simp; omega), List.set_append_right _ _ (by simp; omega)]
  congr 2
  ·congr 1
   simp; omega
  ·simp; omega
theorem row_take {w0 w : World} {A : List HProp} {base : Option Addr} {c s : Nat} {e : TypeId} {vs : List Value} (k : Nat) (H : Own w0 (row base c s e vs :: A) w) : Own w0 (row base c s e (vs.take k) :: A) w := H.row_prefix (List.take_prefix _ _)
theorem row_len {w0 w : World} {A : List HProp} {base : Option Addr} {c s n : Nat} {e : TypeId} {vs : List Value} (H : Own w0 (row base c s e vs :: A) w) (hn : n ≤ c) : n ≤ maxLen := Nat.le_trans hn (row_le H).2
theorem rows_take {w0 w : World} {e : TypeId} (k : Nat) : ∀ {l : List (Sla UInt8)} {i : Nat} {x : Sla UInt8} {A : List HProp}, l[i]? = some x → Own w0 (rows e l :: A) w → Own w0 (rows e (l.set i ⟨x.base, x.xs.take k, x.cap⟩) :: A) w
 | [], _, _, _, h, _ => by simp at h
 | y :: l, 0, x, A, h, H => by
  simp at h; subst h
  have h1 := row_take k H.star
  rw [u8s_take] at h1
  exact h1.intro_star
 | y :: l, i + 1, x, A, h, H => by
  have h1 := H.star.pk1
  exact (rows_take k (l := l) (by simpa using h) h1).pk1.intro_star
theorem lookR_cut {keep : Int} {k : ByteArray} {l : List RF} : lookR (l.map (cutR keep)) k = (lookR l k).map (offV keep) := by
 induction l with
 | nil => rfl
 | cons z l ih =>
  simp only [List.map_cons, lookR]
  rw [ih]
  show (if z.name = k then _ else _) = _
  split <;> rfl
theorem RRep.offm {keep : Int} {l : List RF} {st : DSt} (h : RRep l st) (ho : st.off = false) : RRep (l.map (cutR keep)) (offS keep st) := by
 have ho' : ¬ st.off = true := by rw [ho]; decide
 unfold offS
 rw [if_neg ho']
 refine ⟨?_, fun k => ?_, fun z hz => ?_, h.fuse⟩
 ·rw [List.map_map]; exact h.sorted
 ·rw [lookR_cut, h.look]
 ·obtain ⟨x, hx, rfl⟩ := List.mem_map.1 hz
  have := h.ok x hx
  simp only [cutR, keptOf, List.length_take]
  omega
theorem ref_off_off {r N : Nat} {st : DSt} {keep : Int} (ho : st.off = true) :
  Fun Tryz.prog w0 63 [.pointer (some ⟨r, 0, none⟩), .int .i64 keep] (rdisk r N st :: A) (Ru w0 (.tuple #[]) (rdisk r N st :: A)) := by
 refine Fun.ex (fun w h => rdisk_open h) ?_
 rintro ⟨base, c, l⟩ ⟨hl, hc⟩
 dsimp only at hl hc ⊢
 obtain ⟨files, off, fuse, keep0, deeds⟩ := st
 obtain rfl : off = true := ho
 refine Fun.enter Tryz.func63 rfl Tryz.ntmps63 rfl ?_
 refine wS $ wS $ wR $ yI rfl $ wN $ tN $ WC.block $ ?_
 refine WC.loop (ι := Nat) (fun i => [(4, .int .i64 i)]) [(0, .pointer _), (1, .int _ _)] (fun i => cel r (rcells base l.length c ⟨files, true, fuse, keep0, deeds⟩) 64 :: row base c 3 153 (fcells l) :: rows 5 (l.map (·.b)) :: A) (fun i => i = 0) (fun i => 0) (0) (rfl) ⟨rfl, trivial⟩ ⟨rfl, rfl, trivial⟩ (fun _ h => h) ?_
 intro i hi ρh
 refine wS $ ?_
 refine WC.cut0 [(19, .bool false)] [(0, .pointer _), (1, .int _ _), (4, .int _ _)] (cel r (rcells base l.length c ⟨files, true, fuse, keep0, deeds⟩) 64 :: row base c 3 153 (fcells l) :: rows 5 (l.map (·.b)) :: A) ⟨rfl, rfl, rfl, trivial⟩ ?_ fun ρh => ?_
 ·
  refine wR $ zI rfl $ zP rfl $ uN rfl $ sv (vfld fl64f0 rfl) $ sv (vldc pl62 rfl) $ sv (vlen Tryz.underlying62 rfl) $ svs (vlt rfl rfl) (fun q1 => ?_) (fun q1 => ?_)
  ·
   exact zB rfl $ svg rfl (vmP rfl) $ svg rfl (vnil rfl) $ svg rfl (vfld fl64f1 rfl) $ svg rfl (vldc pl4 rfl) $ svg rfl (vnot rfl) $ uT rfl $ wN $ xM () trivial ⟨rfl, trivial⟩ ⟨rfl, rfl, rfl, trivial⟩ (fun _ h => h)
  ·
   exact zB rfl $ sng rfl $ sng rfl $ sng rfl $ sng rfl $ sng rfl $ uF rfl $ wN $ xM () trivial ⟨rfl, trivial⟩ ⟨rfl, rfl, rfl, trivial⟩ (fun _ h => h)
 refine WC.ff rfl ?_
 exact WC.exit $ WX.thenE $ WX.thenE $ WX.blockH $ tN $ wR $ zP rfl $ uN rfl $ sv (vfld fl64f1 rfl) $ stc (v := .bool _) pl4 sz4 rfl rfl rfl $ wN $ WX.end0 rfl (()) (trivial) rfl (fun w h => rdisk_mk hl hc h)
theorem ref_off_on {r N : Nat} {st : DSt} {keep : Int} (ho : st.off = false) :
  Fun Tryz.prog w0 63 [.pointer (some ⟨r, 0, none⟩), .int .i64 keep] (rdisk r N st :: A) (Ru w0 (.tuple #[]) (rdisk r N (offS keep st) :: A)) := by
 refine Fun.ex (fun w h => rdisk_open h) ?_
 rintro ⟨base, c, l⟩ ⟨hl, hc⟩
 dsimp only at hl hc ⊢
 obtain ⟨files, off, fuse, keep0, deeds⟩ := st
 obtain rfl : off = false := ho
 refine Fun.known (p := l.length ≤ maxLen) (fun w h => row_len h.pk1 hc.1) fun hlen => ?_
 simp only [maxLen] at hlen
 refine Fun.enter Tryz.func63 rfl Tryz.ntmps63 rfl ?_
 refine wS $ wS $ wR $ yI rfl $ wN $ tN $ WC.block $ ?_
 refine WC.loop (ι := Nat) (fun i => [(4, .int .i64 i)]) [(0, .pointer _), (1, .int _ _)] (fun i => cel r (rcells base l.length c ⟨files, false, fuse, keep0, deeds⟩) 64 :: row base c 3 153 (fcells (cutI keep i l)) :: rows 5 ((cutI keep i l).map (·.b)) :: A) (fun i => i ≤ l.length) (fun i => l.length - i) (0) (by omega) ⟨rfl, trivial⟩ ⟨rfl, rfl, trivial⟩ (fun w h => by rw [cutI_zero]; exact h) ?_
 intro i hi ρh
 refine wS $ ?_
 refine WC.cut0 [(19, .bool (decide ((i : Int) < l.length)))] [(0, .pointer _), (1, .int _ _), (4, .int _ _)] (cel r (rcells base l.length c ⟨files, false, fuse, keep0, deeds⟩) 64 :: row base c 3 153 (fcells (cutI keep i l)) :: rows 5 ((cutI keep i l).map (·.b)) :: A) ⟨rfl, rfl, rfl, trivial⟩ ?_ fun ρh => ?_
 ·
  refine wR $ zI rfl $ zP rfl $ uN rfl $ sv (vfld fl64f0 rfl) $ sv (vldc pl62 rfl) $ sv (vlen Tryz.underlying62 rfl) $ svs (vlt rfl rfl) (fun q1 => ?_) (fun q1 => ?_)
  ·
   exact zB rfl $ svg rfl (vmP rfl) $ svg rfl (vnil rfl) $ svg rfl (vfld fl64f1 rfl) $ svg rfl (vldc pl4 rfl) $ svg rfl (vnot rfl) $ uT rfl $ wN $ xM () trivial ⟨bT (by omega), trivial⟩ ⟨rfl, rfl, rfl, trivial⟩ (fun _ h => h)
  ·
   exact zB rfl $ sng rfl $ sng rfl $ sng rfl $ sng rfl $ sng rfl $ uF rfl $ wN $ xM () trivial ⟨bFa, trivial⟩ ⟨rfl, rfl, rfl, trivial⟩ (fun _ h => h)
 refine WC.ite rfl (fun h1 => ?_) (fun h1 => ?_)
 ·
  obtain ⟨x, hx⟩ : ∃ x, l[i]? = some x := ⟨_, List.getElem?_eq_getElem (by omega)⟩
  have hcx := cutI_at (keep := keep) hx
  have hml := cutI_length (keep := keep) (i := i) (l := l)
  have hfl := fcells_length (cutI keep i l)
  have hpos : 0 < (fcells (cutI keep i l)).length := by omega
  have hf1 := fc1 hcx
  have hf2 := fc2 hcx
  have hok := hl.ok x (List.mem_of_getElem? hx)
  obtain ⟨K, hKd⟩ : ∃ K, K = keptOf keep (x.b.xs, x.safe) := ⟨_, rfl⟩
  have hK : (x.safe : Int) + min (max keep 0) ((x.b.xs.length : Int) - (x.safe : Int)) = (K : Int) := by rw [hKd]; unfold keptOf; dsimp only; omega
  have hKl : K ≤ x.b.xs.length := by rw [hKd]; unfold keptOf; dsimp only; omega
  have hst : ((i : Int)).toNat * 3 + 1 < (fcells (cutI keep i l)).length := by omega
  have hstb : ((i : Int)).toNat * 3 + 2 < ((fcells (cutI keep i l)).set (((i : Int)).toNat * 3 + 1) (.slice x.b.base ((K : Int)).toNat x.b.cap)).length := by rw [List.length_set]; omega
  have hf1b : ((fcells (cutI keep i l)).set (((i : Int)).toNat * 3 + 1) (.slice x.b.base ((K : Int)).toNat x.b.cap))[((i : Int)).toNat * 3 + 1]? = some (.slice x.b.base ((K : Int)).toNat x.b.cap) := by rw [List.getElem?_set_self hst]
  refine WC.known (fun w h => row_some hpos h.pk1) fun hb => ?_
  have hbb := hb
  refine WC.skip $ tN $ wS $ WC.block $ wS $ wR $ zP rfl $ uN rfl $ sv (vfld fl64f0 rfl) $ sv (vldc pl62 rfl) $ zI rfl $ sv (vix Tryz.underlying62 sz153 rfl rfl (by omega) (by omega) reads (hpos)) $ sv (vaP rfl) $ wN $ tN $ wS $ WC.plan (.bar [0, 1, 2, 3, 4, 5, 6, 7, 8, 9, 10, 11, 12, 13, 14, 15, 16, 17, 18, 19, 20, 21, 22, 23, 24, 25] 26 (.done [])) rfl (by kernel_rfl) $ WPl.bar (trivial) $ dv (fun g => (vmP rfl)) $ dv (fun g => (vmP rfl)) $ dv (fun g => (vnilr (hb) rfl)) $ dv (fun g => (vfldr (hb) fl153f1 rfl)) $ dv (fun g => (vldo pl108 rfl reads (hf1))) $ dv (fun g => (vmP rfl)) $ dv (fun g => (vnilr (hb) rfl)) $ dv (fun g => (vfldr (hb) fl153f2 rfl)) $ dv (fun g => (vldo pl3 rfl reads (hf2))) $ dv (fun g => (vmI rfl)) $ dv (fun g => (vmax rfl rfl)) $ dv (fun g => (vmP rfl)) $ dv (fun g => (vnilr (hb) rfl)) $ dv (fun g => (vfldr (hb) fl153f1 rfl)) $ dv (fun g => (vldo pl108 rfl reads (hf1))) $ dv (fun g => (vlen Tryz.underlying108 rfl)) $ dv (fun g => (vmP rfl)) $ dv (fun g => (vnilr (hb) rfl)) $ dv (fun g => (vfldr (hb) fl153f2 rfl)) $ dv (fun g => (vldo pl3 rfl reads (hf2))) $ dv (fun g => (vsub rfl rfl (by omega))) $ dv (fun g => (vmin rfl rfl)) $ dv (fun g => (vw (vadd rfl rfl (by omega)) (iv hK))) $ dv (fun g => (vslH Tryz.underlying108 sz5 rfl rfl (by omega) (by omega))) $ dv (fun g => (vnilr (hb) rfl)) $ dv (fun g => (vfldr (hb) fl153f1 rfl)) $ WD.eff rfl $ pm (fun _ h => h.pk1) $ str (v := .slice _ _ _) pl108 sz108 rfl rfl rfl (hst) $ wN $ WX.brT $ WPl.fin (trivial) $ WD.nil $ tN $ wR $ zP rfl $ zP rfl $ sv (vnilr (hbb) rfl) $ sv (vfldr (hbb) fl153f1 rfl) $ sv (vldo pl108 rfl reads (hf1b)) $ sv (vlen Tryz.underlying108 rfl) $ sv (vnilr (hbb) rfl) $ sv (vfldr (hbb) fl153f2 rfl) $ str (v := .int _ _) pl3 sz3 rfl rfl rfl (hstb) $ wN $ WX.blockN $ tN $ wR $ zI rfl $ sv (vadd rfl rfl (by omega)) $ yI rfl $ wN $ WX.again (i + 1) (by omega) (by omega) ⟨rfl, trivial⟩ ⟨rfl, rfl, trivial⟩ (fun w h => ?_)
  have hc2 : cutR keep x = ⟨x.name, ⟨x.b.base, x.b.xs.take K, x.b.cap⟩, K⟩ := by rw [hKd]; rfl
  rw [← cutI_set hx, hc2, fcells_set (y := ⟨x.name, ⟨x.b.base, x.b.xs.take K, x.b.cap⟩, K⟩) hcx rfl, List.map_set]
  have ht : (x.b.xs.take K).length = K := by rw [List.length_take]; omega
  dsimp only
  rw [ht]
  rw [Int.toNat_natCast, Int.toNat_natCast] at h
  exact (rows_take K (x := x.b) (by rw [List.getElem?_map, hcx]; rfl) h.pk2).pk2.pk2.pk1
 ·
  have hil : i = l.length := by omega
  subst hil
  refine WC.exit $ WX.thenE $ WX.thenE $ WX.blockH $ tN $ wR $ zP rfl $ uN rfl $ sv (vfld fl64f1 rfl) $ stc (v := .bool _) pl4 sz4 rfl rfl rfl $ wN $ WX.end0 rfl (()) (trivial) rfl (fun w h => ?_)
  rw [cutI_all] at h
  exact rdisk_mk (hl.offm rfl) (by rw [List.length_map]; exact hc) (by rw [List.length_map]; exact h)
theorem strB_at {s : ByteArray} {i : Nat} (h : i < s.size) : s[((i : Int)).toNat]? = some (s.data.toList.getD i 0) := by
 have e : ((i : Int)).toNat = i := by omega
 have h2 : i < s.data.toList.length := by simpa using h
 rw [e, List.getD_eq_getElem?_getD, List.getElem?_eq_getElem h2, getElem?_pos s i h]
 rfl
theorem okNameB_at {s : ByteArray} (h : okName s) {i : Nat} (hi : i < s.size) : okByte (s.data.toList.getD i 0) := by
 have h2 : i < s.data.toList.length := by simpa using hi
 rw [List.getD_eq_getElem?_getD, List.getElem?_eq_getElem h2]
 exact h.1 _ (List.getElem_mem h2)
theorem okNameB_of {s : ByteArray} (h0 : s.size ≠ 0) (h16 : s.size ≤ 16) (h : ∀ j, j < s.size → okByte (s.data.toList.getD j 0)) : okName s := by
 refine ⟨fun c hc => ?_, h0, h16⟩
 obtain ⟨j, hj⟩ := List.mem_iff_getElem?.1 hc
 obtain ⟨hl, rfl⟩ := List.getElem?_eq_some_iff.1 hj
 have := h j (by simpa using hl)
 rwa [List.getD_eq_getElem?_getD, List.getElem?_eq_getElem hl] at this
theorem ref_name {s : ByteArray} : Fun Tryz.prog w0 47 [.string s] A (Ru w0 (.bool (decide (okName s))) A) := by
 refine Fun.enter Tryz.func47 rfl Tryz.ntmps47 rfl ?_
 refine wS $ wR $ yB rfl $ wN $ tN $ wS $ ?_
 refine WC.cut0 [(12, .bool (decide (¬ (s.size ≠ 0 ∧ s.size ≤ 16))))] [(0, .string _)] (A) ⟨rfl, trivial⟩ ?_ fun ρh => ?_
 ·
  refine wR $ sv (vmT rfl) $ sv (vlens Tryz.underlying9 rfl) $ svs (vlt rfl rfl) (fun q1 => ?_) (fun q1 => ?_)
  ·
   exact zB rfl $ sng rfl $ sng rfl $ sng rfl $ uT rfl $ wN $ xM () trivial ⟨bT (by omega), trivial⟩ ⟨rfl, trivial⟩ (fun _ h => h)
  ·
   exact zB rfl $ svg rfl (vmT rfl) $ svg rfl (vlens Tryz.underlying9 rfl) $ svg rfl (vgt rfl rfl) $ uF rfl $ wN $ xM () trivial ⟨bI (by omega), trivial⟩ ⟨rfl, trivial⟩ (fun _ h => h)
 refine WC.ite rfl (fun h1 => ?_) (fun h1 => ?_)
 ·
  exact wS $ wR $ yB rfl $ wN $ tN $ WC.ret $ tR $ xR rfl (()) (trivial) (bF (fun h => h1 h.2)) (fun _ h => h)
 ·
  refine WC.skip $ tN $ wS $ wS $ wR $ yI rfl $ wN $ tN $ WC.block $ ?_
  refine WC.loop (ι := Nat) (fun i => [(3, .int .i64 i)]) [(0, .string _)] (fun i => A) (fun i => i ≤ s.size ∧ ∀ j, j < i → okByte (s.data.toList.getD j 0)) (fun i => s.size - i) (0) (⟨Nat.zero_le _, fun j h => by omega⟩) ⟨rfl, trivial⟩ ⟨rfl, trivial⟩ (fun _ h => h) ?_
  intro i hi ρh
  refine wS $ wS $ wR $ zI rfl $ sv (vmT rfl) $ sv (vlens Tryz.underlying9 rfl) $ sv (vlt rfl rfl) $ wN $ tN $ ?_
  refine WC.ite rfl (fun h2 => ?_) (fun h2 => ?_)
  ·
   obtain ⟨c, hc⟩ : ∃ c, c = s.data.toList.getD i 0 := ⟨_, rfl⟩
   have hat := strB_at (s := s) (i := i) (by omega)
   rw [← hc] at hat
   refine WC.skip $ tN $ wS $ WC.block $ wS $ wR $ sv (vmT rfl) $ zI rfl $ sv (vixs Tryz.underlying9 rfl rfl (by omega) hat) $ yI rfl $ wN $ tN $ ?_
   refine WC.cut0 [(43, .bool (decide (¬ okByte c)))] [(0, .string _), (3, .int _ _)] (A) ⟨rfl, rfl, trivial⟩ ?_ fun ρh => ?_
   ·
    refine wR $ zI rfl $ svs (vlt rfl rfl) (fun q2 => ?_) (fun q2 => ?_)
    ·
     refine zB rfl $ sng rfl $ sng rfl $ uT rfl $ zB rfl $ svg rfl (vmI rfl) $ svsg rfl (vlt rfl rfl) (fun q3 => ?_) (fun q3 => ?_)
     ·
      refine svg rfl (vmB rfl) $ sng rfl $ sng rfl $ svg rfl (vpkt rfl) $ uT rfl $ zB rfl $ svg rfl (vmI rfl) $ svsg rfl (vne rfl rfl) (fun q4 => ?_) (fun q4 => ?_)
      ·
       exact uT rfl $ zB rfl $ svg rfl (vmI rfl) $ svg rfl (vne rfl rfl) $ uT rfl $ wN $ xM () trivial ⟨bI (by unfold okByte; omega), trivial⟩ ⟨rfl, rfl, trivial⟩ (fun _ h => h)
      ·
       exact uT rfl $ zB rfl $ sng rfl $ sng rfl $ uF rfl $ wN $ xM () trivial ⟨bF (by unfold okByte; omega), trivial⟩ ⟨rfl, rfl, trivial⟩ (fun _ h => h)
     ·
      refine svg rfl (vmB rfl) $ svg rfl (vmI rfl) $ svsg rfl (vgt rfl rfl) (fun q5 => ?_) (fun q5 => ?_)
      ·
       refine svg rfl (vpkf rfl) $ uT rfl $ zB rfl $ svg rfl (vmI rfl) $ svsg rfl (vne rfl rfl) (fun q6 => ?_) (fun q6 => ?_)
       ·
        exact uT rfl $ zB rfl $ svg rfl (vmI rfl) $ svg rfl (vne rfl rfl) $ uT rfl $ wN $ xM () trivial ⟨bI (by unfold okByte; omega), trivial⟩ ⟨rfl, rfl, trivial⟩ (fun _ h => h)
       ·
        exact uT rfl $ zB rfl $ sng rfl $ sng rfl $ uF rfl $ wN $ xM () trivial ⟨bF (by unfold okByte; omega), trivial⟩ ⟨rfl, rfl, trivial⟩ (fun _ h => h)
      ·
       exact svg rfl (vpkf rfl) $ uT rfl $ zB rfl $ sng rfl $ sng rfl $ uF rfl $ zB rfl $ sng rfl $ sng rfl $ uF rfl $ wN $ xM () trivial ⟨bF (by unfold okByte; omega), trivial⟩ ⟨rfl, rfl, trivial⟩ (fun _ h => h)
    ·
     refine zB rfl $ svg rfl (vmI rfl) $ svsg rfl (vgt rfl rfl) (fun q7 => ?_) (fun q7 => ?_)
     ·
      refine uF rfl $ zB rfl $ svg rfl (vmI rfl) $ svsg rfl (vlt rfl rfl) (fun q8 => ?_) (fun q8 => ?_)
      ·
       refine svg rfl (vmB rfl) $ sng rfl $ sng rfl $ svg rfl (vpkt rfl) $ uT rfl $ zB rfl $ svg rfl (vmI rfl) $ svsg rfl (vne rfl rfl) (fun q9 => ?_) (fun q9 => ?_)
       ·
        exact uT rfl $ zB rfl $ svg rfl (vmI rfl) $ svg rfl (vne rfl rfl) $ uT rfl $ wN $ xM () trivial ⟨bI (by unfold okByte; omega), trivial⟩ ⟨rfl, rfl, trivial⟩ (fun _ h => h)
       ·
        exact uT rfl $ zB rfl $ sng rfl $ sng rfl $ uF rfl $ wN $ xM () trivial ⟨bF (by unfold okByte; omega), trivial⟩ ⟨rfl, rfl, trivial⟩ (fun _ h => h)
      ·
       refine svg rfl (vmB rfl) $ svg rfl (vmI rfl) $ svsg rfl (vgt rfl rfl) (fun q10 => ?_) (fun q10 => ?_)
       ·
        refine svg rfl (vpkf rfl) $ uT rfl $ zB rfl $ svg rfl (vmI rfl) $ svsg rfl (vne rfl rfl) (fun q11 => ?_) (fun q11 => ?_)
        ·
         exact uT rfl $ zB rfl $ svg rfl (vmI rfl) $ svg rfl (vne rfl rfl) $ uT rfl $ wN $ xM () trivial ⟨bI (by unfold okByte; omega), trivial⟩ ⟨rfl, rfl, trivial⟩ (fun _ h => h)
        ·
         exact uT rfl $ zB rfl $ sng rfl $ sng rfl $ uF rfl $ wN $ xM () trivial ⟨bF (by unfold okByte; omega), trivial⟩ ⟨rfl, rfl, trivial⟩ (fun _ h => h)
       ·
        exact svg rfl (vpkf rfl) $ uT rfl $ zB rfl $ sng rfl $ sng rfl $ uF rfl $ zB rfl $ sng rfl $ sng rfl $ uF rfl $ wN $ xM () trivial ⟨bF (by unfold okByte; omega), trivial⟩ ⟨rfl, rfl, trivial⟩ (fun _ h => h)
     ·
      exact uF rfl $ zB rfl $ sng rfl $ sng rfl $ sng rfl $ sng rfl $ sng rfl $ sng rfl $ uF rfl $ zB rfl $ sng rfl $ sng rfl $ uF rfl $ zB rfl $ sng rfl $ sng rfl $ uF rfl $ wN $ xM () trivial ⟨bF (by unfold okByte; omega), trivial⟩ ⟨rfl, rfl, trivial⟩ (fun _ h => h)
   refine WC.ite rfl (fun h3 => ?_) (fun h3 => ?_)
   ·
    exact wS $ wR $ yB rfl $ wN $ tN $ WC.ret $ WX.blockR $ tR $ tR $ WX.blockR $ tR $ xR rfl (()) (trivial) (bF (fun h => h3 (by rw [hc]; exact okNameB_at h (by omega)))) (fun _ h => h)
   ·
    exact WC.skip $ WX.blockN $ tN $ wR $ zI rfl $ sv (vadd rfl rfl (by omega)) $ yI rfl $ wN $ WX.again (i + 1) (⟨by omega, fun j hj => by rcases Nat.lt_succ_iff_lt_or_eq.1 hj with h | rfl; exact hi.2 j h; rw [← hc]; exact Decidable.not_not.1 h3⟩) (by omega) ⟨rfl, trivial⟩ ⟨rfl, trivial⟩ (fun _ h => h)
  ·
   exact WC.exit $ WX.thenE $ WX.thenE $ WX.blockH $ tN $ wS $ wR $ yB rfl $ wN $ tN $ WC.ret $ xR rfl (()) (trivial) (bT (okNameB_of (by omega) (by omega) (fun j hj => hi.2 j (by omega)))) (fun _ h => h)
theorem ref_off {r N : Nat} {st : DSt} {keep : Int} :
  Fun Tryz.prog w0 63 [.pointer (some ⟨r, 0, none⟩), .int .i64 keep] (rdisk r N st :: A) (Ru w0 (.tuple #[]) (rdisk r N (offS keep st) :: A)) := by
 cases ho : st.off with
 | true =>
  have he : offS keep st = st := by unfold offS; rw [if_pos ho]
  rw [he]; exact ref_off_off ho
 | false => exact ref_off_on ho
theorem same_name {l : List RF} {i j : Nat} {x y : RF} (hn : (l.map (·.name)).Nodup) (hi : l[i]? = some x) (hj : l[j]? = some y) (h : x.name = y.name) : i = j := by
 have g1 : (l.map (·.name))[i]? = some x.name := by simp [hi]
 have g2 : (l.map (·.name))[j]? = some x.name := by simp [hj, h]
 exact (List.getElem?_inj (by simpa using (List.getElem?_eq_some_iff.1 hi).1) hn).1 (g1.trans g2.symm)
section
variable {w0 : World} {R A : List HProp} {r c j : Nat} {base : Option Addr} {st : DSt} {l : List RF} {nm : ByteArray} {x : RF}
theorem ref_find_j (hl : l.length ≤ 1099511627776) (hn : (l.map (·.name)).Nodup) (hj : l[j]? = some x) :
  Fun Tryz.prog w0 75 [.pointer (some ⟨r, 0, none⟩), .string x.name] (cel r (rcells base l.length c st) 64 :: row base c 3 153 (fcells l) :: R)
   (Ru w0 (.int .i64 j) (cel r (rcells base l.length c st) 64 :: row base c 3 153 (fcells l) :: R)) :=
 ref_find hl (fun i y hi hy _ => by rw [same_name hn hi hj hy]) (fun h => absurd rfl (h x (List.mem_of_getElem? hj)))
theorem ref_find_no (hl : l.length ≤ 1099511627776) (hno : ∀ x ∈ l, x.name ≠ nm) :
  Fun Tryz.prog w0 75 [.pointer (some ⟨r, 0, none⟩), .string nm] (cel r (rcells base l.length c st) 64 :: row base c 3 153 (fcells l) :: R)
   (Ru w0 (.int .i64 (-1)) (cel r (rcells base l.length c st) 64 :: row base c 3 153 (fcells l) :: R)) :=
 ref_find hl (fun i y hi hy _ => absurd hy (hno y (List.mem_of_getElem? hi))) (fun _ => rfl)
end
theorem lookR_at {l : List RF} {k : ByteArray} {v : List UInt8 × Nat} (h : lookR l k = some v) : ∃ (j : Nat) (x : RF), l[j]? = some x ∧ x.name = k ∧ (x.b.xs, x.safe) = v := by
 induction l with
 | nil => cases h
 | cons y l ih =>
  unfold lookR at h
  split at h
  ·exact ⟨0, y, rfl, by assumption, Option.some.inj h⟩
  ·obtain ⟨j, x, h1, h2⟩ := ih h
   exact ⟨j + 1, x, by simpa using h1, h2⟩
theorem lookR_no {l : List RF} {k : ByteArray} (h : lookR l k = none) : ∀ x ∈ l, x.name ≠ k := by
 induction l with
 | nil => intro x hx; cases hx
 | cons y l ih =>
  unfold lookR at h
  split at h
  ·cases h
  ·intro x hx
   rcases List.mem_cons.1 hx with rfl | hx
   ·assumption
   ·exact ih h x hx
theorem RRep.at {l : List RF} {st : DSt} {k : ByteArray} {v : List UInt8 × Nat} (h : RRep l st) (hk : st.files k = some v) : ∃ (j : Nat) (x : RF), l[j]? = some x ∧ x.name = k ∧ (x.b.xs, x.safe) = v := lookR_at ((h.look k).trans hk)
theorem RRep.no {l : List RF} {st : DSt} {k : ByteArray} (h : RRep l st) (hk : st.files k = none) : ∀ x ∈ l, x.name ≠ k := lookR_no ((h.look k).trans hk)
theorem lookR_set {y x : RF} (hy : y.name = x.name) {k : ByteArray} : ∀ {l : List RF} {j : Nat}, (l.map (·.name)).Nodup → l[j]? = some x → lookR (l.set j y) k = if k = x.name then some (y.b.xs, y.safe) else lookR l k
 | [], _, _, h => by simp at h
 | z :: l, 0, hn, h => by
  simp at h; subst h
  simp only [List.set_cons_zero, lookR, hy]
  by_cases hk : z.name = k
  ·simp [hk]
  ·rw [if_neg hk, if_neg (Ne.symm hk), if_neg hk]
 | z :: l, j + 1, hn, h => by
  simp only [List.map_cons, List.nodup_cons] at hn
  have h' : l[j]? = some x := by simpa using h
  have hx : x ∈ l := List.mem_of_getElem? h'
  simp only [List.set_cons_succ, lookR]
  rw [lookR_set hy hn.2 h']
  by_cases hk : z.name = k
  ·have : k ≠ x.name := fun he => hn.1 (List.mem_map.2 ⟨x, hx, by rw [← he, hk]⟩)
   rw [if_pos hk, if_neg this, if_pos hk]
  ·rw [if_neg hk, if_neg hk]
theorem map_set_name {l : List RF} {j : Nat} {x y : RF} (h : l[j]? = some x) (hy : y.name = x.name) : (l.set j y).map (·.name) = l.map (·.name) := by
 rw [List.map_set]
 apply List.ext_getElem?
 intro i
 rw [List.getElem?_set]
 by_cases hi : j = i
 ·subst hi
  have h1 := (List.getElem?_eq_some_iff.1 h).1
  have hx : l[j] = x := (List.getElem?_eq_some_iff.1 h).2
  simp [h1, hy, hx]
 ·simp [hi]
theorem RRep.put {l : List RF} {st st' : DSt} {j : Nat} {x y : RF} (h : RRep l st) (hj : l[j]? = some x) (hy : y.name = x.name) (hok : y.safe ≤ y.b.xs.length ∧ y.b.xs.length ≤ 16777216 ∧ y.b.xs.length ≤ y.b.cap) (hf : st'.files = putV x.name (y.b.xs, y.safe) st.files) (hu : 0 ≤ st'.fuse ∧ st'.fuse ≤ 9223372036854775807) :
  RRep (l.set j y) st' := by
 refine ⟨by rw [map_set_name hj hy]; exact h.sorted, fun k => ?_, fun z hz => ?_, hu⟩
 ·rw [lookR_set hy h.nodup hj, hf, h.look]; rfl
 ·rcases List.mem_or_eq_of_mem_set hz with hz | rfl
  ·exact h.ok z hz
  ·exact hok
theorem map_set_b {l : List RF} {j : Nat} {x : RF} {s : Nat} (h : l[j]? = some x) : (l.set j ⟨x.name, x.b, s⟩).map (·.b) = l.map (·.b) := by
 rw [List.map_set]
 exact set_same (by rw [List.getElem?_map, h]; rfl)
theorem fcells_safe {l : List RF} {i : Nat} {x : RF} (s : Nat) (h : l[i]? = some x) : fcells (l.set i ⟨x.name, x.b, s⟩) = (fcells l).set (i * 3 + 2) (.int .i64 s) := by
 rw [fcells_set (y := ⟨x.name, x.b, s⟩) h rfl]
 dsimp only
 rw [set_same (fcells_at h (k := 1) (by omega))]
theorem ref_sync_off {r n c : Nat} {base : Option Addr} {st : DSt} {nm : ByteArray} (ho : st.off = true) :
  Fun Tryz.prog w0 87 [.pointer (some ⟨r, 0, none⟩), .string nm] (cel r (rcells base n c st) 64 :: A) (Ru w0 (.int .i64 20) (cel r (rcells base n c st) 64 :: A)) := by
 obtain ⟨files, off, fuse, keep0, deeds⟩ := st
 obtain rfl : off = true := ho
 refine Fun.enter Tryz.func87 rfl Tryz.ntmps87 rfl ?_
 refine wS $ wR $ yI rfl $ wN $ tN $ wS $ wS $ wR $ zP rfl $ uN rfl $ sv (vfld fl64f1 rfl) $ sv (vldc pl4 rfl) $ wN $ tN $ ?_
 refine WC.tt rfl ?_
 exact wS $ wR $ yI rfl $ wN $ tN $ WC.ret $ tR $ xR rfl (()) (trivial) rfl (fun _ h => h)
theorem ref_sync_no {w0 : World} {R : List HProp} {r c : Nat} {base : Option Addr} {st : DSt} {nm : ByteArray} {l : List RF} (hl : l.length ≤ 1099511627776) (ho : st.off = false) (hno : ∀ x ∈ l, x.name ≠ nm) :
  Fun Tryz.prog w0 87 [.pointer (some ⟨r, 0, none⟩), .string nm] (cel r (rcells base l.length c st) 64 :: row base c 3 153 (fcells l) :: R) (Ru w0 (.int .i64 21) (cel r (rcells base l.length c st) 64 :: row base c 3 153 (fcells l) :: R)) := by
 obtain ⟨files, off, fuse, keep0, deeds⟩ := st
 obtain rfl : off = false := ho
 refine Fun.enter Tryz.func87 rfl Tryz.ntmps87 rfl ?_
 refine wS $ wR $ yI rfl $ wN $ tN $ wS $ wS $ wR $ zP rfl $ uN rfl $ sv (vfld fl64f1 rfl) $ sv (vldc pl4 rfl) $ wN $ tN $ ?_
 refine WC.ff rfl ?_
 refine WC.skip $ tN $ wS $ wR $ zP rfl $ sv (vmT rfl) $ cl (ref_find_no hl hno) ct75 rfl fun _ _ => yI rfl $ wN $ tN $ wS $ wS $ wR $ zI rfl $ sv (vlt rfl rfl) $ wN $ tN $ ?_
 refine WC.ite rfl (fun h2 => ?_) (fun h2 => ?_)
 ·
  exact wS $ wR $ yI rfl $ wN $ tN $ WC.ret $ tR $ xR rfl (()) (trivial) rfl (fun _ h => h)
 ·
  exact absurd (by decide) h2
theorem ref_sync_ok {r c j N : Nat} {base : Option Addr} {st : DSt} {l : List RF} {x : RF} (hN : N ≤ 1099511627776) (hr : RRep l st) (hc : l.length ≤ c ∧ l.length ≤ N) (ho : st.off = false) (hj : l[j]? = some x) (hd : 0 ≤ st.deeds ∧ st.deeds + 1 ≤ 9223372036854775807) :
  Fun Tryz.prog w0 87 [.pointer (some ⟨r, 0, none⟩), .string x.name] (cel r (rcells base l.length c st) 64 :: row base c 3 153 (fcells l) :: rows 5 (l.map (·.b)) :: A)
   (Ret w0 (fun _ : Unit => True) (fun _ => .int .i64 (if st.fuse - 1 = 0 then 20 else 0)) (fun _ => if st.fuse - 1 = 0 then rdisk r N (offS st.keep { st with deeds := st.deeds + 1, fuse := 0 }) :: A
    else rdisk r N { st with deeds := st.deeds + 1, fuse := max (st.fuse - 1) 0, files := putV x.name (x.b.xs, x.b.xs.length) st.files } :: A)) := by
 obtain ⟨files, off, fuse, keep0, deeds⟩ := st
 obtain rfl : off = false := ho
 have hu := hr.fuse
 dsimp only at hu hd
 have hjl := (List.getElem?_eq_some_iff.1 hj).1
 have hfl := fcells_length l
 have hpos : 0 < (fcells l).length := by omega
 have hf1 := fc1 hj
 have hst : ((j : Int)).toNat * 3 + 2 < (fcells l).length := by omega
 have hok := hr.ok x (List.mem_of_getElem? hj)
 refine Fun.known (fun w h => row_some hpos h.pk1) fun hb => ?_
 refine Fun.enter Tryz.func87 rfl Tryz.ntmps87 rfl ?_
 refine wS $ wR $ yI rfl $ wN $ tN $ wS $ wS $ wR $ zP rfl $ uN rfl $ sv (vfld fl64f1 rfl) $ sv (vldc pl4 rfl) $ wN $ tN $ ?_
 refine WC.ff rfl ?_
 refine WC.skip $ tN $ wS $ wR $ zP rfl $ sv (vmT rfl) $ cl (ref_find_j (by omega) hr.nodup hj) ct75 rfl fun _ _ => yI rfl $ wN $ tN $ wS $ wS $ wR $ zI rfl $ sv (vlt rfl rfl) $ wN $ tN $ ?_
 refine WC.ite rfl (fun h2 => ?_) (fun h2 => ?_)
 ·
  omega
 ·
  refine WC.skip $ tN $ wS $ wS $ wR $ zP rfl $ cl (ref_deed hu hd) ct77 rfl fun _ _ => wN $ tN $ ?_
  refine WC.ite rfl (fun h3 => ?_) (fun h3 => ?_)
  ·
   simp only [if_pos h3]
   dsimp only at h3
   refine wS $ wR $ zP rfl $ zP rfl $ uN rfl $ sv (vfld fl64f3 rfl) $ sv (vldc pl3 rfl) $ pm (fun _ h => rdisk_mk (st := ⟨files, false, max (fuse - 1) 0, keep0, deeds + 1⟩) (hr.same rfl (by dsimp only; omega)) hc h) $ cl (ref_off) ct63 rfl fun _ _ => wN $ tN $ wS $ wR $ yI rfl $ wN $ tN $ WC.ret $ tR $ xR rfl (()) (trivial) rfl (fun w h => ?_)
   have e : max (fuse - 1) 0 = 0 := by omega
   rw [e] at h; exact h
  ·
   simp only [if_neg h3]
   refine WC.skip $ tN $ wS $ WC.plan (.bar [0, 1, 2, 3, 4, 5, 6, 7, 8, 9, 10, 11, 12, 13, 14, 15] 16 (.done [])) rfl (by kernel_rfl) $ WPl.bar (trivial) $ dv (fun g => (vmP rfl)) $ dv (fun g => (vnil rfl)) $ dv (fun g => (vfld fl64f0 rfl)) $ dv (fun g => (vldc pl62 rfl)) $ dv (fun g => (vmI rfl)) $ dv (fun g => (vmP rfl)) $ dv (fun g => (vnil rfl)) $ dv (fun g => (vfld fl64f0 rfl)) $ dv (fun g => (vldc pl62 rfl)) $ dv (fun g => (vmI rfl)) $ dv (fun g => (vix Tryz.underlying62 sz153 rfl rfl (by omega) (by omega) reads (hpos))) $ dv (fun g => (vfldr (hb) fl153f1 rfl)) $ dv (fun g => (vldo pl108 rfl reads (hf1))) $ dv (fun g => (vlen Tryz.underlying108 rfl)) $ dv (fun g => (vix Tryz.underlying62 sz153 rfl rfl (by omega) (by omega) reads (hpos))) $ dv (fun g => (vfldr (hb) fl153f2 rfl)) $ WD.eff rfl $ pm (fun _ h => h.pk1) $ str (v := .int _ _) pl3 sz3 rfl rfl rfl (hst) $ wN $ WX.brT $ WPl.fin (trivial) $ WD.nil $ tN $ wS $ wR $ yI rfl $ wN $ tN $ WC.ret $ xR rfl (()) (trivial) rfl (fun w h => ?_)
   have e := fcells_safe x.b.xs.length hj
   rw [Int.toNat_natCast, ← e] at h
   have h1 := h.pk1
   refine rdisk_mk (l := l.set j ⟨x.name, x.b, x.b.xs.length⟩) (base := base) (c := c) (hr.put hj rfl ⟨Nat.le_refl _, hok.2.1, hok.2.2⟩ rfl (by dsimp only; omega)) (by rw [List.length_set]; exact hc) ?_
   rw [List.length_set, map_set_b hj]
   exact h1
theorem ref_sync {r N : Nat} {st : DSt} {nm : ByteArray} (hd : 0 ≤ st.deeds ∧ st.deeds + 1 ≤ 9223372036854775807) (hN : N ≤ 1099511627776) :
  Fun Tryz.prog w0 87 [.pointer (some ⟨r, 0, none⟩), .string nm] (rdisk r N st :: A) (Ru w0 (.int .i64 (syncS nm st).2) (rdisk r N (syncS nm st).1 :: A)) := by
 refine Fun.ex (fun w h => rdisk_open h) ?_
 rintro ⟨base, c, l⟩ ⟨hr, hc⟩
 dsimp only at hr hc ⊢
 by_cases hne : findE nm st = 0
 ·obtain ⟨ho, v, hf⟩ := findE_ok hne
  obtain ⟨j, x, hj, rfl, rfl⟩ := hr.at hf
  have hk : syncS x.name st = deedS (putV x.name (x.b.xs, x.b.xs.length)) id st := by unfold syncS; rw [if_neg (by rw [ho]; decide), hf]
  refine (ref_sync_ok hN hr hc ho hj hd).mono fun e w ⟨i, hi, he, hO⟩ => ⟨i, hi, ?_, ?_⟩
  ·rw [he, hk]; unfold deedS; split <;> rfl
  ·rw [hk]; unfold deedS
   dsimp only at hO
   split at hO
   ·rename_i h; rw [if_pos h]; exact hO
   ·rename_i h; rw [if_neg h]; exact hO
 ·rw [(readS_bad hne).2.1]
  unfold findE at hne ⊢
  cases ho : st.off with
  | true =>
   simp only [if_true]
   exact (ref_sync_off ho).mono fun e w ⟨i, hi, he, hO⟩ => ⟨i, hi, he, rdisk_mk hr hc hO⟩
  | false =>
   cases hf : st.files nm with
   | some v => simp [ho, hf] at hne
   | none =>
    simp only [Bool.false_eq_true, if_false, Option.isSome_none]
    exact (ref_sync_no (by omega) ho (hr.no hf)).mono fun e w ⟨i, hi, he, hO⟩ => ⟨i, hi, he, rdisk_mk hr hc hO⟩
theorem ref_read_no {w0 : World} {R : List HProp} {r c : Nat} {base : Option Addr} {st : DSt} {nm : ByteArray} {l : List RF} (hl : l.length ≤ 1099511627776) (ho : st.off = false) (hno : ∀ x ∈ l, x.name ≠ nm) :
  Fun Tryz.prog w0 48 [.pointer (some ⟨r, 0, none⟩), .string nm] (cel r (rcells base l.length c st) 64 :: row base c 3 153 (fcells l) :: R) (Ru w0 (.tuple #[.slice none 0 0, .int .i64 21]) (cel r (rcells base l.length c st) 64 :: row base c 3 153 (fcells l) :: R)) := by
 obtain ⟨files, off, fuse, keep0, deeds⟩ := st
 obtain rfl : off = false := ho
 refine Fun.enter Tryz.func48 rfl Tryz.ntmps48 rfl ?_
 refine wS $ wR $ yS rfl $ yI rfl $ wN $ tN $ wS $ wS $ wR $ zP rfl $ uN rfl $ sv (vfld fl64f1 rfl) $ sv (vldc pl4 rfl) $ wN $ tN $ ?_
 refine WC.ff rfl ?_
 refine WC.skip $ tN $ wS $ wR $ zP rfl $ sv (vmT rfl) $ cl (ref_find_no hl hno) ct75 rfl fun _ _ => yI rfl $ wN $ tN $ wS $ wS $ wR $ zI rfl $ sv (vlt rfl rfl) $ wN $ tN $ ?_
 refine WC.ite rfl (fun h2 => ?_) (fun h2 => ?_)
 ·
  exact wS $ wR $ yS rfl $ yI rfl $ wN $ tN $ WC.ret $ tR $ WX.ret2 rfl (()) (trivial) rfl (fun _ h => h)
 ·
  exact absurd (by decide) h2
theorem ref_read_ok {w0 : World} {R : List HProp} {r c j : Nat} {base : Option Addr} {st : DSt} {l : List RF} {x : RF} (hl : l.length ≤ 1099511627776) (hr : RRep l st) (ho : st.off = false) (hj : l[j]? = some x) :
  Fun Tryz.prog w0 48 [.pointer (some ⟨r, 0, none⟩), .string x.name] (cel r (rcells base l.length c st) 64 :: row base c 3 153 (fcells l) :: R)
   (Ru w0 (.tuple #[.slice x.b.base x.b.xs.length x.b.cap, .int .i64 0]) (cel r (rcells base l.length c st) 64 :: row base c 3 153 (fcells l) :: R)) := by
 obtain ⟨files, off, fuse, keep0, deeds⟩ := st
 obtain rfl : off = false := ho
 have hjl := (List.getElem?_eq_some_iff.1 hj).1
 have hfl := fcells_length l
 have hpos : 0 < (fcells l).length := by omega
 have hf1 := fc1 hj
 refine Fun.known (fun w h => row_some hpos h.pk1) fun hb => ?_
 refine Fun.enter Tryz.func48 rfl Tryz.ntmps48 rfl ?_
 refine wS $ wR $ yS rfl $ yI rfl $ wN $ tN $ wS $ wS $ wR $ zP rfl $ uN rfl $ sv (vfld fl64f1 rfl) $ sv (vldc pl4 rfl) $ wN $ tN $ ?_
 refine WC.ff rfl ?_
 refine WC.skip $ tN $ wS $ wR $ zP rfl $ sv (vmT rfl) $ cl (ref_find_j (by omega) hr.nodup hj) ct75 rfl fun _ _ => yI rfl $ wN $ tN $ wS $ wS $ wR $ zI rfl $ sv (vlt rfl rfl) $ wN $ tN $ ?_
 refine WC.ite rfl (fun h2 => ?_) (fun h2 => ?_)
 ·
  omega
 ·
  exact WC.skip $ tN $ wS $ wR $ zP rfl $ uN rfl $ sv (vfld fl64f0 rfl) $ sv (vldc pl62 rfl) $ zI rfl $ sv (vix Tryz.underlying62 sz153 rfl rfl (by omega) (by omega) reads (hpos)) $ sv (vfldr (hb) fl153f1 rfl) $ sv (vldo pl108 rfl reads (hf1)) $ yS rfl $ yI rfl $ wN $ tN $ WC.ret $ WX.ret2 rfl (()) (trivial) rfl (fun _ h => h)
theorem ref_cut_off {r n c : Nat} {base : Option Addr} {st : DSt} {nm : ByteArray} {m : Int} (ho : st.off = true) :
  Fun Tryz.prog w0 50 [.pointer (some ⟨r, 0, none⟩), .string nm, .int .i64 m] (cel r (rcells base n c st) 64 :: A) (Ru w0 (.int .i64 20) (cel r (rcells base n c st) 64 :: A)) := by
 obtain ⟨files, off, fuse, keep0, deeds⟩ := st
 obtain rfl : off = true := ho
 refine Fun.enter Tryz.func50 rfl Tryz.ntmps50 rfl ?_
 refine wS $ wR $ yI rfl $ wN $ tN $ wS $ wS $ wR $ zP rfl $ uN rfl $ sv (vfld fl64f1 rfl) $ sv (vldc pl4 rfl) $ wN $ tN $ ?_
 refine WC.tt rfl ?_
 exact wS $ wR $ yI rfl $ wN $ tN $ WC.ret $ tR $ xR rfl (()) (trivial) rfl (fun _ h => h)
theorem ref_cut_no {w0 : World} {R : List HProp} {r c : Nat} {base : Option Addr} {st : DSt} {nm : ByteArray} {m : Int} {l : List RF} (hl : l.length ≤ 1099511627776) (ho : st.off = false) (hno : ∀ x ∈ l, x.name ≠ nm) :
  Fun Tryz.prog w0 50 [.pointer (some ⟨r, 0, none⟩), .string nm, .int .i64 m] (cel r (rcells base l.length c st) 64 :: row base c 3 153 (fcells l) :: R) (Ru w0 (.int .i64 21) (cel r (rcells base l.length c st) 64 :: row base c 3 153 (fcells l) :: R)) := by
 obtain ⟨files, off, fuse, keep0, deeds⟩ := st
 obtain rfl : off = false := ho
 refine Fun.enter Tryz.func50 rfl Tryz.ntmps50 rfl ?_
 refine wS $ wR $ yI rfl $ wN $ tN $ wS $ wS $ wR $ zP rfl $ uN rfl $ sv (vfld fl64f1 rfl) $ sv (vldc pl4 rfl) $ wN $ tN $ ?_
 refine WC.ff rfl ?_
 refine WC.skip $ tN $ wS $ wR $ zP rfl $ sv (vmT rfl) $ cl (ref_find_no hl hno) ct75 rfl fun _ _ => yI rfl $ wN $ tN $ wS $ wS $ wR $ zI rfl $ sv (vlt rfl rfl) $ wN $ tN $ ?_
 refine WC.ite rfl (fun h2 => ?_) (fun h2 => ?_)
 ·
  exact wS $ wR $ yI rfl $ wN $ tN $ WC.ret $ tR $ xR rfl (()) (trivial) rfl (fun _ h => h)
 ·
  exact absurd (by decide) h2
theorem ref_cut_arg {w0 : World} {R : List HProp} {r c j : Nat} {base : Option Addr} {st : DSt} {m : Int} {l : List RF} {x : RF} (hl : l.length ≤ 1099511627776) (hr : RRep l st) (ho : st.off = false) (hj : l[j]? = some x) (hm : m < 0 ∨ (x.b.xs.length : Int) < m) :
  Fun Tryz.prog w0 50 [.pointer (some ⟨r, 0, none⟩), .string x.name, .int .i64 m] (cel r (rcells base l.length c st) 64 :: row base c 3 153 (fcells l) :: R) (Ru w0 (.int .i64 1) (cel r (rcells base l.length c st) 64 :: row base c 3 153 (fcells l) :: R)) := by
 obtain ⟨files, off, fuse, keep0, deeds⟩ := st
 obtain rfl : off = false := ho
 have hjl := (List.getElem?_eq_some_iff.1 hj).1
 have hfl := fcells_length l
 have hpos : 0 < (fcells l).length := by omega
 have hf1 := fc1 hj
 refine Fun.known (fun w h => row_some hpos h.pk1) fun hb => ?_
 refine Fun.enter Tryz.func50 rfl Tryz.ntmps50 rfl ?_
 refine wS $ wR $ yI rfl $ wN $ tN $ wS $ wS $ wR $ zP rfl $ uN rfl $ sv (vfld fl64f1 rfl) $ sv (vldc pl4 rfl) $ wN $ tN $ ?_
 refine WC.ff rfl ?_
 refine WC.skip $ tN $ wS $ wR $ zP rfl $ sv (vmT rfl) $ cl (ref_find_j hl hr.nodup hj) ct75 rfl fun _ _ => yI rfl $ wN $ tN $ wS $ wS $ wR $ zI rfl $ sv (vlt rfl rfl) $ wN $ tN $ ?_
 refine WC.ite rfl (fun h2 => ?_) (fun h2 => ?_)
 ·
  omega
 ·
  refine WC.skip $ tN $ wS $ ?_
  refine WC.cut0 [(31, .bool (decide (m < 0 ∨ (x.b.xs.length : Int) < m)))] [(0, .pointer _), (2, .int _ _), (7, .int _ _)] (cel r (rcells base l.length c ⟨files, false, fuse, keep0, deeds⟩) 64 :: row base c 3 153 (fcells l) :: R) ⟨rfl, rfl, rfl, trivial⟩ ?_ fun ρh => ?_
  ·
   refine wR $ zI rfl $ svs (vlt rfl rfl) (fun q1 => ?_) (fun q1 => ?_)
   ·
    exact zB rfl $ sng rfl $ sng rfl $ sng rfl $ sng rfl $ sng rfl $ sng rfl $ sng rfl $ sng rfl $ sng rfl $ sng rfl $ sng rfl $ uT rfl $ wN $ xM () trivial ⟨bTa, trivial⟩ ⟨rfl, rfl, rfl, trivial⟩ (fun _ h => h)
   ·
    exact zB rfl $ svg rfl (vmI rfl) $ svg rfl (vmP rfl) $ svg rfl (vnil rfl) $ svg rfl (vfld fl64f0 rfl) $ svg rfl (vldc pl62 rfl) $ svg rfl (vmI rfl) $ svg rfl (vix Tryz.underlying62 sz153 rfl rfl (by omega) (by omega) reads (hpos)) $ svg rfl (vfldr (hb) fl153f1 rfl) $ svg rfl (vldo pl108 rfl reads (hf1)) $ svg rfl (vlen Tryz.underlying108 rfl) $ svg rfl (vgt rfl rfl) $ uF rfl $ wN $ xM () trivial ⟨bIa, trivial⟩ ⟨rfl, rfl, rfl, trivial⟩ (fun _ h => h)
  refine WC.ite rfl (fun h3 => ?_) (fun h3 => ?_)
  ·
   exact wS $ wR $ yI rfl $ wN $ tN $ WC.ret $ tR $ xR rfl (()) (trivial) rfl (fun _ h => h)
  ·
   omega
theorem ref_cut_ok {r c j N n : Nat} {base : Option Addr} {st : DSt} {l : List RF} {x : RF} (hN : N ≤ 1099511627776) (hr : RRep l st) (hc : l.length ≤ c ∧ l.length ≤ N) (ho : st.off = false) (hj : l[j]? = some x) (hn : n ≤ x.b.xs.length) (hd : 0 ≤ st.deeds ∧ st.deeds + 1 ≤ 9223372036854775807) :
  Fun Tryz.prog w0 50 [.pointer (some ⟨r, 0, none⟩), .string x.name, .int .i64 n] (cel r (rcells base l.length c st) 64 :: row base c 3 153 (fcells l) :: rows 5 (l.map (·.b)) :: A)
   (Ret w0 (fun _ : Unit => True) (fun _ => .int .i64 (if st.fuse - 1 = 0 then 20 else 0)) (fun _ => if st.fuse - 1 = 0 then rdisk r N (offS st.keep { st with deeds := st.deeds + 1, fuse := 0 }) :: A
    else rdisk r N { st with deeds := st.deeds + 1, fuse := max (st.fuse - 1) 0, files := putV x.name (x.b.xs.take n, min x.safe n) st.files } :: A)) := by
 obtain ⟨files, off, fuse, keep0, deeds⟩ := st
 obtain rfl : off = false := ho
 have hu := hr.fuse
 dsimp only at hu hd
 have hjl := (List.getElem?_eq_some_iff.1 hj).1
 have hfl := fcells_length l
 have hpos : 0 < (fcells l).length := by omega
 have hf1 := fc1 hj
 have hf2 := fc2 hj
 have hst : ((j : Int)).toNat * 3 + 1 < (fcells l).length := by omega
 have hstb : ((j : Int)).toNat * 3 + 2 < ((fcells l).set (((j : Int)).toNat * 3 + 1) (.slice x.b.base ((n : Int)).toNat x.b.cap)).length := by rw [List.length_set]; omega
 have hf2b : ((fcells l).set (((j : Int)).toNat * 3 + 1) (.slice x.b.base ((n : Int)).toNat x.b.cap))[((j : Int)).toNat * 3 + 2]? = some (.int .i64 x.safe) := by rw [List.getElem?_set_ne (by omega)]; exact hf2
 have hposb : 0 < ((fcells l).set (((j : Int)).toNat * 3 + 1) (.slice x.b.base ((n : Int)).toNat x.b.cap)).length := by rw [List.length_set]; omega
 have hok := hr.ok x (List.mem_of_getElem? hj)
 refine Fun.known (fun w h => row_some hpos h.pk1) fun hb => ?_
 have hbb := hb
 refine Fun.enter Tryz.func50 rfl Tryz.ntmps50 rfl ?_
 refine wS $ wR $ yI rfl $ wN $ tN $ wS $ wS $ wR $ zP rfl $ uN rfl $ sv (vfld fl64f1 rfl) $ sv (vldc pl4 rfl) $ wN $ tN $ ?_
 refine WC.ff rfl ?_
 refine WC.skip $ tN $ wS $ wR $ zP rfl $ sv (vmT rfl) $ cl (ref_find_j (by omega) hr.nodup hj) ct75 rfl fun _ _ => yI rfl $ wN $ tN $ wS $ wS $ wR $ zI rfl $ sv (vlt rfl rfl) $ wN $ tN $ ?_
 refine WC.ite rfl (fun h2 => ?_) (fun h2 => ?_)
 ·
  omega
 ·
  refine WC.skip $ tN $ wS $ ?_
  refine WC.cut0 [(31, .bool (decide ((n : Int) < 0 ∨ (x.b.xs.length : Int) < n)))] [(0, .pointer _), (2, .int _ _), (7, .int _ _)] (cel r (rcells base l.length c ⟨files, false, fuse, keep0, deeds⟩) 64 :: row base c 3 153 (fcells l) :: rows 5 (l.map (·.b)) :: A) ⟨rfl, rfl, rfl, trivial⟩ ?_ fun ρh => ?_
  ·
   refine wR $ zI rfl $ svs (vlt rfl rfl) (fun q1 => ?_) (fun q1 => ?_)
   ·
    exact zB rfl $ sng rfl $ sng rfl $ sng rfl $ sng rfl $ sng rfl $ sng rfl $ sng rfl $ sng rfl $ sng rfl $ sng rfl $ sng rfl $ uT rfl $ wN $ xM () trivial ⟨bTa, trivial⟩ ⟨rfl, rfl, rfl, trivial⟩ (fun _ h => h)
   ·
    exact zB rfl $ svg rfl (vmI rfl) $ svg rfl (vmP rfl) $ svg rfl (vnil rfl) $ svg rfl (vfld fl64f0 rfl) $ svg rfl (vldc pl62 rfl) $ svg rfl (vmI rfl) $ svg rfl (vix Tryz.underlying62 sz153 rfl rfl (by omega) (by omega) reads (hpos)) $ svg rfl (vfldr (hb) fl153f1 rfl) $ svg rfl (vldo pl108 rfl reads (hf1)) $ svg rfl (vlen Tryz.underlying108 rfl) $ svg rfl (vgt rfl rfl) $ uF rfl $ wN $ xM () trivial ⟨bIa, trivial⟩ ⟨rfl, rfl, rfl, trivial⟩ (fun _ h => h)
  refine WC.ite rfl (fun h3 => ?_) (fun h3 => ?_)
  ·
   omega
  ·
   refine WC.skip $ tN $ wS $ wS $ wR $ zP rfl $ cl (ref_deed hu hd) ct77 rfl fun _ _ => wN $ tN $ ?_
   refine WC.ite rfl (fun h4 => ?_) (fun h4 => ?_)
   ·
    simp only [if_pos h4]
    dsimp only at h4
    refine wS $ wR $ zP rfl $ zP rfl $ uN rfl $ sv (vfld fl64f3 rfl) $ sv (vldc pl3 rfl) $ pm (fun _ h => rdisk_mk (st := ⟨files, false, max (fuse - 1) 0, keep0, deeds + 1⟩) (hr.same rfl (by dsimp only; omega)) hc h) $ cl (ref_off) ct63 rfl fun _ _ => wN $ tN $ wS $ wR $ yI rfl $ wN $ tN $ WC.ret $ tR $ xR rfl (()) (trivial) rfl (fun w h => ?_)
    have e : max (fuse - 1) 0 = 0 := by omega
    rw [e] at h; exact h
   ·
    simp only [if_neg h4]
    refine WC.skip $ tN $ wS $ WC.plan (.bar [0, 1, 2, 3, 4, 5, 6, 7, 8, 9, 10, 11, 12, 13, 14, 15, 16] 17 (.done [])) rfl (by kernel_rfl) $ WPl.bar (trivial) $ dv (fun g => (vmP rfl)) $ dv (fun g => (vnil rfl)) $ dv (fun g => (vfld fl64f0 rfl)) $ dv (fun g => (vldc pl62 rfl)) $ dv (fun g => (vmI rfl)) $ dv (fun g => (vmP rfl)) $ dv (fun g => (vnil rfl)) $ dv (fun g => (vfld fl64f0 rfl)) $ dv (fun g => (vldc pl62 rfl)) $ dv (fun g => (vmI rfl)) $ dv (fun g => (vix Tryz.underlying62 sz153 rfl rfl (by omega) (by omega) reads (hpos))) $ dv (fun g => (vfldr (hb) fl153f1 rfl)) $ dv (fun g => (vldo pl108 rfl reads (hf1))) $ dv (fun g => (vmI rfl)) $ dv (fun g => (vslH Tryz.underlying108 sz5 rfl rfl (by omega) (by omega))) $ dv (fun g => (vix Tryz.underlying62 sz153 rfl rfl (by omega) (by omega) reads (hpos))) $ dv (fun g => (vfldr (hb) fl153f1 rfl)) $ WD.eff rfl $ pm (fun _ h => h.pk1) $ str (v := .slice _ _ _) pl108 sz108 rfl rfl rfl (hst) $ wN $ WX.brT $ WPl.fin (trivial) $ WD.nil $ tN $ wS $ WC.plan (.bar [0, 1, 2, 3, 4, 5, 6, 7, 8, 9, 10, 11, 12, 13, 14, 15, 16] 17 (.done [])) rfl (by kernel_rfl) $ WPl.bar (trivial) $ dv (fun g => (vmP rfl)) $ dv (fun g => (vnil rfl)) $ dv (fun g => (vfld fl64f0 rfl)) $ dv (fun g => (vldc pl62 rfl)) $ dv (fun g => (vmI rfl)) $ dv (fun g => (vmP rfl)) $ dv (fun g => (vnil rfl)) $ dv (fun g => (vfld fl64f0 rfl)) $ dv (fun g => (vldc pl62 rfl)) $ dv (fun g => (vmI rfl)) $ dv (fun g => (vix Tryz.underlying62 sz153 rfl rfl (by omega) (by omega) reads (hposb))) $ dv (fun g => (vfldr (hbb) fl153f2 rfl)) $ dv (fun g => (vldo pl3 rfl reads (hf2b))) $ dv (fun g => (vmI rfl)) $ dv (fun g => (vmin rfl rfl)) $ dv (fun g => (vix Tryz.underlying62 sz153 rfl rfl (by omega) (by omega) reads (hposb))) $ dv (fun g => (vfldr (hbb) fl153f2 rfl)) $ WD.eff rfl $ str (v := .int _ _) pl3 sz3 rfl rfl rfl (hstb) $ wN $ WX.brT $ WPl.fin (trivial) $ WD.nil $ tN $ wS $ wR $ yI rfl $ wN $ tN $ WC.ret $ xR rfl (()) (trivial) rfl (fun w h => ?_)
    have hxl : (x.b.xs.take n).length = n := by rw [List.length_take]; omega
    have e := fcells_set (y := ⟨x.name, ⟨x.b.base, x.b.xs.take n, x.b.cap⟩, min x.safe n⟩) hj rfl
    dsimp only at e
    have em : min (x.safe : Int) (n : Int) = ((min x.safe n : Nat) : Int) := by omega
    rw [hxl] at e
    rw [Int.toNat_natCast, Int.toNat_natCast, em, ← e] at h
    have h1 := (rows_take n (x := x.b) (by rw [List.getElem?_map, hj]; rfl) h.pk2).pk2.pk2.pk1
    refine rdisk_mk (l := l.set j ⟨x.name, ⟨x.b.base, x.b.xs.take n, x.b.cap⟩, min x.safe n⟩) (base := base) (c := c) (hr.put hj rfl ⟨by dsimp only; omega, by dsimp only; omega, by dsimp only; omega⟩ rfl (by dsimp only; omega)) (by rw [List.length_set]; exact hc) ?_
    rw [List.length_set, List.map_set]
    exact h1
theorem ref_cut {r N : Nat} {st : DSt} {nm : ByteArray} {n : Int} (hd : 0 ≤ st.deeds ∧ st.deeds + 1 ≤ 9223372036854775807) (hN : N ≤ 1099511627776) :
  Fun Tryz.prog w0 50 [.pointer (some ⟨r, 0, none⟩), .string nm, .int .i64 n] (rdisk r N st :: A) (Ru w0 (.int .i64 (cutS nm n st).2) (rdisk r N (cutS nm n st).1 :: A)) := by
 refine Fun.ex (fun w h => rdisk_open h) ?_
 rintro ⟨base, c, l⟩ ⟨hr, hc⟩
 dsimp only at hr hc ⊢
 by_cases hne : findE nm st = 0
 ·obtain ⟨ho, v, hf⟩ := findE_ok hne
  obtain ⟨j, x, hj, rfl, rfl⟩ := hr.at hf
  by_cases hn : n < 0 ∨ (x.b.xs.length : Int) < n
  ·have hk : cutS x.name n st = (st, 1) := by unfold cutS; rw [if_neg (by rw [ho]; decide), hf]; dsimp only; rw [if_pos hn]
   rw [hk]
   exact (ref_cut_arg (by omega) hr ho hj hn).mono fun e w ⟨i, hi, he, hO⟩ => ⟨i, hi, he, rdisk_mk hr hc hO⟩
  ·obtain ⟨n, rfl⟩ : ∃ k : Nat, n = k := ⟨n.toNat, by omega⟩
   have hk : cutS x.name n st = deedS (putV x.name (x.b.xs.take n, min x.safe n)) id st := by unfold cutS; rw [if_neg (by rw [ho]; decide), hf]; dsimp only; rw [if_neg hn]; rfl
   refine (ref_cut_ok hN hr hc ho hj (by omega) hd).mono fun e w ⟨i, hi, he, hO⟩ => ⟨i, hi, ?_, ?_⟩
   ·rw [he, hk]; unfold deedS; split <;> rfl
   ·rw [hk]; unfold deedS
    dsimp only at hO
    split at hO
    ·rename_i h; rw [if_pos h]; exact hO
    ·rename_i h; rw [if_neg h]; exact hO
 ·rw [(readS_bad hne).2.2 n]
  unfold findE at hne ⊢
  cases ho : st.off with
  | true =>
   simp only [if_true]
   exact (ref_cut_off ho).mono fun e w ⟨i, hi, he, hO⟩ => ⟨i, hi, he, rdisk_mk hr hc hO⟩
  | false =>
   cases hf : st.files nm with
   | some v => simp [ho, hf] at hne
   | none =>
    simp only [Bool.false_eq_true, if_false, Option.isSome_none]
    exact (ref_cut_no (by omega) ho (hr.no hf)).mono fun e w ⟨i, hi, he, hO⟩ => ⟨i, hi, he, rdisk_mk hr hc hO⟩
instance nlessDec (a b : ByteArray) : Decidable (nless a b) := inferInstanceAs (Decidable (_ = true))
theorem nless_trans {a b c : ByteArray} (h1 : nless a b) (h2 : nless b c) : nless a c := by
 rw [nless_iff] at *
 exact List.lt_trans h1 h2
theorem nless_of {a b : ByteArray} (h : ¬ nless a b) (hn : a ≠ b) : nless b a := by
 rw [nless_iff] at *
 rcases List.le_iff_lt_or_eq.1 (List.not_lt.1 h) with h2 | h2
 ·exact h2
 ·exact absurd (toList_inj.1 h2).symm hn
def insR (p : Nat) (y : RF) (l : List RF) : List RF := l.take p ++ y :: l.drop p
theorem insR_length {p : Nat} {y : RF} {l : List RF} : (insR p y l).length = l.length + 1 := by simp [insR]; omega
theorem insR_at {p : Nat} {y : RF} {l : List RF} (hp : p ≤ l.length) : (insR p y l)[p]? = some y := by
 unfold insR
 have : (l.take p).length = p := by rw [List.length_take]; omega
 rw [List.getElem?_append_right (by omega), this, Nat.sub_self]; rfl
theorem insR_sorted {p : Nat} {y : RF} {l : List RF} (hp : p ≤ l.length) (hs : (l.map (·.name)).Pairwise nless) (h1 : ∀ (k : Nat) (x : RF), k < p → l[k]? = some x → nless x.name y.name) (h2 : ∀ x, l[p]? = some x → ¬ nless x.name y.name) (hno : ∀ x ∈ l, x.name ≠ y.name) :
  ((insR p y l).map (·.name)).Pairwise nless := by
 have hs' := hs
 rw [← List.take_append_drop p l, List.map_append, List.pairwise_append] at hs'
 unfold insR
 rw [List.map_append, List.map_cons, List.pairwise_append]
 have hd : ∀ b ∈ (l.drop p).map (·.name), nless y.name b := by
  intro b hb
  obtain ⟨x, hx, rfl⟩ := List.mem_map.1 hb
  cases hdp : l.drop p with
  | nil => rw [hdp] at hx; cases hx
  | cons z t =>
   have hz : l[p]? = some z := by
    have := congrArg (fun m => m[0]?) hdp
    simpa [List.getElem?_drop] using this
   have h3 : nless y.name z.name := nless_of (h2 z hz) (hno z (List.mem_of_getElem? hz))
   rw [hdp] at hx
   rcases List.mem_cons.1 hx with rfl | hx
   ·exact h3
   ·have h4 := hs'.2.1
    rw [hdp, List.map_cons, List.pairwise_cons] at h4
    exact nless_trans h3 (h4.1 _ (List.mem_map.2 ⟨x, hx, rfl⟩))
 refine ⟨hs'.1, List.pairwise_cons.2 ⟨hd, hs'.2.1⟩, fun a ha b hb => ?_⟩
 have h5 : nless a y.name := by
  obtain ⟨x, hx, rfl⟩ := List.mem_map.1 ha
  obtain ⟨k, hk⟩ := List.mem_iff_getElem?.1 hx
  rw [List.getElem?_take] at hk
  split at hk
  ·exact h1 k x (by assumption) hk
  ·cases hk
 rcases List.mem_cons.1 hb with rfl | hb
 ·exact h5
 ·exact nless_trans h5 (hd b hb)
theorem lookR_ins {y : RF} {k : ByteArray} : ∀ {l : List RF} {p : Nat}, (∀ x ∈ l, x.name ≠ y.name) → lookR (insR p y l) k = if k = y.name then some (y.b.xs, y.safe) else lookR l k
 | [], p, h => by
  have e : insR p y [] = [y] := by simp [insR]
  rw [e]
  simp only [lookR]
  by_cases hk : y.name = k
  ·simp [hk]
  ·rw [if_neg hk, if_neg (Ne.symm hk)]
 | z :: l, 0, h => by
  have e : insR 0 y (z :: l) = y :: z :: l := rfl
  rw [e]
  show (if y.name = k then _ else lookR (z :: l) k) = _
  by_cases hk : y.name = k
  ·simp [hk]
  ·rw [if_neg hk, if_neg (Ne.symm hk)]
 | z :: l, p + 1, h => by
  have e : insR (p + 1) y (z :: l) = z :: insR p y l := rfl
  rw [e]
  simp only [lookR]
  rw [lookR_ins fun x hx => h x (List.mem_cons_of_mem _ hx)]
  by_cases hk : z.name = k
  ·have : k ≠ y.name := fun he => h z (List.mem_cons_self ..) (by rw [hk, he])
   rw [if_pos hk, if_neg this, if_pos hk]
  ·rw [if_neg hk, if_neg hk]
theorem putV_same {nm : ByteArray} {v : List UInt8 × Nat} {f : ByteArray → Option (List UInt8 × Nat)} (h : f nm = some v) : putV nm v f = f := by
 funext k
 unfold putV
 split
 ·rename_i hk; rw [hk, h]
 ·rfl
theorem putV_put {nm : ByteArray} {v u : List UInt8 × Nat} {f : ByteArray → Option (List UInt8 × Nat)} : putV nm u (putV nm v f) = putV nm u f := by
 funext k
 unfold putV
 split <;> simp_all
theorem rows_ins {w0 w : World} {e : TypeId} {y : Sla UInt8} : ∀ {p : Nat} {l : List (Sla UInt8)} {A : List HProp}, Own w0 (row y.base y.cap 1 e (u8s y.xs) :: rows e l :: A) w → Own w0 (rows e (l.take p ++ y :: l.drop p) :: A) w
 | 0, l, A, H => H.intro_star
 | p + 1, [], A, H => H.intro_star
 | p + 1, z :: l, A, H => by
  have h1 := H.pk1.star.pk1.pk2
  exact (rows_ins (p := p) (l := l) (h1.ix [0, 1, 2])).pk1.intro_star
theorem rows_put {w0 w : World} {e : TypeId} {y : Sla UInt8} : ∀ {l : List (Sla UInt8)} {i : Nat} {A : List HProp}, i < l.length → Own w0 (row y.base y.cap 1 e (u8s y.xs) :: rows e l :: A) w → Own w0 (rows e (l.set i y) :: A) w
 | [], _, _, h, _ => by simp at h
 | z :: l, 0, A, h, H => by
  have h1 := H.pk1.star.tail
  exact h1.pk1.intro_star
 | z :: l, i + 1, A, h, H => by
  have h1 := H.pk1.star.pk1.pk2
  exact (rows_put (l := l) (by simpa using h) (h1.ix [0, 1, 2])).pk1.intro_star
theorem fcells_b {l : List RF} {i : Nat} {x : RF} (b : Sla UInt8) (h : l[i]? = some x) : fcells (l.set i ⟨x.name, b, x.safe⟩) = (fcells l).set (i * 3 + 1) (.slice b.base b.xs.length b.cap) := by
 rw [fcells_set (y := ⟨x.name, b, x.safe⟩) h rfl]
 dsimp only
 have hlt : i * 3 + 2 < ((fcells l).set (i * 3 + 1) (Value.slice b.base b.xs.length b.cap)).length := by
  rw [List.length_set, fcells_length]; have := (List.getElem?_eq_some_iff.1 h).1; omega
 exact set_same (by rw [List.getElem?_set_ne (by omega), fcells_at h (k := 2) (by omega)]; rfl)
theorem fcells_append (a b : List RF) : fcells (a ++ b) = fcells a ++ fcells b := by simp [fcells]
theorem fcells_take {l : List RF} {p : Nat} (hp : p ≤ l.length) : (fcells l).take (p * 3) = fcells (l.take p) := by
 conv => lhs; rw [← List.take_append_drop p l, fcells_append]
 exact List.take_left' (by rw [fcells_length, List.length_take]; congr 1; omega)
theorem fcells_drop {l : List RF} {p : Nat} (hp : p ≤ l.length) : (fcells l).drop (p * 3) = fcells (l.drop p) := by
 conv => lhs; rw [← List.take_append_drop p l, fcells_append]
 exact List.drop_left' (by rw [fcells_length, List.length_take]; congr 1; omega)
theorem fcells_one (l : List RF) : ∀ v ∈ fcells l, v.oneCell' = true := by
 intro v hv
 simp only [fcells, List.mem_flatMap] at hv
 obtain ⟨x, _, hx⟩ := hv
 simp only [List.mem_cons, List.not_mem_nil, or_false] at hx
 rcases hx with rfl | rfl | rfl <;> rfl
theorem ref_append_off {r n c k bc : Nat} {base bb : Option Addr} {st : DSt} {nm : ByteArray} (ho : st.off = true) :
  Fun Tryz.prog w0 85 [.pointer (some ⟨r, 0, none⟩), .string nm, .slice bb k bc] (cel r (rcells base n c st) 64 :: A) (Ru w0 (.int .i64 20) (cel r (rcells base n c st) 64 :: A)) := by
 obtain ⟨files, off, fuse, keep0, deeds⟩ := st
 obtain rfl : off = true := ho
 refine Fun.enter Tryz.func85 rfl Tryz.ntmps85 rfl ?_
 refine wS $ wR $ yI rfl $ wN $ tN $ wS $ wS $ wR $ zP rfl $ uN rfl $ sv (vfld fl64f1 rfl) $ sv (vldc pl4 rfl) $ wN $ tN $ ?_
 refine WC.tt rfl ?_
 exact wS $ wR $ yI rfl $ wN $ tN $ WC.ret $ tR $ xR rfl (()) (trivial) rfl (fun _ h => h)
theorem ref_append_name {r n c k bc : Nat} {base bb : Option Addr} {st : DSt} {nm : ByteArray} (ho : st.off = false) (hn : ¬ okName nm) :
  Fun Tryz.prog w0 85 [.pointer (some ⟨r, 0, none⟩), .string nm, .slice bb k bc] (cel r (rcells base n c st) 64 :: A) (Ru w0 (.int .i64 51) (cel r (rcells base n c st) 64 :: A)) := by
 obtain ⟨files, off, fuse, keep0, deeds⟩ := st
 obtain rfl : off = false := ho
 have hd : decide (okName nm) = false := by simpa using hn
 refine Fun.enter Tryz.func85 rfl Tryz.ntmps85 rfl ?_
 refine wS $ wR $ yI rfl $ wN $ tN $ wS $ wS $ wR $ zP rfl $ uN rfl $ sv (vfld fl64f1 rfl) $ sv (vldc pl4 rfl) $ wN $ tN $ ?_
 refine WC.ff rfl ?_
 refine WC.skip $ tN $ wS $ wS $ wR $ sv (vmT rfl) $ cl (hd ▸ ref_name) ct47 rfl fun _ _ => sv (vnot rfl) $ wN $ tN $ ?_
 refine WC.tt rfl ?_
 exact wS $ wR $ yI rfl $ wN $ tN $ WC.ret $ tR $ xR rfl (()) (trivial) rfl (fun _ h => h)
structure At (l : List RF) (nm : ByteArray) (v : Int) (x : RF) : Prop where
  ge : -1 ≤ v ∧ v < l.length
  at_ : 0 ≤ v → l[v.toNat]? = some x ∧ x.name = nm
  no : v < 0 → (∀ y ∈ l, y.name ≠ nm) ∧ x = ⟨nm, ⟨none, [], 0⟩, 0⟩
theorem RRep.where_ {l : List RF} {st : DSt} (h : RRep l st) (nm : ByteArray) : ∃ v x, At l nm v x ∧ (st.files nm).getD ([], 0) = (x.b.xs, x.safe) := by
  cases hf : st.files nm with
  | none => exact ⟨-1, ⟨nm, ⟨none, [], 0⟩, 0⟩, ⟨by omega, fun h => by omega, fun _ => ⟨h.no hf, rfl⟩⟩, rfl⟩
  | some v =>
    obtain ⟨j, x, hj, rfl, rfl⟩ := h.at hf
    have := (List.getElem?_eq_some_iff.1 hj).1
    exact ⟨j, x, ⟨by omega, fun _ => ⟨by simpa using hj, rfl⟩, fun h => by omega⟩, rfl⟩
theorem ref_find_at {w0 : World} {R : List HProp} {r c : Nat} {base : Option Addr} {st : DSt} {l : List RF} {nm : ByteArray} {x : RF} {v : Int} (hl : l.length ≤ 1099511627776) (hn : (l.map (·.name)).Nodup) (hv : At l nm v x) :
    Fun Tryz.prog w0 75 [.pointer (some ⟨r, 0, none⟩), .string nm] (cel r (rcells base l.length c st) 64 :: row base c 3 153 (fcells l) :: R)
      (Ru w0 (.int .i64 v) (cel r (rcells base l.length c st) 64 :: row base c 3 153 (fcells l) :: R)) :=
  ref_find hl (fun i y hi hy _ => by
    by_cases h0 : 0 ≤ v
    · have := same_name hn hi (hv.at_ h0).1 (hy.trans (hv.at_ h0).2.symm); omega
    · exact absurd hy ((hv.no (by omega)).1 y (List.mem_of_getElem? hi))) (fun h => by
    by_cases h0 : 0 ≤ v
    · exact absurd (hv.at_ h0).2 (h x (List.mem_of_getElem? (hv.at_ h0).1))
    · have := hv.ge; omega)
structure ApI where
  l : List RF
  base : Option Addr
  c : Nat
  j : Nat
  x : RF
structure ApR (nm : ByteArray) (st : DSt) (V : List UInt8 × Nat) (n : Nat) (i : ApI) : Prop where
  rep : RRep i.l { st with files := putV nm V st.files }
  cap : i.l.length ≤ i.c ∧ i.l.length ≤ n
  at_ : i.l[i.j]? = some i.x
  name : i.x.name = nm
  cur : (i.x.b.xs, i.x.safe) = V
theorem fv1 {l : List RF} {v : Int} {x : RF} (h0 : 0 ≤ v) (h : l[v.toNat]? = some x) : (fcells l)[v.toNat * 3 + 1]? = some (.slice x.b.base x.b.xs.length x.b.cap) := by rw [fcells_at h (by omega)]; rfl
theorem ref_append_long {w0 : World} {R : List HProp} {r c k bc : Nat} {base bb : Option Addr} {st : DSt} {nm : ByteArray} {l : List RF} {x : RF} {v : Int} (hl : l.length ≤ 1099511627776) (hr : RRep l st) (ho : st.off = false) (hn : okName nm) (hv : At l nm v x) (hk : 16777216 < x.b.xs.length + k) :
    Fun Tryz.prog w0 85 [.pointer (some ⟨r, 0, none⟩), .string nm, .slice bb k bc] (cel r (rcells base l.length c st) 64 :: row base c 3 153 (fcells l) :: R) (Ru w0 (.int .i64 2) (cel r (rcells base l.length c st) 64 :: row base c 3 153 (fcells l) :: R)) := by
  obtain ⟨files, off, fuse, keep0, deeds⟩ := st
  obtain rfl : off = false := ho
  have hd : decide (okName nm) = true := by simpa using hn
  have hge := hv.ge
  have hxl : 0 ≤ v → x.b.xs.length ≤ 16777216 := fun h => (hr.ok x (List.mem_of_getElem? (hv.at_ h).1)).2.1
  have hx0 : v < 0 → x.b.xs.length = 0 := fun h => by rw [(hv.no h).2]; rfl
  have hfl := fcells_length l
  have hpos : 0 ≤ v → 0 < (fcells l).length := fun h => by omega
  have hf1 : 0 ≤ v → (fcells l)[v.toNat * 3 + 1]? = some (.slice x.b.base x.b.xs.length x.b.cap) := fun h => fv1 h (hv.at_ h).1
  refine Fun.known (p := 0 ≤ v → base.isSome = true) (fun w h hv0 => row_some (hpos hv0) h.pk1) fun hb => ?_
  refine Fun.enter Tryz.func85 rfl Tryz.ntmps85 rfl ?_
  refine wS $ wR $ yI rfl $ wN $ tN $ wS $ wS $ wR $ zP rfl $ uN rfl $ sv (vfld fl64f1 rfl) $ sv (vldc pl4 rfl) $ wN $ tN $ ?_
  refine WC.ff rfl ?_
  refine WC.skip $ tN $ wS $ wS $ wR $ sv (vmT rfl) $ cl (hd ▸ ref_name) ct47 rfl fun _ _ => sv (vnot rfl) $ wN $ tN $ ?_
  refine WC.ff rfl ?_
  refine WC.skip $ tN $ wS $ wR $ zP rfl $ sv (vmT rfl) $ cl (ref_find_at hl hr.nodup hv) ct75 rfl fun _ _ => yI rfl $ wN $ tN $ wS $ ?_
  refine WC.cut0 [(42, .bool (decide ((0 ≤ v ∧ (16777216 : Int) - x.b.xs.length < k) ∨ (16777216 : Int) < k)))] [(0, .pointer _), (1, .string _), (2, .slice _ _ _), (7, .int _ _)] (cel r (rcells base l.length c ⟨files, false, fuse, keep0, deeds⟩) 64 :: row base c 3 153 (fcells l) :: R) ⟨rfl, rfl, rfl, rfl, trivial⟩ ?_ fun ρh => ?_
  ·
    refine wR $ zI rfl $ svs (vge rfl rfl) (fun q1 => ?_) (fun q1 => ?_)
    ·
      refine zB rfl $ svg rfl (vmS rfl) $ svg rfl (vlen Tryz.underlying108 rfl) $ svg rfl (vmP rfl) $ svg rfl (vnil rfl) $ svg rfl (vfld fl64f0 rfl) $ svg rfl (vldc pl62 rfl) $ svg rfl (vmI rfl) $ svg rfl (vix Tryz.underlying62 sz153 rfl rfl (by omega) (by omega) reads (hpos q1)) $ svg rfl (vfldr (hb q1) fl153f1 rfl) $ svg rfl (vldo pl108 rfl reads (hf1 q1)) $ svg rfl (vlen Tryz.underlying108 rfl) $ svg rfl (vsub rfl rfl (by have := hxl q1; omega)) $ svsg rfl (vgt rfl rfl) (fun q2 => ?_) (fun q2 => ?_)
      ·
        exact uT rfl $ zB rfl $ sng rfl $ sng rfl $ sng rfl $ uT rfl $ wN $ xM () trivial ⟨bTa, trivial⟩ ⟨rfl, rfl, rfl, rfl, trivial⟩ (fun _ h => h)
      ·
        exact uT rfl $ zB rfl $ svg rfl (vmS rfl) $ svg rfl (vlen Tryz.underlying108 rfl) $ svg rfl (vgt rfl rfl) $ uF rfl $ wN $ xM () trivial ⟨bIa, trivial⟩ ⟨rfl, rfl, rfl, rfl, trivial⟩ (fun _ h => h)
    ·
      exact zB rfl $ sng rfl $ sng rfl $ sng rfl $ sng rfl $ sng rfl $ sng rfl $ sng rfl $ sng rfl $ sng rfl $ sng rfl $ sng rfl $ sng rfl $ sng rfl $ uF rfl $ zB rfl $ svg rfl (vmS rfl) $ svg rfl (vlen Tryz.underlying108 rfl) $ svg rfl (vgt rfl rfl) $ uF rfl $ wN $ xM () trivial ⟨bIa, trivial⟩ ⟨rfl, rfl, rfl, rfl, trivial⟩ (fun _ h => h)
  refine WC.ite rfl (fun h3 => ?_) (fun h3 => ?_)
  ·
    exact wS $ wR $ yI rfl $ wN $ tN $ WC.ret $ tR $ xR rfl (()) (trivial) rfl (fun _ h => h)
  ·
    exact absurd (by by_cases h0 : 0 ≤ v; exact .inl ⟨h0, by omega⟩; exact .inr (by have := hx0 (by omega); omega)) h3
theorem one3 {a b c : Value} (h1 : a.oneCell' = true) (h2 : b.oneCell' = true) (h3 : c.oneCell' = true) : ∀ v ∈ [a, b, c], v.oneCell' = true := by
  intro v hv
  simp only [List.mem_cons, List.not_mem_nil, or_false] at hv
  rcases hv with h | h | h <;> rw [h] <;> assumption
theorem rd_fdrop {base : Option Addr} {l : List RF} {p c : Nat} (h : RdC w0 A base (fcells l)) (hp : p ≤ l.length) (hc : l.length ≤ c) : RdC w0 A (slB base p c 3) (fcells (l.drop p)) := by
  have := h.slice p c 3 ((l.length - p) * 3) (fun h => by have : l.length - p = 0 := by omega
                                                          rw [this, Nat.zero_mul])
  rwa [fcells_drop hp, List.take_of_length_le (by rw [fcells_length, List.length_drop]; exact Nat.le_refl _)] at this
theorem ap_len {w0 w : World} {A : List HProp} {r n n' c : Nat} {base : Option Addr} {st : DSt} (h : n = n') (H : Own w0 (cel r (rcells base n c st) 64 :: A) w) : Own w0 (cel r (rcells base n' c st) 64 :: A) w := h ▸ H
theorem RRep.file {l : List RF} {st : DSt} {j : Nat} {x : RF} {nm : ByteArray} (h : RRep l st) (hj : l[j]? = some x) (hn : x.name = nm) : st.files nm = some (x.b.xs, x.safe) := by
  cases hf : st.files nm with
  | none => exact absurd hn (h.no hf x (List.mem_of_getElem? hj))
  | some v =>
    obtain ⟨i, y, hi, hy, rfl⟩ := h.at hf
    have := same_name h.nodup hi hj (hy.trans hn.symm)
    subst this
    rw [hi] at hj; cases hj; rfl
theorem ap_close {w0 w : World} {A : List HProp} {r N c1 j c2 n2 : Nat} {base1 base2 : Option Addr} {st1 st' : DSt} {l1 : List RF} {x1 : RF} {all : List UInt8} (g1 : RRep l1 st1) (g2 : l1.length ≤ c1 ∧ l1.length ≤ N) (g3 : l1[j]? = some x1) (hn : n2 = all.length) (hc2 : n2 ≤ c2) (hl : x1.b.xs.length ≤ all.length ∧ all.length ≤ 16777216) (hf : st'.files = putV x1.name (all, x1.safe) st1.files) (hu : 0 ≤ st'.fuse ∧ st'.fuse ≤ 9223372036854775807)
    (h : Own w0 (row base1 c1 3 153 ((fcells l1).set (((j : Int)).toNat * 3 + 1) (.slice base2 n2 c2)) :: row base2 c2 1 5 (u8s all) :: cel r (rcells base1 l1.length c1 st') 64 :: rows 5 (l1.map (·.b)) :: A) w) : Own w0 (rdisk r N st' :: A) w := by
  have hok := g1.ok x1 (List.mem_of_getElem? g3)
  have hjl := (List.getElem?_eq_some_iff.1 g3).1
  subst hn
  have e := fcells_b ⟨base2, all, c2⟩ g3
  dsimp only at e
  rw [Int.toNat_natCast, ← e] at h
  have h1 := rows_put (i := j) (y := ⟨base2, all, c2⟩) (by simpa using hjl) (h.ix [1, 3, 0, 2])
  refine rdisk_mk (l := l1.set j ⟨x1.name, ⟨base2, all, c2⟩, x1.safe⟩) (base := base1) (c := c1) (g1.put g3 rfl ⟨by dsimp only; omega, hl.2, hc2⟩ hf hu) (by rw [List.length_set]; exact g2) ?_
  rw [List.length_set, List.map_set]
  exact h1.ix [2, 1, 0]
theorem ref_append_ok {r c k bc N : Nat} {base bb : Option Addr} {st : DSt} {nm : ByteArray} {l : List RF} {x : RF} {v : Int} {b : List UInt8} (hN : N + 1 ≤ 1099511627776) (hr : RRep l st) (hc : l.length ≤ c ∧ l.length ≤ N) (ho : st.off = false) (hn : okName nm) (hv : At l nm v x) (hR : RdC w0 A bb (u8s b)) (hkb : k = b.length) (hk : x.b.xs.length + k ≤ 16777216) (hd : 0 ≤ st.deeds ∧ st.deeds + 1 ≤ 9223372036854775807) :
    Fun Tryz.prog w0 85 [.pointer (some ⟨r, 0, none⟩), .string nm, .slice bb k bc] (cel r (rcells base l.length c st) 64 :: row base c 3 153 (fcells l) :: rows 5 (l.map (·.b)) :: A)
      (Ret w0 (fun _ : Unit => True) (fun _ => .int .i64 (if st.fuse - 1 = 0 then 20 else 0)) (fun _ => if st.fuse - 1 = 0 then rdisk r (N + 1) (offS st.keep { st with deeds := st.deeds + 1, fuse := 0, files := putV nm (x.b.xs ++ b, x.safe) st.files }) :: A
        else rdisk r (N + 1) { st with deeds := st.deeds + 1, fuse := max (st.fuse - 1) 0, files := putV nm (x.b.xs ++ b, x.safe) st.files } :: A)) := by
  obtain ⟨files, off, fuse, keep0, deeds⟩ := st
  obtain rfl : off = false := ho
  have hdn : decide (okName nm) = true := by simpa using hn
  have hu := hr.fuse
  dsimp only at hu hd
  have hge := hv.ge
  have hxl : 0 ≤ v → x.b.xs.length ≤ 16777216 := fun h => (hr.ok x (List.mem_of_getElem? (hv.at_ h).1)).2.1
  have hfl := fcells_length l
  have hpos : 0 ≤ v → 0 < (fcells l).length := fun h => by omega
  have hf1 : 0 ≤ v → (fcells l)[v.toNat * 3 + 1]? = some (.slice x.b.base x.b.xs.length x.b.cap) := fun h => fv1 h (hv.at_ h).1
  refine Fun.known (p := 0 ≤ v → base.isSome = true) (fun w h hv0 => row_some (hpos hv0) h.pk1) fun hb => ?_
  refine Fun.enter Tryz.func85 rfl Tryz.ntmps85 rfl ?_
  refine wS $ wR $ yI rfl $ wN $ tN $ wS $ wS $ wR $ zP rfl $ uN rfl $ sv (vfld fl64f1 rfl) $ sv (vldc pl4 rfl) $ wN $ tN $ ?_
  refine WC.ff rfl ?_
  refine WC.skip $ tN $ wS $ wS $ wR $ sv (vmT rfl) $ cl (hdn ▸ ref_name) ct47 rfl fun _ _ => sv (vnot rfl) $ wN $ tN $ ?_
  refine WC.ff rfl ?_
  refine WC.skip $ tN $ wS $ wR $ zP rfl $ sv (vmT rfl) $ cl (ref_find_at (by omega) hr.nodup hv) ct75 rfl fun _ _ => yI rfl $ wN $ tN $ wS $ ?_
  refine WC.cut0 [(42, .bool (decide ((0 ≤ v ∧ (16777216 : Int) - x.b.xs.length < k) ∨ (16777216 : Int) < k)))] [(0, .pointer _), (1, .string _), (2, .slice _ _ _), (7, .int _ _)] (cel r (rcells base l.length c ⟨files, false, fuse, keep0, deeds⟩) 64 :: row base c 3 153 (fcells l) :: rows 5 (l.map (·.b)) :: A) ⟨rfl, rfl, rfl, rfl, trivial⟩ ?_ fun ρh => ?_
  ·
    refine wR $ zI rfl $ svs (vge rfl rfl) (fun q1 => ?_) (fun q1 => ?_)
    ·
      refine zB rfl $ svg rfl (vmS rfl) $ svg rfl (vlen Tryz.underlying108 rfl) $ svg rfl (vmP rfl) $ svg rfl (vnil rfl) $ svg rfl (vfld fl64f0 rfl) $ svg rfl (vldc pl62 rfl) $ svg rfl (vmI rfl) $ svg rfl (vix Tryz.underlying62 sz153 rfl rfl (by omega) (by omega) reads (hpos q1)) $ svg rfl (vfldr (hb q1) fl153f1 rfl) $ svg rfl (vldo pl108 rfl reads (hf1 q1)) $ svg rfl (vlen Tryz.underlying108 rfl) $ svg rfl (vsub rfl rfl (by have := hxl q1; omega)) $ svsg rfl (vgt rfl rfl) (fun q2 => ?_) (fun q2 => ?_)
      ·
        exact uT rfl $ zB rfl $ sng rfl $ sng rfl $ sng rfl $ uT rfl $ wN $ xM () trivial ⟨bTa, trivial⟩ ⟨rfl, rfl, rfl, rfl, trivial⟩ (fun _ h => h)
      ·
        exact uT rfl $ zB rfl $ svg rfl (vmS rfl) $ svg rfl (vlen Tryz.underlying108 rfl) $ svg rfl (vgt rfl rfl) $ uF rfl $ wN $ xM () trivial ⟨bIa, trivial⟩ ⟨rfl, rfl, rfl, rfl, trivial⟩ (fun _ h => h)
    ·
      exact zB rfl $ sng rfl $ sng rfl $ sng rfl $ sng rfl $ sng rfl $ sng rfl $ sng rfl $ sng rfl $ sng rfl $ sng rfl $ sng rfl $ sng rfl $ sng rfl $ uF rfl $ zB rfl $ svg rfl (vmS rfl) $ svg rfl (vlen Tryz.underlying108 rfl) $ svg rfl (vgt rfl rfl) $ uF rfl $ wN $ xM () trivial ⟨bIa, trivial⟩ ⟨rfl, rfl, rfl, rfl, trivial⟩ (fun _ h => h)
  refine WC.ite rfl (fun h3 => ?_) (fun h3 => ?_)
  ·
    exact absurd h3 (by omega)
  ·
    refine WC.skip $ tN $ ?_
    refine WC.cutv (ι := ApI) (fun i => [(7, .int .i64 i.j)]) [(0, .pointer _), (2, .slice _ _ _)] (fun i => cel r (rcells i.base i.l.length i.c ⟨files, false, fuse, keep0, deeds⟩) 64 :: row i.base i.c 3 153 (fcells i.l) :: rows 5 (i.l.map (·.b)) :: A) (fun i => ApR nm ⟨files, false, fuse, keep0, deeds⟩ (x.b.xs, x.safe) (N + 1) i) ⟨rfl, rfl, trivial⟩ ?_ ?_
    ·
      refine wS $ wR $ zI rfl $ sv (vlt rfl rfl) $ wN $ tN $ ?_
      refine WC.ite rfl (fun h4 => ?_) (fun h4 => ?_)
      ·
        obtain ⟨hno, hxe⟩ := hv.no h4
        subst hxe
        refine wS $ wR $ yI rfl $ wN $ tN $ wS $ WC.block $ ?_
        refine WC.loop (ι := Nat) (fun i => [(7, .int .i64 i)]) [(0, .pointer _), (1, .string _), (2, .slice _ _ _)] (fun i => cel r (rcells base l.length c ⟨files, false, fuse, keep0, deeds⟩) 64 :: row base c 3 153 (fcells l) :: rows 5 (l.map (·.b)) :: A) (fun i => i ≤ l.length ∧ ∀ (k : Nat) (y : RF), k < i → l[k]? = some y → nless y.name nm) (fun i => l.length - i) (0) (⟨by omega, fun k y h => by omega⟩) ⟨rfl, trivial⟩ ⟨rfl, rfl, rfl, trivial⟩ (fun _ h => h) ?_
        intro p ⟨hp, hlt⟩ ρh
        have hpos2 : (p : Int) < l.length → 0 < (fcells l).length := fun h => by omega
        have hf02 : (p : Int) < l.length → (fcells l)[((p : Int)).toNat * 3 + 0]? = some (.string ((l.map (·.name)).getD p ByteArray.empty)) := fun h => by
          have hx : l[p]? = some l[p] := List.getElem?_eq_getElem (by omega)
          rw [fc0 hx, List.getD_eq_getElem?_getD, List.getElem?_map, hx]; rfl
        refine WC.known (p := (p : Int) < l.length → base.isSome = true) (fun w h h0 => row_some (hpos2 h0) h.pk1) fun hb2 => ?_
        refine wS $ ?_
        refine WC.cut0 [(63, .bool (decide (p < l.length ∧ nless ((l.map (·.name)).getD p ByteArray.empty) nm)))] [(0, .pointer _), (1, .string _), (2, .slice _ _ _), (7, .int _ _)] (cel r (rcells base l.length c ⟨files, false, fuse, keep0, deeds⟩) 64 :: row base c 3 153 (fcells l) :: rows 5 (l.map (·.b)) :: A) ⟨rfl, rfl, rfl, rfl, trivial⟩ ?_ fun ρh => ?_
        ·
          refine wR $ zI rfl $ zP rfl $ uN rfl $ sv (vfld fl64f0 rfl) $ sv (vldc pl62 rfl) $ sv (vlen Tryz.underlying62 rfl) $ svs (vlt rfl rfl) (fun q3 => ?_) (fun q3 => ?_)
          ·
            exact zB rfl $ svg rfl (vmP rfl) $ svg rfl (vnil rfl) $ svg rfl (vfld fl64f0 rfl) $ svg rfl (vldc pl62 rfl) $ svg rfl (vmI rfl) $ svg rfl (vix Tryz.underlying62 sz153 rfl rfl (by omega) (by omega) reads (hpos2 q3)) $ svg rfl (vfldr (hb2 q3) fl153f0 rfl) $ svg rfl (vldo pl9 rfl reads (hf02 q3)) $ svg rfl (vmT rfl) $ svg rfl (vlts rfl rfl) $ uT rfl $ wN $ xM () trivial ⟨bB ⟨fun h => ⟨by omega, h⟩, fun h => h.2⟩, trivial⟩ ⟨rfl, rfl, rfl, rfl, trivial⟩ (fun _ h => h)
          ·
            exact zB rfl $ sng rfl $ sng rfl $ sng rfl $ sng rfl $ sng rfl $ sng rfl $ sng rfl $ sng rfl $ sng rfl $ sng rfl $ uF rfl $ wN $ xM () trivial ⟨bF (fun h => q3 (by omega)), trivial⟩ ⟨rfl, rfl, rfl, rfl, trivial⟩ (fun _ h => h)
        refine WC.ite rfl (fun h5 => ?_) (fun h5 => ?_)
        ·
          refine WC.skip $ tN $ WC.block $ wR $ zI rfl $ sv (vadd rfl rfl (by omega)) $ yI rfl $ wN $ WX.blockN $ WX.again (p + 1) (⟨by omega, fun k y hk hy => by rcases Nat.lt_succ_iff_lt_or_eq.1 hk with h | rfl; exact hlt k y h hy; have := h5.2; rwa [List.getD_eq_getElem?_getD, List.getElem?_map, hy] at this⟩) (by have := h5.1; omega) ⟨rfl, trivial⟩ ⟨rfl, rfl, rfl, trivial⟩ (fun _ h => h)
        ·
          refine WC.exit $ WX.thenE $ WX.thenE $ WX.blockH $ tN $ wS $ wR $ yS rfl $ wN $ tN $ wS $ wR $ zS rfl $ zP rfl $ uN rfl $ sv (vfld fl64f0 rfl) $ sv (vldc pl62 rfl) $ zI rfl $ sv (vslH Tryz.underlying62 sz153 rfl rfl (by omega) (by omega)) $ pm (fun _ h => h.intro_row_nil) $ ap (vs := fcells []) (news := fcells (l.take p)) rfl Tryz.underlying62 zt153 rfl rfl rfl rfl (by rw [fcells_length, List.length_take]; omega) (fcells_one _) (by rw [← fcells_take hp]; exact reads.take _) (by simp only [maxLen]; omega) (by omega) fun base15 c15 hc15 =>yS rfl $ wN $ tN $ wS $ wR $ zS rfl $ sv (vmT rfl) $ sv (vbd (ps := [(0, .string _)]) (cs := [_, _, _]) bt153 zt153 rfl (by rfl)) $ apA (v := .agg _) (cs := [.string _, .slice _ _ _, .int _ _]) Tryz.underlying62 zt153 rfl (fun _ => rfl) (fun _ => rfl) rfl rfl rfl (by decide) (by decide) (one3 rfl rfl rfl) (by rw [List.length_append, fcells_length, fcells_length, List.length_take]; simp; omega) (by simp only [maxLen]; omega) (by omega) fun _ base17 c17 hc17 =>yS rfl $ wN $ tN $ wS $ wR $ zS rfl $ zP rfl $ uN rfl $ sv (vfld fl64f0 rfl) $ sv (vldc pl62 rfl) $ zI rfl $ sv (vslL Tryz.underlying62 sz153 rfl rfl (by omega) (by omega)) $ ap (news := fcells (l.drop p)) rfl Tryz.underlying62 zt153 rfl rfl rfl (by rw [List.length_append, List.length_append, fcells_length, fcells_length, List.length_take]; simp; omega) (by rw [fcells_length, List.length_drop]; omega) (fcells_one _) (rd_fdrop reads hp hc.1) (by simp only [maxLen]; omega) (by omega) fun base21 c21 hc21 =>yS rfl $ wN $ tN $ wR $ zP rfl $ zS rfl $ uN rfl $ sv (vfld fl64f0 rfl) $ pm (fun _ h => h.pk1) $ stc (v := .slice _ _ _) pl62 sz62 rfl rfl rfl $ wN $ xM (⟨insR p ⟨nm, ⟨none, [], 0⟩, 0⟩ l, base21, c21, p, ⟨nm, ⟨none, [], 0⟩, 0⟩⟩) (?_) ⟨rfl, trivial⟩ ⟨rfl, rfl, trivial⟩ (fun w h => ?_)
          · refine ⟨⟨insR_sorted hp hr.sorted hlt (fun z hz hn => h5 ⟨(List.getElem?_eq_some_iff.1 hz).1, by rw [List.getD_eq_getElem?_getD, List.getElem?_map, hz]; exact hn⟩) hno, fun k => ?_, fun z hz => ?_, hu⟩, ⟨by dsimp only; rw [insR_length]; omega, by dsimp only; rw [insR_length]; omega⟩, insR_at hp, rfl, rfl⟩
            · rw [lookR_ins hno, hr.look]; rfl
            · rcases List.mem_append.1 hz with hz | hz
              · exact hr.ok z (List.mem_of_mem_take hz)
              · rcases List.mem_cons.1 hz with rfl | hz
                · simp
                · exact hr.ok z (List.mem_of_mem_drop hz)
          · have e1 : fcells (insR p ⟨nm, ⟨none, [], 0⟩, 0⟩ l) = fcells [] ++ fcells (l.take p) ++ [.string nm, .slice none 0 0, .int .i64 0] ++ fcells (l.drop p) := by unfold insR; rw [fcells_append]; simp [fcells]
            have e3 : (insR p ⟨nm, ⟨none, [], 0⟩, 0⟩ l).map (·.b) = (l.map (·.b)).take p ++ ⟨none, [], 0⟩ :: (l.map (·.b)).drop p := by simp [insR, List.map_take, List.map_drop]
            have h2 := h.pk2.tail
            have h3 := rows_ins (p := p) (y := ⟨none, [], 0⟩) (h2.pk2.intro_row_nil)
            dsimp only
            rw [e1, e3]
            refine ap_len ?_ h3.pk2.pk2
            rw [insR_length]; omega
      ·
        exact WC.skip $ xM (⟨l, base, c, v.toNat, x⟩) (⟨hr.same (putV_same (hr.file (hv.at_ (by omega)).1 (hv.at_ (by omega)).2)) hu, ⟨hc.1, by dsimp only; omega⟩, (hv.at_ (by omega)).1, (hv.at_ (by omega)).2, rfl⟩) ⟨iv (by dsimp only; omega), trivial⟩ ⟨rfl, rfl, trivial⟩ (fun _ h => h)
    ·
      rintro ⟨l1, base1, c1, j, x1⟩ ⟨g1, g2, g3, g4, g5⟩ ρh
      dsimp only at g1 g2 g3 g4 g5 ⊢
      have gx : x1.b.xs = x.b.xs := congrArg Prod.fst g5
      have gs : x1.safe = x.safe := congrArg Prod.snd g5
      have gxl := congrArg List.length gx
      have hjl := (List.getElem?_eq_some_iff.1 g3).1
      have hfl1 := fcells_length l1
      have hposJ : 0 < (fcells l1).length := by omega
      have hf1J := fc1 g3
      have hstJ : ((j : Int)).toNat * 3 + 1 < (fcells l1).length := by omega
      have hxm : x1.b ∈ l1.map (·.b) := List.mem_map.2 ⟨x1, List.mem_of_getElem? g3, rfl⟩
      refine WC.known (fun w h => row_some hposJ h.pk1) fun hbJ => ?_
      refine wS $ wR $ zP rfl $ cl (ref_deed hu hd) ct77 rfl fun _ _ => yB rfl $ wN $ tN $ wS $ wR $ yS rfl $ wN $ tN $ wS $ wR $ zS rfl $ zP rfl $ uN rfl $ sv (vfld fl64f0 rfl) $ sv (vldc pl62 rfl) $ zI rfl $ sv (vix Tryz.underlying62 sz153 rfl rfl (by omega) (by omega) reads (hposJ)) $ sv (vfldr (hbJ) fl153f1 rfl) $ sv (vldo pl108 rfl reads (hf1J)) $ pm (fun _ h => h.nil_u8) $ apb Tryz.underlying108 zt5 rfl rfl (by simp) rfl (RdC.of_rows (e := 5) (l := l1.map (·.b)) (by simp) hxm) (by omega) fun base27 c27 hc27 =>yS rfl $ wN $ tN $ wS $ wR $ zS rfl $ zS rfl $ apb Tryz.underlying108 zt5 rfl rfl (by simp) hkb hR.cons.cons.cons.cons (by omega) fun base28 c28 hc28 =>yS rfl $ wN $ tN $ wS $ wR $ zP rfl $ uN rfl $ sv (vfld fl64f0 rfl) $ sv (vldc pl62 rfl) $ zI rfl $ zS rfl $ sv (vix Tryz.underlying62 sz153 rfl rfl (by omega) (by omega) reads (hposJ)) $ sv (vfldr (hbJ) fl153f1 rfl) $ pm (fun _ h => h.pk2) $ str (v := .slice _ _ _) pl108 sz108 rfl rfl rfl (hstJ) $ wN $ tN $ wS $ wS $ wR $ zB rfl $ wN $ tN $ ?_
      refine WC.ite rfl (fun h6 => ?_) (fun h6 => ?_)
      ·
        simp only [if_pos h6]
        dsimp only at h6
        refine wS $ wR $ zP rfl $ zP rfl $ uN rfl $ sv (vfld fl64f3 rfl) $ sv (vldc pl3 rfl) $ pm (fun _ h => ap_close (st' := ⟨putV nm (x.b.xs ++ b, x.safe) files, false, max (fuse - 1) 0, keep0, deeds + 1⟩) g1 g2 g3 (by simp; omega) hc28 (by simp; omega) (by dsimp only; rw [g4, putV_put, gx, gs]; rfl) (by dsimp only; omega) h) $ cl (ref_off) ct63 rfl fun _ _ => wN $ tN $ wS $ wR $ yI rfl $ wN $ tN $ WC.ret $ tR $ xR rfl (()) (trivial) rfl (fun w h => ?_)
        have e : max (fuse - 1) 0 = 0 := by omega
        rw [e] at h; exact h
      ·
        simp only [if_neg h6]
        exact WC.skip $ tN $ wS $ wR $ yI rfl $ wN $ tN $ WC.ret $ xR rfl (()) (trivial) rfl (fun w h => ap_close (st' := ⟨putV nm (x.b.xs ++ b, x.safe) files, false, max (fuse - 1) 0, keep0, deeds + 1⟩) g1 g2 g3 (by simp; omega) hc28 (by simp; omega) (by dsimp only; rw [g4, putV_put, gx, gs]; rfl) (by dsimp only; omega) h)
theorem ref_append {r k bc N : Nat} {bb : Option Addr} {st : DSt} {nm : ByteArray} {b : List UInt8} (hN : N + 1 ≤ 1099511627776) (hR : RdC w0 A bb (u8s b)) (hkb : k = b.length) (hd : 0 ≤ st.deeds ∧ st.deeds + 1 ≤ 9223372036854775807) :
    Fun Tryz.prog w0 85 [.pointer (some ⟨r, 0, none⟩), .string nm, .slice bb k bc] (rdisk r N st :: A) (Ru w0 (.int .i64 (appendS nm b st).2) (rdisk r (N + 1) (appendS nm b st).1 :: A)) := by
  refine Fun.ex (fun w h => rdisk_open h) ?_
  rintro ⟨base, c, l⟩ ⟨hr, hc⟩
  dsimp only at hr hc ⊢
  have hc' : l.length ≤ c ∧ l.length ≤ N + 1 := ⟨hc.1, by omega⟩
  cases ho : st.off with
  | true =>
    have hk : appendS nm b st = (st, 20) := by unfold appendS; rw [if_pos ho]
    rw [hk]
    exact (ref_append_off ho).mono fun e w ⟨i, hi, he, hO⟩ => ⟨i, hi, he, rdisk_mk hr hc' hO⟩
  | false =>
    have hno : ¬ st.off = true := by rw [ho]; decide
    by_cases hnm : okName nm
    · obtain ⟨v, x, hv, hV⟩ := hr.where_ nm
      have hk := appendS_eq (b := b) ho hnm (V := (x.b.xs ++ b, x.safe)) (n := x.b.xs.length + k) (by unfold appendV; rw [hV]) (by simp [hkb])
      rw [hk]
      by_cases hlt : x.b.xs.length + k ≤ 16777216
      · simp only [if_pos hlt]
        refine (ref_append_ok hN hr hc ho hnm hv hR hkb hlt hd).mono fun e w ⟨i, hi, he, hO⟩ => ⟨i, hi, ?_, ?_⟩
        · rw [he]; split <;> rfl
        · dsimp only at hO; split <;> simp_all only [if_true, if_false, not_true, not_false_eq_true]
      · simp only [if_neg hlt]
        exact (ref_append_long (by omega) hr ho hnm hv (by omega)).mono fun e w ⟨i, hi, he, hO⟩ => ⟨i, hi, he, rdisk_mk hr hc' hO⟩
    · have hk : appendS nm b st = (st, 51) := by unfold appendS; rw [if_neg hno, if_pos hnm]
      rw [hk]
      exact (ref_append_name ho hnm).mono fun e w ⟨i, hi, he, hO⟩ => ⟨i, hi, he, rdisk_mk hr hc' hO⟩
end Go.Proofs.YtigjompojlhomaaGreat
end
section
set_option linter.unusedVariables false
set_option linter.unusedSimpArgs false
set_option maxRecDepth 4000
namespace Go.Proofs.YtigjompojlhomaaGreat
open Go.Sl Go.RowKit Go.Pack Go.Journal
variable {w0 : World} {A : List HProp}
theorem ref_read_any {r c : Nat} {base : Option Addr} {st : DSt} {l : List RF} {nm : ByteArray} {bs : List UInt8} {e : Int} (hl : l.length ≤ 1099511627776) (hr : RRep l st) (ho : st.off = false) (hb : readS nm st = (bs, e)) :
  Fun Tryz.prog w0 48 [.pointer (some ⟨r, 0, none⟩), .string nm] (cel r (rcells base l.length c st) 64 :: row base c 3 153 (fcells l) :: rows 5 (l.map (·.b)) :: A)
   (Ret w0 (fun i : Option Addr × Nat => RdC w0 (cel r (rcells base l.length c st) 64 :: row base c 3 153 (fcells l) :: rows 5 (l.map (·.b)) :: A) i.1 (u8s bs) ∧ bs.length ≤ i.2) (fun i => .tuple #[.slice i.1 bs.length i.2, .int .i64 e])
    (fun _ => cel r (rcells base l.length c st) 64 :: row base c 3 153 (fcells l) :: rows 5 (l.map (·.b)) :: A)) := by
 unfold readS at hb
 rw [if_neg (by rw [ho]; decide)] at hb
 cases hf : st.files nm with
 | none =>
  rw [hf] at hb
  cases hb
  exact (ref_read_no hl ho (hr.no hf)).mono fun e w ⟨i, hi, he, hO⟩ => ⟨(none, 0), ⟨RdC.nil, Nat.le_refl _⟩, he, hO⟩
 | some v =>
  rw [hf] at hb
  obtain ⟨j, x, hj, rfl, rfl⟩ := hr.at hf
  cases hb
  have hm : x.b ∈ l.map (·.b) := List.mem_map.2 ⟨x, List.mem_of_getElem? hj, rfl⟩
  exact (ref_read_ok hl hr ho hj).mono fun e w ⟨i, hi, he, hO⟩ => ⟨(x.b.base, x.b.cap), ⟨RdC.of_rows (e := 5) (l := l.map (·.b)) (by simp) hm, (hr.ok x (List.mem_of_getElem? hj)).2.2⟩, he, hO⟩
theorem ref_cut_at {r N : Nat} {st st' : DSt} {nm : ByteArray} {n e : Int} (hd : 0 ≤ st.deeds ∧ st.deeds + 1 ≤ 9223372036854775807) (hN : N ≤ 1099511627776) (h : cutS nm n st = (st', e)) :
  Fun Tryz.prog w0 50 [.pointer (some ⟨r, 0, none⟩), .string nm, .int .i64 n] (rdisk r N st :: A) (Ru w0 (.int .i64 e) (rdisk r N st' :: A)) := by
 have := ref_cut (w0 := w0) (A := A) (r := r) (nm := nm) (n := n) hd hN
 rw [h] at this; exact this
abbrev wcells (r : Nat) (nm : ByteArray) (n : Int) (sick : Bool) : List Value := [.pointer (some ⟨r, 0, none⟩), .string nm, .int .i64 n, .bool sick]
theorem ref_open_ok {r N : Nat} {nm : ByteArray} {st st' : DSt} {recs : List (List UInt8)} (hN : N ≤ 1099511627776) (hd : 0 ≤ st.deeds ∧ st.deeds + 1 ≤ 9223372036854775807) (ho : openS nm st = (st', 0)) (hrecs : (recsB (readS nm st).1).1 = recs) (hblen : (readS nm st).1.length ≤ 16777216) :
  Fun Tryz.prog w0 19 [.pointer (some ⟨r, 0, none⟩), .string nm] (rdisk r N st :: A)
   (Ret w0 (fun i : Nat × Option Addr × Nat × List (Sla UInt8) => i.2.2.2.map (·.xs) = recs ∧ i.2.2.2.length ≤ i.2.2.1)
    (fun i => .tuple #[.pointer (some ⟨i.1, 0, none⟩), .slice i.2.1 i.2.2.2.length i.2.2.1, .int .i64 0])
    (fun i => cel i.1 (wcells r nm i.2.2.2.length false) 125 :: rdisk r N st' :: row i.2.1 i.2.2.1 1 108 (bss i.2.2.2) :: rows 5 i.2.2.2 :: A)) := by
 refine Fun.ex (fun w h => rdisk_open h) ?_
 rintro ⟨base, c, l⟩ ⟨hr, hc⟩
 dsimp only at hr hc ⊢
 have h1 : st.off = false := by
  cases h : st.off with
  | false => rfl
  | true => unfold openS at ho; rw [if_pos h] at ho; cases ho
 have hno : ¬ st.off = true := by rw [h1]; decide
 have h2 : decide (okName nm) = true := by
  by_cases h : okName nm
  ·simpa using h
  ·unfold openS at ho; rw [if_neg hno, if_pos h] at ho; cases ho
 unfold openS at ho
 rw [if_neg hno, if_neg (by simpa using h2)] at ho
 obtain ⟨b, hb⟩ : ∃ b, b = (readS nm st).1 := ⟨_, rfl⟩
 obtain ⟨e, he⟩ : ∃ e, e = (readS nm st).2 := ⟨_, rfl⟩
 have hrd : readS nm st = (b, e) := by rw [hb, he]
 rw [← hb] at ho hblen hrecs
 have hwl := congrArg List.length (recsB_whole b)
 rw [List.length_append] at hwl
 have hcut : ((flat (recsB b).1).length : Int) < (b.length : Int) → cutS nm ((flat (recsB b).1).length : Int) st = (st', 0) := fun h => by
  rw [if_neg (fun h2 => by rw [h2] at hwl; simp at hwl; omega)] at ho
  rw [← ho]; congr 1; omega
 have hsame : ¬ ((flat (recsB b).1).length : Int) < (b.length : Int) → st = st' := fun h => by
  rw [if_pos (List.eq_nil_of_length_eq_zero (by omega))] at ho; cases ho; rfl
 obtain ⟨files, off, fuse, keep0, deeds⟩ := st
 obtain rfl : off = false := h1
 refine Fun.enter Tryz.func19 rfl Tryz.ntmps19 rfl ?_
 refine wS $ wR $ sv (vaP rfl) $ yS rfl $ yI rfl $ wN $ tN $ wS $ wS $ wR $ zP rfl $ uN rfl $ sv (vfld fl64f1 rfl) $ sv (vldc pl4 rfl) $ wN $ tN $ ?_
 refine WC.ff rfl ?_
 refine WC.skip $ tN $ wS $ wS $ wR $ sv (vmT rfl) $ cl (h2 ▸ ref_name) ct47 rfl fun _ _ => sv (vnot rfl) $ wN $ tN $ ?_
 refine WC.ff rfl ?_
 refine WC.skip $ tN $ wS $ wR $ zP rfl $ sv (vmT rfl) $ cl (ref_read_any (by omega) hr rfl hrd) ct48 rfl fun i3 hi3 => ?_
 obtain ⟨hr3, hc3⟩ := hi3
 refine sv vmv $ sv (vex rfl rfl) $ sv (vex rfl rfl) $ yS rfl $ yI rfl $ wN $ tN $ wS $ wR $ zS rfl $ cl (ref_all hr3 rfl hc3 (by omega)) ct49 rfl fun i4 hi4 => ?_
 obtain ⟨u4, v4⟩ := hi4
 refine sv vmv $ sv (vex rfl rfl) $ sv (vex rfl rfl) $ yS rfl $ yI rfl $ wN $ tN $ wS $ ?_
 refine WC.cut0 [(39, .bool false)] [(0, .pointer _), (1, .string _), (9, .slice _ _ _)] (rdisk r N st' :: row i4.1 i4.2.1 1 108 (bss i4.2.2) :: rows 5 i4.2.2 :: A) ⟨rfl, rfl, rfl, trivial⟩ ?_ fun ρh => ?_
 ·
  refine wR $ zI rfl $ zS rfl $ sv (vlen Tryz.underlying108 rfl) $ svs (vlt rfl rfl) (fun q1 => ?_) (fun q1 => ?_)
  ·
   exact zB rfl $ svg rfl (vmP rfl) $ svg rfl (vmT rfl) $ svg rfl (vmI rfl) $ pm (fun _ h => rdisk_mk hr hc (h.ix [2, 3, 4, 0, 1])) $ gy rfl $ cl (ref_cut_at hd hN (hcut q1)) ct50 rfl fun _ _ => svg rfl (vF (vne rfl rfl) (by omega)) $ uT rfl $ wN $ xM () trivial ⟨rfl, trivial⟩ ⟨rfl, rfl, rfl, trivial⟩ (fun _ h => h)
  ·
   exact zB rfl $ sng rfl $ sng rfl $ sng rfl $ sng rfl $ sng rfl $ uF rfl $ wN $ xM () trivial ⟨rfl, trivial⟩ ⟨rfl, rfl, rfl, trivial⟩ (fun w h => hsame q1 ▸ rdisk_mk hr hc (h.ix [2, 3, 4, 0, 1]))
 refine WC.ff rfl ?_
 exact WC.skip $ tN $ wS $ wR $ zP rfl $ sv (vmT rfl) $ zS rfl $ sv (vlen Tryz.underlying69 rfl) $ sv (vbd (ps := [(0, .pointer _), (1, .string _), (2, .int _ _)]) (cs := [_, _, _, _]) bt125 zt125 rfl (by rfl)) $ bxc (v := .agg _) (cs := [.pointer _, .string _, .int _ _, .bool _]) rfl rfl fun b7 => zS rfl $ sv (vaP rfl) $ yS rfl $ yI rfl $ wN $ tN $ WC.ret $ WX.ret3 rfl ((b7, i4.1, i4.2.1, i4.2.2)) (⟨u4.trans hrecs, v4⟩) rfl (fun _ h => h)
theorem ref_open_bad {r N : Nat} {nm : ByteArray} {st st' : DSt} {er : Int} (hN : N ≤ 1099511627776) (hd : 0 ≤ st.deeds ∧ st.deeds + 1 ≤ 9223372036854775807) (h1 : st.off = false) (hnm : okName nm) (her : er ≠ 0) (ho : openS nm st = (st', er)) (hblen : (readS nm st).1.length ≤ 16777216) :
  Fun Tryz.prog w0 19 [.pointer (some ⟨r, 0, none⟩), .string nm] (rdisk r N st :: A)
   (Ru w0 (.tuple #[.pointer none, .slice none 0 0, .int .i64 20]) (rdisk r N st' :: A)) := by
 refine Fun.ex (fun w h => rdisk_open h) ?_
 rintro ⟨base, c, l⟩ ⟨hr, hc⟩
 dsimp only at hr hc ⊢
 have hno : ¬ st.off = true := by rw [h1]; decide
 have h2 : decide (okName nm) = true := by simpa using hnm
 unfold openS at ho
 rw [if_neg hno, if_neg (by simpa using h2)] at ho
 obtain ⟨b, hb⟩ : ∃ b, b = (readS nm st).1 := ⟨_, rfl⟩
 obtain ⟨e, he⟩ : ∃ e, e = (readS nm st).2 := ⟨_, rfl⟩
 have hrd : readS nm st = (b, e) := by rw [hb, he]
 rw [← hb] at ho hblen
 have hwl := congrArg List.length (recsB_whole b)
 rw [List.length_append] at hwl
 have hlt : ((flat (recsB b).1).length : Int) < (b.length : Int) := by
  by_cases h : (recsB b).2 = []
  ·rw [if_pos h] at ho; cases ho; exact absurd rfl her
  ·have : 0 < (recsB b).2.length := List.length_pos_iff.2 h
   omega
 have hcut : cutS nm ((flat (recsB b).1).length : Int) st = (st', er) := by
  rw [if_neg (fun h2 => by rw [h2] at hwl; simp at hwl; omega)] at ho
  rw [← ho]; congr 1; omega
 obtain ⟨files, off, fuse, keep0, deeds⟩ := st
 obtain rfl : off = false := h1
 refine Fun.enter Tryz.func19 rfl Tryz.ntmps19 rfl ?_
 refine wS $ wR $ sv (vaP rfl) $ yS rfl $ yI rfl $ wN $ tN $ wS $ wS $ wR $ zP rfl $ uN rfl $ sv (vfld fl64f1 rfl) $ sv (vldc pl4 rfl) $ wN $ tN $ ?_
 refine WC.ff rfl ?_
 refine WC.skip $ tN $ wS $ wS $ wR $ sv (vmT rfl) $ cl (h2 ▸ ref_name) ct47 rfl fun _ _ => sv (vnot rfl) $ wN $ tN $ ?_
 refine WC.ff rfl ?_
 refine WC.skip $ tN $ wS $ wR $ zP rfl $ sv (vmT rfl) $ cl (ref_read_any (by omega) hr rfl hrd) ct48 rfl fun i3 hi3 => ?_
 obtain ⟨hr3, hc3⟩ := hi3
 refine sv vmv $ sv (vex rfl rfl) $ sv (vex rfl rfl) $ yS rfl $ yI rfl $ wN $ tN $ wS $ wR $ zS rfl $ cl (ref_all hr3 rfl hc3 (by omega)) ct49 rfl fun i4 hi4 => ?_
 obtain ⟨u4, v4⟩ := hi4
 refine sv vmv $ sv (vex rfl rfl) $ sv (vex rfl rfl) $ yS rfl $ yI rfl $ wN $ tN $ wS $ ?_
 refine WC.cut0 [(39, .bool true)] [(0, .pointer _), (1, .string _), (9, .slice _ _ _)] (rdisk r N st' :: row i4.1 i4.2.1 1 108 (bss i4.2.2) :: rows 5 i4.2.2 :: A) ⟨rfl, rfl, rfl, trivial⟩ ?_ fun ρh => ?_
 ·
  refine wR $ zI rfl $ zS rfl $ sv (vlen Tryz.underlying108 rfl) $ svs (vlt rfl rfl) (fun q1 => ?_) (fun q1 => ?_)
  ·
   exact zB rfl $ svg rfl (vmP rfl) $ svg rfl (vmT rfl) $ svg rfl (vmI rfl) $ pm (fun _ h => rdisk_mk hr hc (h.ix [2, 3, 4, 0, 1])) $ gy rfl $ cl (ref_cut_at hd hN hcut) ct50 rfl fun _ _ => svg rfl (vT (vne rfl rfl) (by omega)) $ uT rfl $ wN $ xM () trivial ⟨rfl, trivial⟩ ⟨rfl, rfl, rfl, trivial⟩ (fun _ h => h)
  ·
   exact zB rfl $ sng rfl $ sng rfl $ sng rfl $ sng rfl $ sng rfl $ uF rfl $ wN $ xM () trivial ⟨(absurd hlt q1), trivial⟩ ⟨rfl, rfl, rfl, trivial⟩ (fun w h => absurd hlt q1)
 refine WC.tt rfl ?_
 exact wS $ wR $ sv (vaP rfl) $ yS rfl $ yI rfl $ wN $ tN $ WC.ret $ tR $ WX.ret3 rfl (()) (trivial) rfl (fun w h => h.pk1.tail.pk1.tail)
theorem ref_jadd_ok {w r N k c : Nat} {nm : ByteArray} {n : Int} {base : Option Addr} {rec : List UInt8} {st : DSt} (hN : N + 1 ≤ 1099511627776) (hR : RdC w0 A base (u8s rec)) (hk : k = rec.length) (hl : rec.length ≤ 1048576) (hd : 0 ≤ st.deeds ∧ st.deeds + 2 ≤ 9223372036854775807) (hn : 0 ≤ n ∧ n + 1 ≤ 9223372036854775807) :
  Fun Tryz.prog w0 59 [.pointer (some ⟨w, 0, none⟩), .slice base k c] (cel w (wcells r nm n false) 125 :: rdisk r N st :: A)
   (Ru w0 (.int .i64 (addP nm rec st).2) (cel w (wcells r nm (if (addP nm rec st).2 = 0 then n + 1 else n) (decide ((addP nm rec st).2 = 20))) 125 :: rdisk r (N + 1) (addP nm rec st).1 :: A)) := by
 have hap := appendS_deeds nm (frameB rec) st
 refine Fun.enter Tryz.func59 rfl Tryz.ntmps59 rfl ?_
 refine wS $ wR $ yI rfl $ wN $ tN $ wS $ wS $ wR $ zP rfl $ uN rfl $ sv (vfld fl125f3 rfl) $ sv (vldc pl4 rfl) $ wN $ tN $ ?_
 refine WC.ff rfl ?_
 refine WC.skip $ tN $ wS $ wS $ wR $ zS rfl $ sv (vlen Tryz.underlying108 rfl) $ sv (vgt rfl rfl) $ wN $ tN $ ?_
 refine WC.ite rfl (fun h2 => ?_) (fun h2 => ?_)
 ·
  omega
 ·
  refine WC.skip $ tN $ wS $ WC.plan (.pre [8] (.one [0, 1, 2, 3, 4, 5, 6, 7] 9 (.bar [] 10 (.done [11])))) rfl (by kernel_rfl) $ WPl.pre (trivial) $ dv (fun g => (vmS rfl)) $ WD.nil $ WPl.one (fun g => g ++ cel w (wcells r nm n false) 125 :: rdisk r N st :: A) ([]) (fun _ => trivial) (rfl) $ dv (fun g => (vmP rfl)) $ dv (fun g => (vnil rfl)) $ dv (fun g => (vfld fl125f0 rfl)) $ dv (fun g => (vldc pl61 rfl)) $ dv (fun g => (vmP rfl)) $ dv (fun g => (vnil rfl)) $ dv (fun g => (vfld fl125f1 rfl)) $ dv (fun g => (vldc pl9 rfl)) $ WD.eff rfl $ cl (ref_frame hR.cons.cons hk hl) ct86 rfl fun r5 hr5 => wN $ WX.br $ WPl.bar (⟨[_], rfl⟩) $ WD.eff rfl $ pm (fun _ h => h.pk2) $ cl (ref_append (nm := nm) (b := frameB rec) hN reads rfl (by omega)) ct85 rfl fun _ _ => wN $ WX.brT $ WPl.fin (trivial) $ dv (fun g => (vaI rfl)) $ WD.nil $ tN $ ?_
  refine WC.cutv (ι := Unit) (fun i => [(5, .int .i64 (addP nm rec st).2)]) [(0, .pointer _)] (fun i => rdisk r (N + 1) (addP nm rec st).1 :: cel w (wcells r nm n false) 125 :: A) (fun i => True) ⟨rfl, trivial⟩ ?_ ?_
  ·
   refine wS $ wR $ zI rfl $ sv (veq rfl rfl) $ wN $ tN $ ?_
   refine WC.ite rfl (fun h3 => ?_) (fun h3 => ?_)
   ·
    refine WC.plan (.bar [0, 1, 2, 3, 4, 5, 6, 7] 8 (.done [9])) rfl (by kernel_rfl) $ WPl.bar (trivial) $ dv (fun g => (vmP rfl)) $ dv (fun g => (vnil rfl)) $ dv (fun g => (vfld fl125f0 rfl)) $ dv (fun g => (vldc pl61 rfl)) $ dv (fun g => (vmP rfl)) $ dv (fun g => (vnil rfl)) $ dv (fun g => (vfld fl125f1 rfl)) $ dv (fun g => (vldc pl9 rfl)) $ WD.eff rfl $ cl (ref_sync (nm := nm) (by omega) hN) ct87 rfl fun _ _ => wN $ WX.brT $ WPl.fin (trivial) $ dv (fun g => (vaI rfl)) $ WD.nil $ xM (()) (trivial) ⟨by show Value.int _ _ = Value.int _ _; unfold addP; rw [if_pos h3], trivial⟩ ⟨rfl, trivial⟩ (fun w h => ?_)
    unfold addP; rw [if_pos h3]
    exact h.pk1.tail
   ·
    refine WC.skip $ xM (()) (trivial) ⟨by show Value.int _ _ = Value.int _ _; unfold addP; rw [if_neg h3], trivial⟩ ⟨rfl, trivial⟩ (fun w h => ?_)
    unfold addP; rw [if_neg h3]
    exact h.pk1.tail
  ·
   intro _ _ ρh
   refine wS $ wR $ zP rfl $ zI rfl $ sv (veq rfl rfl) $ uN rfl $ sv (vfld fl125f3 rfl) $ pm (fun _ h => h.pk1) $ stc (v := .bool _) pl4 sz4 rfl rfl rfl $ wN $ tN $ wS $ wS $ wR $ zI rfl $ sv (veq rfl rfl) $ wN $ tN $ ?_
   refine WC.ite rfl (fun h4 => ?_) (fun h4 => ?_)
   ·
    refine wR $ zP rfl $ uN rfl $ sv (vfld fl125f2 rfl) $ sv (vldc pl3 rfl) $ sv (vadd rfl rfl (by omega)) $ uN rfl $ sv (vfld fl125f2 rfl) $ stc (v := .int _ _) pl3 sz3 rfl rfl rfl $ wN $ tN $ wS $ wR $ zI rfl $ yI rfl $ wN $ tN $ WC.ret $ xR rfl (()) (trivial) rfl (fun w h => ?_)
    rw [if_pos h4]; exact h
   ·
    refine WC.skip $ tN $ wS $ wR $ zI rfl $ yI rfl $ wN $ tN $ WC.ret $ xR rfl (()) (trivial) rfl (fun w h => ?_)
    rw [if_neg h4]; exact h

end Go.Proofs.YtigjompojlhomaaGreat
end
section
set_option linter.unusedVariables false
set_option linter.unusedSimpArgs false
set_option maxRecDepth 4000
namespace Go.Proofs.YtigjompojlhomaaGreat
open Go.Sl Go.Pack Go.RowKit
variable {w0 : World} {A : List HProp}
def rrd (w0 : World) (B : List HProp) (r : Nat) (st : Option (List UInt8)) : HProp := fun h => ∃ base c bs, (bs.length ≤ c ∧ RdC w0 B base (u8s bs) ∧ ∀ b, st = some b → bs = b) ∧ cel r [.slice base bs.length c, .bool st.isNone] 167 h
theorem rrd_open {w0 w : World} {B : List HProp} {r : Nat} {st : Option (List UInt8)} {A : List HProp} (H : Own w0 (rrd w0 B r st :: A) w) :
  ∃ x : Option Addr × Nat × List UInt8, (x.2.2.length ≤ x.2.1 ∧ RdC w0 B x.1 (u8s x.2.2) ∧ ∀ b, st = some b → x.2.2 = b) ∧ Own w0 (cel r [.slice x.1 x.2.2.length x.2.1, .bool st.isNone] 167 :: A) w := by
 obtain ⟨hb, h, ⟨h1, h2, ⟨base, c, bs, hc, a⟩, a2, d, x⟩, hw⟩ := H
 exact ⟨(base, c, bs), hc, hb, h, ⟨h1, h2, a, a2, d, x⟩, hw⟩
theorem rrd_mk {w0 w : World} {B : List HProp} {r : Nat} {st : Option (List UInt8)} {A : List HProp} {base : Option Addr} {c : Nat} {bs : List UInt8} (hc : bs.length ≤ c) (hr : RdC w0 B base (u8s bs)) (hs : ∀ b, st = some b → bs = b) (H : Own w0 (cel r [.slice base bs.length c, .bool st.isNone] 167 :: A) w) :
  Own w0 (rrd w0 B r st :: A) w := H.head fun _ h => ⟨base, c, bs, ⟨hc, hr, hs⟩, h⟩
theorem rdC_drop {w0 : World} {B : List HProp} {base : Option Addr} {bs : List UInt8} (h : RdC w0 B base (u8s bs)) (k c : Nat) (hc : bs.length ≤ c) : RdC w0 B (slB base k c 1) (u8s (bs.drop k)) :=
 fun w hw => rd_drop (w0 := w) (h w hw) k c hc
theorem rrd_num {w0 : World} {A B : List HProp} {r : Nat} {st : Option (List UInt8)} (hBA : ∀ w, Own w0 A w → Own w0 B w) (hb : ∀ b, st = some b → b.length ≤ 140737488355328) :
  Fun Tryz.prog w0 91 [.pointer (some ⟨r, 0, none⟩)] (rrd w0 B r st :: A)
   (Ru w0 (.int .i64 (rnum st)) (rrd w0 B r (rnumS st) :: A)) := by
 unfold rnum rnumS
 refine Fun.ex (fun w h => rrd_open h) ?_
 rintro ⟨base, c, bs⟩ ⟨hc, hr, hs⟩
 dsimp only at hc hr hs ⊢
 refine Fun.enter Tryz.func91 rfl Tryz.ntmps91 rfl ?_
 refine wS $ wR $ yI rfl $ wN $ tN $ wS $ wS $ wR $ zP rfl $ uN rfl $ sv (vfld fl167f1 rfl) $ sv (vldc pl4 rfl) $ wN $ tN $ ?_
 refine WC.iteb rfl (fun h1 => ?_) (fun h1 => ?_)
 ·
  obtain rfl : st = none := by simpa using h1
  exact wS $ wR $ yI rfl $ wN $ tN $ WC.ret $ tR $ xR rfl (()) (trivial) rfl (fun w h => rrd_mk hc hr (fun b h => by cases h) h)
 ·
  obtain ⟨b, rfl⟩ : ∃ b, st = some b := by cases st <;> simp_all
  obtain rfl := hs b rfl
  have hbl := hb _ rfl
  have hpos := fun p => take_le (bs := bs) (p := p)
  refine WC.skip $ tN $ wS $ wR $ zP rfl $ uN rfl $ sv (vfld fl167f0 rfl) $ sv (vldc pl108 rfl) $ cl (ref_take (hR := ⟨(hr.mono hBA).cons⟩) hbl) ct109 rfl fun _ _ => sv vmv $ sv (vex rfl rfl) $ sv (vex rfl rfl) $ yI rfl $ yI rfl $ wN $ tN $ wS $ wS $ wR $ zI rfl $ sv (veq rfl rfl) $ wN $ tN $ ?_
  refine WC.ite rfl (fun h2 => ?_) (fun h2 => ?_)
  ·
   have ht : take bs = none := by
    cases ht : take bs with
    | none => rfl
    | some p => have := hpos p ht; simp [ht] at h2; omega
   exact wS $ wR $ zP rfl $ uN rfl $ sv (vfld fl167f1 rfl) $ stc (v := .bool _) pl4 sz4 rfl rfl rfl $ wN $ tN $ wS $ wR $ yI rfl $ wN $ tN $ WC.ret $ tR $ xR rfl (()) (trivial) (by simp only [Option.bind_some, ht]; rfl) (fun w h => rrd_mk hc hr (fun b h => by simp [ht] at h) (by simpa [ht] using h))
  ·
   obtain ⟨p, ht⟩ : ∃ p, take bs = some p := by
    cases ht : take bs with
    | none => simp [ht] at h2
    | some p => exact ⟨p, rfl⟩
   have hp := hpos p ht
   simp only [ht, Option.map_some, Option.getD_some, Option.bind_some]
   refine WC.skip $ tN $ wS $ wR $ zP rfl $ zP rfl $ uN rfl $ sv (vfld fl167f0 rfl) $ sv (vldc pl108 rfl) $ zI rfl $ sv (vslL Tryz.underlying108 sz5 rfl rfl (by omega) (by omega)) $ uN rfl $ sv (vfld fl167f0 rfl) $ stc (v := .slice _ _ _) pl108 sz108 rfl rfl rfl $ wN $ tN $ wS $ wR $ zI rfl $ yI rfl $ wN $ tN $ WC.ret $ xR rfl (()) (trivial) rfl (fun w h => ?_)
   have hl : bs.length - ((p.2 : Int)).toNat = (bs.drop p.2).length := by simp
   rw [hl] at h
   exact rrd_mk (by simp; omega) (rdC_drop hr p.2 c hc) (fun b h => by cases h; rfl) h
theorem rrd_text {w0 : World} {A B : List HProp} {r : Nat} {st : Option (List UInt8)} (hBA : ∀ w, Own w0 A w → Own w0 B w) (hb : ∀ b, st = some b → b.length ≤ 140737488355328) :
  Fun Tryz.prog w0 92 [.pointer (some ⟨r, 0, none⟩)] (rrd w0 B r st :: A)
   (Ru w0 (.string ⟨(((st.bind rtext).map (·.1)).getD []).toArray⟩) (rrd w0 B r ((st.bind rtext).map (·.2)) :: A)) := by
 have hN : Fun Tryz.prog w0 91 [.pointer (some ⟨r, 0, none⟩)] (rrd w0 B r st :: A) (Ru w0 (.int .i64 (rnum st)) (rrd w0 B r (rnumS st) :: A)) := rrd_num hBA hb
 refine Fun.enter Tryz.func92 rfl Tryz.ntmps92 rfl ?_
 refine wS $ wR $ sv (vaT rfl) $ wN $ tN $ wS $ wR $ zP rfl $ cl (hN) ct91 rfl fun _ _ => ?_
 refine WL.ex (fun w h => rrd_open h) ?_
 rintro ⟨base, c, ds⟩ ⟨hc, hr, hs⟩
 dsimp only at hc hr hs ⊢
 refine yI rfl $ wN $ tN $ wS $ ?_
 refine WC.cut0 [(23, .bool (decide ((rnumS st).isNone = true ∨ rnum st < 0 ∨ (ds.length : Int) < rnum st)))] [(0, .pointer _), (3, .int _ _)] (cel r [.slice base ds.length c, .bool (rnumS st).isNone] 167 :: A) ⟨rfl, rfl, trivial⟩ ?_ fun ρh => ?_
 ·
  refine wR $ zP rfl $ uN rfl $ sv (vfld fl167f1 rfl) $ svb (vldc pl4 rfl) (fun q1 => ?_) (fun q1 => ?_)
  ·
   exact zB rfl $ sng rfl $ sng rfl $ uT rfl $ zB rfl $ sng rfl $ sng rfl $ sng rfl $ sng rfl $ sng rfl $ sng rfl $ sng rfl $ uT rfl $ wN $ xM () trivial ⟨bT (.inl q1), trivial⟩ ⟨rfl, rfl, trivial⟩ (fun _ h => h)
  ·
   refine zB rfl $ svg rfl (vmI rfl) $ svsg rfl (vlt rfl rfl) (fun q2 => ?_) (fun q2 => ?_)
   ·
    exact uF rfl $ zB rfl $ sng rfl $ sng rfl $ sng rfl $ sng rfl $ sng rfl $ sng rfl $ sng rfl $ uT rfl $ wN $ xM () trivial ⟨bT (.inr (.inl q2)), trivial⟩ ⟨rfl, rfl, trivial⟩ (fun _ h => h)
   ·
    exact uF rfl $ zB rfl $ svg rfl (vmI rfl) $ svg rfl (vmP rfl) $ svg rfl (vnil rfl) $ svg rfl (vfld fl167f0 rfl) $ svg rfl (vldc pl108 rfl) $ svg rfl (vlen Tryz.underlying108 rfl) $ svg rfl (vgt rfl rfl) $ uF rfl $ wN $ xM () trivial ⟨bI (by simp [q1, q2]), trivial⟩ ⟨rfl, rfl, trivial⟩ (fun _ h => h)
 refine WC.ite rfl (fun h1 => ?_) (fun h1 => ?_)
 ·
  have hrt : st.bind rtext = none := by
   cases h : rnumS st with
   | none => exact rt_none h
   | some d => obtain rfl := hs d h; rw [rt_some h, if_pos (by simpa [h] using h1)]
  rw [hrt]
  exact wS $ wR $ zP rfl $ uN rfl $ sv (vfld fl167f1 rfl) $ stc (v := .bool _) pl4 sz4 rfl rfl rfl $ wN $ tN $ wS $ wR $ sv (vaT rfl) $ wN $ tN $ WC.ret $ tR $ xR rfl (()) (trivial) rfl (fun w h => rrd_mk hc hr (fun b h => by cases h) h)
 ·
  obtain ⟨d, hd⟩ : ∃ d, rnumS st = some d := by cases h : rnumS st <;> simp_all
  obtain rfl := hs d hd
  have h1' : ¬ (rnum st < 0 ∨ (ds.length : Int) < rnum st) := fun h => h1 (.inr h)
  rw [rt_some hd, if_neg h1', hd]
  have hlt : (ds.take (rnum st).toNat).length = (rnum st).toNat := by simp; omega
  refine WC.skip $ tN $ wS $ wR $ zP rfl $ uN rfl $ sv (vfld fl167f0 rfl) $ sv (vldc pl108 rfl) $ zI rfl $ sv (vslH Tryz.underlying108 sz5 rfl rfl (by omega) (by omega)) $ sv (vstr Tryz.underlying108 Tryz.underlying5 Tryz.underlying9 rfl (rd_take ((hr.mono hBA).cons) _) hlt.symm) $ sv (vaT rfl) $ wN $ tN $ wS $ wR $ zP rfl $ zP rfl $ uN rfl $ sv (vfld fl167f0 rfl) $ sv (vldc pl108 rfl) $ zI rfl $ sv (vslL Tryz.underlying108 sz5 rfl rfl (by omega) (by omega)) $ uN rfl $ sv (vfld fl167f0 rfl) $ stc (v := .slice _ _ _) pl108 sz108 rfl rfl rfl $ wN $ tN $ wS $ wR $ sv (vmT rfl) $ sv (vaT rfl) $ wN $ tN $ WC.ret $ xR rfl (()) (trivial) rfl (fun w h => ?_)
  have hl : ds.length - (rnum st).toNat = (ds.drop (rnum st).toNat).length := by simp
  rw [hl] at h
  exact rrd_mk (by simp; omega) (rdC_drop hr _ c hc) (fun b h => by cases h; rfl) h
end Go.Proofs.YtigjompojlhomaaGreat
end
section
set_option linter.unusedVariables false
set_option linter.unusedSimpArgs false
set_option maxRecDepth 4000
namespace Go.Proofs.YtigjompojlhomaaGreat
open Go.Sl Go.RowKit Go.Raft Go.Journal Go.Pack Go.Council
variable {w0 : World} {A : List HProp}
def rman (M q dk : Nat) (m : Mg) : HProp := match m.node with
 | none => ex fun jo : Option Addr => star (cel q (mcell dk none jo) 68) (rdisk dk M m.st)
 | some x => ex fun i : Nat × Nat => star (cel q (mcell dk (some ⟨i.1, 0, none⟩) (some ⟨i.2, 0, none⟩)) 68) (star (rdisk dk M m.st) (star (rnode i.1 x) (cel i.2 (wcells dk lnm m.rs.length false) 125)))
section
variable {w0 w : World} {A : List HProp} {M q dk : Nat} {m : Mg}
theorem rman_down (hn : m.node = none) (H : Own w0 (rman M q dk m :: A) w) : ∃ jo, Own w0 (cel q (mcell dk none jo) 68 :: rdisk dk M m.st :: A) w := by
 unfold rman at H
 rw [hn] at H
 obtain ⟨jo, h⟩ := H.ex
 exact ⟨jo, h.star⟩
theorem rman_mkD {jo : Option Addr} (hn : m.node = none) (H : Own w0 (cel q (mcell dk none jo) 68 :: rdisk dk M m.st :: A) w) : Own w0 (rman M q dk m :: A) w := by
 unfold rman
 rw [hn]
 exact H.intro_star.intro_ex (X := fun jo : Option Addr => star (cel q (mcell dk none jo) 68) (rdisk dk M m.st)) jo
theorem rman_up {x : Rn} (hn : m.node = some x) (H : Own w0 (rman M q dk m :: A) w) : ∃ i : Nat × Nat, Own w0 (cel q (mcell dk (some ⟨i.1, 0, none⟩) (some ⟨i.2, 0, none⟩)) 68 :: rdisk dk M m.st :: rnode i.1 x :: cel i.2 (wcells dk lnm m.rs.length false) 125 :: A) w := by
 unfold rman at H
 rw [hn] at H
 obtain ⟨i, h⟩ := H.ex
 exact ⟨i, h.star.pk1.star.pk1.star.ix [3, 2, 0, 1]⟩
theorem rman_mkU {x : Rn} {np jp : Nat} (hn : m.node = some x) (H : Own w0 (cel q (mcell dk (some ⟨np, 0, none⟩) (some ⟨jp, 0, none⟩)) 68 :: rdisk dk M m.st :: rnode np x :: cel jp (wcells dk lnm m.rs.length false) 125 :: A) w) : Own w0 (rman M q dk m :: A) w := by
 unfold rman
 rw [hn]
 have h1 := (H.ix [2, 3, 0, 1]).intro_star
 have h2 := (h1.ix [2, 0, 1]).intro_star
 have h3 := (h2.ix [1, 0]).intro_star
 exact h3.intro_ex (X := fun i : Nat × Nat => star (cel q (mcell dk (some ⟨i.1, 0, none⟩) (some ⟨i.2, 0, none⟩)) 68) (star (rdisk dk M m.st) (star (rnode i.1 x) (cel i.2 (wcells dk lnm m.rs.length false) 125)))) (np, jp)
end
def rmans (M : Nat) : List ME → HProp
 | [] => emp
 | e :: l => star (rman M e.q e.dk e.m) (rmans M l)
theorem rmans_cons {M : Nat} {e : ME} {l : List ME} : rmans M (e :: l) = star (rman M e.q e.dk e.m) (rmans M l) := rfl
theorem rmans_out {M : Nat} {w0 w : World} : ∀ {l : List ME} {j : Nat} {e : ME} {A : List HProp}, l[j]? = some e → Own w0 (rmans M l :: A) w → Own w0 (rman M e.q e.dk e.m :: rmans M (l.eraseIdx j) :: A) w
 | [], j, e, A, h, H => by simp at h
 | x :: l, 0, e, A, h, H => by
  have : x = e := by simpa using h
  subst this
  rw [rmans_cons] at H
  rw [List.eraseIdx_cons_zero]
  exact H.star
 | x :: l, j + 1, e, A, h, H => by
  rw [rmans_cons] at H
  have h1 := rmans_out (l := l) (j := j) (e := e) (by simpa using h) H.star.pk1
  rw [List.eraseIdx_cons_succ, rmans_cons]
  exact h1.pk2.pk2.pk1.intro_star.pk1
theorem rmans_in {M : Nat} {w0 w : World} : ∀ {l : List ME} {j : Nat} {e f : ME} {A : List HProp}, l[j]? = some e → Own w0 (rman M f.q f.dk f.m :: rmans M (l.eraseIdx j) :: A) w → Own w0 (rmans M (l.set j f) :: A) w
 | [], j, e, f, A, h, H => by simp at h
 | x :: l, 0, e, f, A, h, H => by
  rw [List.eraseIdx_cons_zero] at H
  rw [List.set_cons_zero, rmans_cons]
  exact H.intro_star
 | x :: l, j + 1, e, f, A, h, H => by
  rw [List.eraseIdx_cons_succ, rmans_cons] at H
  have h2 := rmans_in (l := l) (j := j) (e := e) (f := f) (by simpa using h) (H.pk1.star.pk2.pk2.pk1)
  rw [List.set_cons_succ, rmans_cons]
  exact h2.pk1.intro_star
theorem rmans_snoc {M : Nat} {w0 w : World} {f : ME} : ∀ {l : List ME} {A : List HProp}, Own w0 (rman M f.q f.dk f.m :: rmans M l :: A) w → Own w0 (rmans M (l ++ [f]) :: A) w
 | [], A, H => by
  rw [List.nil_append, rmans_cons]
  exact H.intro_star
 | x :: l, A, H => by
  rw [rmans_cons] at H
  have h1 := rmans_snoc (l := l) (H.pk1.star.pk2.pk2.pk1)
  rw [List.cons_append, rmans_cons]
  exact h1.pk1.intro_star
abbrev rL (M p : Nat) (b : CB) (A : List HProp) : List HProp := cel p (ccell b) 59 :: row b.lb b.lc 1 60 (nptrC (b.l.map ME.q)) :: rmans M b.l :: row b.mb b.mc 9 85 (mvs b.ms) :: mrows b.ms :: A
def rc (M p : Nat) (S : CS) : HProp := fun h => ∃ b, CW S b ∧ Sl.seps (rL M p b []) h
theorem rc_open {M : Nat} {w0 w : World} {p : Nat} {S : CS} {A : List HProp} (H : Own w0 (rc M p S :: A) w) : ∃ b, CW S b ∧ Own w0 (rL M p b A) w := by
 obtain ⟨hb, h, ⟨h1, h2, ⟨b, hw, a⟩, a2, dd, y⟩, hw'⟩ := H
 exact ⟨b, hw, sepsO (l := rL M p b []) ⟨hb, h, ⟨h1, h2, a, a2, dd, y⟩, hw'⟩⟩
theorem rc_mk {M : Nat} {w0 w : World} {p : Nat} {S : CS} {b : CB} {A : List HProp} (hw : CW S b) (H : Own w0 (rL M p b A) w) : Own w0 (rc M p S :: A) w := (sepsI (l := rL M p b []) H).head fun _ h => ⟨b, hw, h⟩
abbrev rL1 (M p j : Nat) (b : CB) (A : List HProp) : List HProp := cel p (ccell b) 59 :: row b.lb b.lc 1 60 (nptrC (b.l.map ME.q)) :: rmans M (b.l.eraseIdx j) :: row b.mb b.mc 9 85 (mvs b.ms) :: mrows b.ms :: A
theorem rL_out {M : Nat} {w0 w : World} {p j : Nat} {b : CB} {e : ME} {A : List HProp} (hj : b.l[j]? = some e) (H : Own w0 (rL M p b A) w) : Own w0 (rman M e.q e.dk e.m :: rL1 M p j b A) w := by
 have h1 := rmans_out hj (H.ix [2, 0, 1, 3, 4])
 exact h1.ix [0, 2, 3, 1, 4, 5]
theorem rL_in {M : Nat} {w0 w : World} {p j : Nat} {b : CB} {e : ME} {m : Mg} {A : List HProp} (hj : b.l[j]? = some e) (H : Own w0 (rman M e.q e.dk m :: rL1 M p j b A) w) : Own w0 (rL M p { b with l := b.l.set j ⟨e.q, e.dk, m⟩ } A) w := by
 have h1 := rmans_in (f := ⟨e.q, e.dk, m⟩) hj (H.ix [0, 3, 1, 2, 4, 5])
 unfold rL ccell
 dsimp only
 rw [set_q hj, List.length_set]
 exact h1.ix [1, 2, 0, 3, 4]
theorem rdisk_upC {w0 w : World} {r N M : Nat} {st : DSt} {A : List HProp} (hM : N ≤ M) (H : Own w0 (rdisk r N st :: A) w) : Own w0 (rdisk r M st :: A) w := by
 obtain ⟨i, hi, h⟩ := rdisk_open H
 exact rdisk_mk hi.1 ⟨hi.2.1, Nat.le_trans hi.2.2 hM⟩ h
theorem rman_up1 {w0 w : World} {A : List HProp} {M M' q dk : Nat} {m : Mg} (hM : M ≤ M') (H : Own w0 (rman M q dk m :: A) w) : Own w0 (rman M' q dk m :: A) w := by
 cases hn : m.node with
 | none =>
  obtain ⟨jo, h⟩ := rman_down hn H
  exact rman_mkD hn ((rdisk_upC hM (h.ix [1, 0])).ix [1, 0])
 | some x =>
  obtain ⟨i, h⟩ := rman_up hn H
  exact rman_mkU hn ((rdisk_upC hM (h.ix [1, 0])).ix [1, 0])
theorem rmans_up1 {w0 w : World} {M M' : Nat} (hM : M ≤ M') : ∀ {l : List ME} {A : List HProp}, Own w0 (rmans M l :: A) w → Own w0 (rmans M' l :: A) w
 | [], A, H => H
 | e :: l, A, H => by
  have h1 := rmans_up1 hM (l := l) (rman_up1 hM H.star).pk1
  exact h1.pk1.intro_star
theorem cvs_kth {l : List Cl} {i k : Nat} {c : Cl} (h : l[i]? = some c) (hk : k < 2) : (cvs l)[i * 2 + k]? = ([Value.int .i64 c.term, .string c.data] : List Value)[k]? := by
 have hi := (List.getElem?_eq_some_iff.1 h).1
 have := flat_at (f := cv) (s := 2) (l := l) (i := i) (k := k) (fun _ _ => rfl) hi hk
 rw [(List.getElem?_eq_some_iff.1 h).2] at this
 exact this
theorem r_was {p : Nat} {x : Rn} (hl : x.log.length ≤ 10000) : Fun Tryz.prog w0 22 [.pointer (some ⟨p, 0, none⟩)] (rnode p x :: A)
  (Ret w0 (fun i : Option Addr × Nat => x.log.length ≤ i.2) (fun i => .agg (scells x.term x.vote i.1 x.log i.2).toArray) (fun i => row i.1 i.2 2 89 (cvs x.log) :: rnode p x :: A)) := by
 refine Fun.ex (fun w h => rnode_open h) ?_
 rintro ⟨base, c, V, N, M⟩ ⟨hc, hr⟩
 dsimp only at hc hr ⊢
 refine Fun.enter Tryz.func22 rfl Tryz.ntmps22 rfl ?_
 refine wS $ wR $ alz (cs := [.int .i64 0, .int .i64 0, .slice none 0 0]) zt74 (by rfl) fun b1 => wN $ tN $ wS $ wR $ zP rfl $ uN rfl $ sv (vfldp fl100f2 rfl) $ sv (vldap ag74 sz74 rfl (cs := [.int .i64 x.term, .int .i64 x.vote, .slice base x.log.length c]) rfl rfl (by decide)) $ alz (cs := [.int .i64 0, .int .i64 0, .slice none 0 0]) zt74 (by rfl) fun b3 => stAp sz74 rfl rfl rfl (by intro v hv; simp only [List.mem_cons, List.not_mem_nil, or_false] at hv; rcases hv with rfl | rfl | rfl <;> rfl) rfl $ wN $ tN $ wS $ wR $ sv (vfldp fl74f2 rfl) $ sv (vldc pl54 rfl) $ clxo (ref_copy (l := x.log) (by omega)) ct51 rfl fun r6 hr6 => ?_
 exact sv (vfldp fl74f2 rfl) $ stp (v := .slice _ _ _) pl54 sz54 rfl rfl rfl $ wN $ tN $ wS $ wR $ sv (vldac ag74 sz74 rfl rfl (by decide)) $ stAp sz74 rfl rfl rfl (by intro v hv; simp only [List.mem_cons, List.not_mem_nil, or_false] at hv; rcases hv with rfl | rfl | rfl <;> rfl) rfl $ wN $ tN $ WC.ret $ WX.ret1c rfl ag74 sz74 (r6) (hr6) rfl rfl (by decide) rfl (fun w h => (rnode_mk (A := row r6.1 r6.2 2 89 (cvs x.log) :: A) hc hr (Sb.o h)).pk1)
theorem r_bytes {ol : List Cl} {now : St} {ob nb : Option Addr} {oc nc : Nat} (hlo : ol.length ≤ 10000) (hln : now.log.length ≤ 10000) (hnc : now.log.length ≤ nc) (ht : 0 ≤ now.term ∧ now.term ≤ 1000000000) (hv : 0 ≤ now.vote ∧ now.vote ≤ 5) (hd : ∀ x ∈ now.log, (0 ≤ x.term ∧ x.term ≤ 1000000000) ∧ x.data.size ≤ 4096) [hR : Reads w0 A ob (cvs ol)] [hS : Reads w0 A nb (cvs now.log)] :
  Fun Tryz.prog w0 60 [.slice ob ol.length oc, .agg (scells now.term now.vote nb now.log nc).toArray] A (Ret w0 (fun i : Option Addr × Nat => (chg ⟨0, 0, ol⟩ now).bytes.length ≤ i.2) (fun i => .slice i.1 (chg ⟨0, 0, ol⟩ now).bytes.length i.2) (fun i => row i.1 i.2 1 5 (u8s (chg ⟨0, 0, ol⟩ now).bytes) :: A)) := by
 have hkl := cvs_length ol
 have hll := cvs_length now.log
 obtain ⟨nt, nv, nl⟩ := now
 dsimp only at hln hnc ht hv hd hll hS ⊢
 refine Fun.enter Tryz.func60 rfl Tryz.ntmps60 rfl ?_
 refine wS $ wR $ bxc (v := .agg _) (cs := [.int _ _, .int _ _, .slice _ _ _]) rfl rfl fun b1 => yS rfl $ wN $ tN $ wS $ wR $ yI rfl $ wN $ tN $ wS $ WC.block $ ?_
 refine WC.loopS (ι := Nat) (fun i => [(5, .int .i64 i)]) [(0, .slice _ _ _), (3, .pointer _)] (fun i => (i ≤ ol.length ∧ i ≤ nl.length) ∧ ol.take i = nl.take i) (fun i => ol.length - i) (0) (⟨⟨Nat.zero_le _, Nat.zero_le _⟩, rfl⟩) ⟨rfl, trivial⟩ ⟨rfl, rfl, trivial⟩ ?_
 intro i hi ρh
 refine wS $ ?_
 refine WC.cutS [(30, .bool (decide (i < ol.length ∧ i < nl.length ∧ ol[i]? = nl[i]?)))] [(0, .slice _ _ _), (3, .pointer _), (5, .int _ _)] ⟨rfl, rfl, rfl, trivial⟩ ?_ fun ρh => ?_
 ·
  refine WC.draws rfl (by kernel_rfl) $ qv (vmI rfl) $ qv (vmS rfl) $ qv (vlen Tryz.underlying54 rfl) $ qvs (vlt rfl rfl) (fun q1 => ?_) (fun q1 => ?_)
  ·
   refine qv (vmB rfl) $ qvg rfl (vmI rfl) $ qvg rfl (vfldp fl74f2 rfl) $ qvg rfl (vldc pl54 rfl) $ qvg rfl (vlen Tryz.underlying54 rfl) $ qvsg rfl (vlt rfl rfl) (fun q2 => ?_) (fun q2 => ?_)
   ·
    exact qv (vpkt rfl) $ qv (vmB rfl) $ qvg rfl (vmS rfl) $ qvg rfl (vmI rfl) $ qvg rfl (vix Tryz.underlying54 sz89 rfl rfl (by omega) (by omega) (hR.rd.mono ow) (by omega)) $ qvg rfl (vlda ag89 sz89 rfl (hR.rd.mono ow) (cag ol i (by omega)) rfl (by decide)) $ qvg rfl (vfldp fl74f2 rfl) $ qvg rfl (vldc pl54 rfl) $ qvg rfl (vmI rfl) $ qvg rfl (vix Tryz.underlying54 sz89 rfl rfl (by omega) (by omega) (hS.rd.mono ow) (by omega)) $ qvg rfl (vlda ag89 sz89 rfl (hS.rd.mono ow) (cag nl i (by omega)) rfl (by decide)) $ qvg rfl (veqA eq89 rfl rfl rfl) $ qv (vpkt rfl) $ WQ.nil $ xM () trivial ⟨bB (cag_eq (by omega) (by omega)), trivial⟩ ⟨rfl, rfl, rfl, trivial⟩ ow
   ·
    exact qv (vpkt rfl) $ qv (vmB rfl) $ qng rfl $ qng rfl $ qng rfl $ qng rfl $ qng rfl $ qng rfl $ qng rfl $ qng rfl $ qng rfl $ qng rfl $ qv (vpkf rfl) $ WQ.nil $ xM () trivial ⟨bF (fun h => q2 (by omega)), trivial⟩ ⟨rfl, rfl, rfl, trivial⟩ ow
  ·
   exact qv (vmB rfl) $ qng rfl $ qng rfl $ qng rfl $ qng rfl $ qng rfl $ qv (vpkf rfl) $ qv (vmB rfl) $ qng rfl $ qng rfl $ qng rfl $ qng rfl $ qng rfl $ qng rfl $ qng rfl $ qng rfl $ qng rfl $ qng rfl $ qv (vpkf rfl) $ WQ.nil $ xM () trivial ⟨bF (fun h => q1 (by omega)), trivial⟩ ⟨rfl, rfl, rfl, trivial⟩ ow
 refine WC.ite rfl (fun h1 => ?_) (fun h1 => ?_)
 ·
  refine WC.skip $ tN $ WC.block $ wR $ zI rfl $ sv (vadd rfl rfl (by omega)) $ yI rfl $ wN $ WX.blockN $ WX.again (i + 1) (⟨⟨by omega, by omega⟩, by obtain ⟨a, ha⟩ : ∃ a, ol[i]? = some a := ⟨_, List.getElem?_eq_getElem h1.1⟩; exact take_snocC hi.2 ha (h1.2.2 ▸ ha) rfl⟩) (by omega) ⟨rfl, trivial⟩ ⟨rfl, rfl, trivial⟩ ow
 ·
  have hsm : same ol nl = i := same_of hi.1 hi.2 (by by_cases c1 : i = ol.length; exact .inl c1; by_cases c2 : i = nl.length; exact .inr (.inl c2); exact .inr (.inr fun e => h1 ⟨by omega, by omega, e⟩))
  have hbe : (chg ⟨0, 0, ol⟩ ⟨nt, nv, nl⟩).bytes = num nt ++ num nv ++ num (i : Int) ++ num ((nl.length : Int) - (i : Int)) ++ cellsB (nl.drop i) := by have e : (((nl.length - i : Nat)) : Int) = (nl.length : Int) - (i : Int) := (by omega); unfold chg Rcd.bytes; dsimp only; rw [hsm, List.length_drop, e]
  have l1 := num_len (x := nt) (by omega)
  have l2 := num_len (x := nv) (by omega)
  have l3 := num_len (x := (i : Int)) (by omega)
  have l4 := num_len (x := (nl.length : Int) - (i : Int)) (by omega)
  have l6 : (nl.drop i).length = nl.length - i := List.length_drop
  obtain ⟨cs, hcs⟩ : ∃ cs, cs = nl.drop i := ⟨_, rfl⟩
  rw [← hcs] at hbe l6
  have hcd : ∀ x ∈ cs, (0 ≤ x.term ∧ x.term ≤ 1000000000) ∧ x.data.size ≤ 4096 := fun x hx => by rw [hcs] at hx; exact hd x (List.mem_of_mem_drop hx)
  obtain ⟨pre, hpre⟩ : ∃ pre, pre = num nt ++ num nv ++ num (i : Int) ++ num ((nl.length : Int) - (i : Int)) := ⟨_, rfl⟩
  rw [← hpre] at hbe
  have lp : pre.length = (num nt).length + (num nv).length + (num (i : Int)).length + (num ((nl.length : Int) - (i : Int))).length := by rw [hpre]; simp only [List.length_append]
  refine WC.exit $ WX.thenE $ WX.thenE $ WX.blockH $ tN $ wS $ wR $ sv (vfldpz fl74f0 rfl) $ sv (vldc pl3 rfl) $ clxo (ref_num (x := nt) (by omega)) ct88 rfl fun r10 hr10 => ?_
  refine yS rfl $ wN $ tN $ wS $ wR $ zS rfl $ sv (vfldp fl74f1 rfl) $ sv (vldc pl3 rfl) $ clxo (ref_num (x := nv) (by omega)) ct88 rfl fun r12 hr12 => ?_
  refine pm ow $ apb (xs := num nt) (ys := num nv) Tryz.underlying108 zt5 rfl rfl rfl rfl reads (by omega) fun base13 c13 hc13 =>?_
  refine yS rfl $ wN $ tN $ wS $ wR $ zS rfl $ zI rfl $ clxo (ref_num (x := (i : Int)) (by omega)) ct88 rfl fun r14 hr14 => ?_
  refine pm ow $ apb (xs := num nt ++ num nv) (ys := num (i : Int)) Tryz.underlying108 zt5 rfl rfl (by simp only [List.length_append]) rfl reads (by omega) fun base15 c15 hc15 =>?_
  refine yS rfl $ wN $ tN $ wS $ wR $ zS rfl $ sv (vfldp fl74f2 rfl) $ sv (vldc pl54 rfl) $ sv (vlen Tryz.underlying54 rfl) $ zI rfl $ sv (vsub rfl rfl (by omega)) $ clxo (ref_num (x := (nl.length : Int) - (i : Int)) (by omega)) ct88 rfl fun r18 hr18 => ?_
  refine pm ow $ apb (xs := num nt ++ num nv ++ num (i : Int)) (ys := num ((nl.length : Int) - (i : Int))) Tryz.underlying108 zt5 rfl rfl (by simp only [List.length_append]) rfl reads (by omega) fun base19 c19 hc19 =>?_
  refine yS rfl $ wN $ tN $ wS $ wS $ wR $ zI rfl $ yI rfl $ wN $ tN $ WC.block $ ?_
  refine WC.loop (ι := ChI) (fun q => [(6, .slice q.b (pre ++ cellsB (cs.take q.i)).length q.c), (7, .int .i64 ((i + q.i : Nat) : Int))]) [(3, .pointer _)] (fun q => row q.b q.c 1 5 (u8s (pre ++ cellsB (cs.take q.i))) :: cel b1 (scells nt nv nb nl nc) 74 :: A) (fun q => q.i ≤ cs.length ∧ (pre ++ cellsB (cs.take q.i)).length ≤ q.c) (fun q => cs.length - q.i) (⟨0, base19, c19⟩) (⟨Nat.zero_le _, by rw [List.take_zero]; show (pre ++ []).length ≤ c19; rw [List.append_nil, lp]; exact hc19⟩) ⟨(show Value.slice base19 ((num nt).length + (num nv).length + (num (i : Int)).length + (num ((nl.length : Int) - (i : Int))).length) c19 = .slice base19 (pre ++ cellsB (cs.take 0)).length c19 from by rw [List.take_zero]; show _ = Value.slice base19 (pre ++ []).length c19; rw [List.append_nil, lp]), iv (by dsimp only; rw [Nat.add_zero]), trivial⟩ ⟨rfl, trivial⟩ (fun w h => by rw [show pre ++ cellsB (cs.take 0) = num nt ++ num nv ++ num (i : Int) ++ num ((nl.length : Int) - (i : Int)) by rw [hpre]; simp [cellsB]]; exact Sb.o h) ?_
  rintro ⟨k, qb, qc⟩ ⟨hk1, hk2⟩ ρh
  dsimp only at hk1 hk2 ⊢
  refine wS $ wS $ wR $ zI rfl $ sv (vfldp fl74f2 rfl) $ sv (vldc pl54 rfl) $ sv (vlen Tryz.underlying54 rfl) $ sv (vlt rfl rfl) $ wN $ tN $ ?_
  refine WC.ite rfl (fun h2 => ?_) (fun h2 => ?_)
  ·
   have hkl : k < cs.length := by omega
   obtain ⟨a, ha⟩ : ∃ a, cs[k]? = some a := ⟨_, List.getElem?_eq_getElem hkl⟩
   have hna : nl[i + k]? = some a := by rw [hcs, List.getElem?_drop] at ha; exact ha
   have hda := hcd a (List.mem_of_getElem? ha)
   have l7 := cellsB_len (l := cs.take k) fun x hx => hcd x (List.mem_of_mem_take hx)
   rw [List.length_take] at l7
   have hsn := cellsB_snoc ha
   have l8 := num_len (x := a.term) (by omega)
   have hdl : a.data.data.toList.length = a.data.size := rfl
   have l9 : (text a.data.data.toList).length = (num (a.data.data.toList.length : Int)).length + a.data.size := by unfold text; rw [List.length_append, hdl]
   have l10 := num_len (x := (a.data.data.toList.length : Int)) (by omega)
   have l11 : (pre ++ cellsB (cs.take k)).length = pre.length + (cellsB (cs.take k)).length := List.length_append
   have hf0 : (cvs nl)[(((i + k : Nat) : Int)).toNat * 2 + 0]? = some (.int .i64 a.term) := by rw [Int.toNat_natCast, cvs_kth hna (by omega)]; rfl
   have hf1 : (cvs nl)[(((i + k : Nat) : Int)).toNat * 2 + 1]? = some (.string a.data) := by rw [Int.toNat_natCast, cvs_kth hna (by omega)]; rfl
   refine WC.known (fun w h => rsomeC (base := nb) (by omega) hS.rd (dropL [_, _] h)) fun hb => ?_
   refine WC.skip $ tN $ wS $ WC.block $ wS $ wR $ zS rfl $ sv (vfldp fl74f2 rfl) $ sv (vldc pl54 rfl) $ zI rfl $ sv (vix Tryz.underlying54 sz89 rfl rfl (by omega) (by omega) (hS.rd.mono ow) (by omega)) $ sv (vfldr (hb) fl89f0 rfl) $ sv (vldr (hR := ⟨hS.rd.mono ow⟩) pl3 rfl hf0) $ clxo (ref_num (x := a.term) (by omega)) ct88 rfl fun r24 hr24 => ?_
   refine pm ow $ apb (xs := pre ++ cellsB (cs.take k)) (ys := num a.term) Tryz.underlying108 zt5 rfl rfl rfl rfl reads (by omega) fun base25 c25 hc25 =>?_
   refine yS rfl $ wN $ tN $ wR $ zS rfl $ sv (vfldp fl74f2 rfl) $ sv (vldc pl54 rfl) $ zI rfl $ sv (vix Tryz.underlying54 sz89 rfl rfl (by omega) (by omega) (hS.rd.mono ow) (by omega)) $ sv (vfldr (hb) fl89f1 rfl) $ sv (vldr (hR := ⟨hS.rd.mono ow⟩) pl9 rfl hf1) $ clxo (ref_text (s := a.data) (by omega)) ct89 rfl fun r29 hr29 => ?_
   refine pm ow $ apb (xs := pre ++ cellsB (cs.take k) ++ num a.term) (ys := text a.data.data.toList) Tryz.underlying108 zt5 rfl rfl (by simp only [List.length_append]) rfl reads (by omega) fun base30 c30 hc30 =>?_
   exact yS rfl $ wN $ WX.blockN $ tN $ wR $ zI rfl $ sv (vadd rfl rfl (by omega)) $ yI rfl $ wN $ WX.again (⟨k + 1, base30, c30⟩) (⟨hkl, by dsimp only; rw [hsn, ← List.append_assoc, ← List.append_assoc]; simp only [List.length_append] at hc30 ⊢; omega⟩) (by dsimp only; omega) ⟨(show Value.slice base30 ((pre ++ cellsB (cs.take k)).length + (num a.term).length + (text a.data.data.toList).length) c30 = .slice base30 (pre ++ cellsB (cs.take (k + 1))).length c30 from by rw [hsn, ← List.append_assoc, ← List.append_assoc]; simp only [List.length_append]), iv (by push_cast; omega), trivial⟩ ⟨rfl, trivial⟩ (fun w h => by dsimp only; rw [hsn, ← List.append_assoc, ← List.append_assoc]; exact Sb.o h)
  ·
   have hk3 : k = cs.length := by omega
   subst hk3
   rw [List.take_length] at hk2 ⊢
   rw [hbe]
   exact WC.exit $ WX.thenE $ WX.thenE $ WX.blockH $ tN $ wS $ wR $ zS rfl $ yS rfl $ wN $ tN $ WC.ret $ xR rfl ((qb, qc)) (hk2) rfl ow
theorem rowsCapC {w0 w : World} {e : TypeId} : ∀ {l : List (Sla UInt8)} {A : List HProp} {x : Sla UInt8}, x ∈ l → Own w0 (rows e l :: A) w → x.xs.length ≤ x.cap
 | y :: l, A, x, hx, H => by
  have h1 := H.star
  rcases List.mem_cons.1 hx with rfl | hx
  ·have := (row_le h1).1
   simpa using this
  ·exact rowsCapC hx h1.pk1
theorem rnumR {w0 : World} {A B : List HProp} {r : Nat} {x : Int} {bs rest : List UInt8} (hBA : ∀ w, Own w0 A w → Own w0 B w) (hx : -9223372036854775808 ≤ x ∧ x ≤ 9223372036854775807) (hb : bs = num x ++ rest) (hl : bs.length ≤ 1048576) :
  Fun Tryz.prog w0 91 [.pointer (some ⟨r, 0, none⟩)] (rrd w0 B r (some bs) :: A) (Ru w0 (.int .i64 x) (rrd w0 B r (some rest) :: A)) := by
 have := rrd_num (w0 := w0) (A := A) (B := B) (r := r) (st := some bs) hBA (fun b h => by cases h; omega)
 rw [hb, (rnumC hx rest).1, (rnumC hx rest).2] at this
 rw [hb]; exact this
theorem rtextR {w0 : World} {A B : List HProp} {r : Nat} {s : ByteArray} {bs rest : List UInt8} (hBA : ∀ w, Own w0 A w → Own w0 B w) (hb : bs = text s.data.toList ++ rest) (hl : bs.length ≤ 1048576) (hs : s.size ≤ 4096) :
  Fun Tryz.prog w0 92 [.pointer (some ⟨r, 0, none⟩)] (rrd w0 B r (some bs) :: A) (Ru w0 (.string s) (rrd w0 B r (some rest) :: A)) := by
 have h2 : s.data.toList.length ≤ 140737488351232 := Nat.le_trans hs (by decide)
 have := rrd_text (w0 := w0) (A := A) (B := B) (r := r) (st := some bs) hBA (fun b h => by cases h; omega)
 rw [hb] at this ⊢
 have e : (some (text s.data.toList ++ rest)).bind rtext = some (s.data.toList, rest) := by show rtext _ = _; exact rtextC h2 rest
 rw [e] at this
 exact this
theorem r_stable {rb : Option Addr} {rc : Nat} {rl : List (Sla UInt8)} {rs : List Rcd} (hrl : rl.map (·.xs) = rs.map Rcd.bytes) (hrc : rl.length ≤ rc) (hlen : rs.length ≤ 505) (hrs : RecsOk rs) (hlog : (stab rs).log.length ≤ 10000) :
  Fun Tryz.prog w0 64 [.slice rb rl.length rc] (row rb rc 1 108 (bss rl) :: rows 5 rl :: A) (Ret w0 (fun i : Option Addr × Nat => (stab rs).log.length ≤ i.2) (fun i => .agg (scells (stab rs).term (stab rs).vote i.1 (stab rs).log i.2).toArray) (fun i => row i.1 i.2 2 89 (cvs (stab rs).log) :: A)) := by
 have hll : rl.length = rs.length := by have := congrArg List.length hrl; simpa using this
 refine Fun.enter Tryz.func64 rfl Tryz.ntmps64 rfl ?_
 refine wS $ wR $ alz (cs := [.int .i64 0, .int .i64 0, .slice none 0 0]) zt74 (by rfl) fun b1 => wN $ tN $ wS $ wR $ alz (cs := [.int .i64 0, .int .i64 0, .slice none 0 0]) zt74 (by rfl) fun b2 => wN $ tN $ wS $ wS $ wR $ yI rfl $ wN $ tN $ WC.block $ ?_
 refine WC.loop (ι := OpnI) (fun i => [(4, .int .i64 i.k)]) [(0, .slice _ _ _), (2, .pointer _), (3, .pointer _)] (fun i => cel b2 (scells (stab (rs.take i.k)).term (stab (rs.take i.k)).vote i.b (stab (rs.take i.k)).log i.c) 74 :: row i.b i.c 2 89 (cvs (stab (rs.take i.k)).log) :: cel b1 [.int .i64 0, .int .i64 0, .slice none 0 0] 74 :: row rb rc 1 108 (bss rl) :: rows 5 rl :: A) (fun i => i.k ≤ rl.length ∧ (stab (rs.take i.k)).log.length ≤ i.c) (fun i => rl.length - i.k) (⟨0, none, 0⟩) (⟨Nat.zero_le _, Nat.zero_le _⟩) ⟨rfl, trivial⟩ ⟨rfl, rfl, rfl, trivial⟩ (fun w h => by have h2 : Own w0 (row none 0 2 89 (cvs []) :: _) w := Own.intro_row_nil h; exact Sb.o h2) ?_
 rintro ⟨k, lb, lc⟩ ⟨hk1, hk2⟩ ρh
 dsimp only at hk1 hk2 ⊢
 refine wS $ wS $ wR $ zI rfl $ zS rfl $ sv (vlen Tryz.underlying69 rfl) $ sv (vlt rfl rfl) $ wN $ tN $ ?_
 refine WC.ite rfl (fun h1 => ?_) (fun h1 => ?_)
 ·
  have hkl : k < rs.length := by omega
  have hkr : k < rl.length := by omega
  obtain ⟨c, hc⟩ : ∃ c, rs[k]? = some c := ⟨_, List.getElem?_eq_getElem hkl⟩
  have hcr := hrs k c hc
  obtain ⟨s, hs⟩ : ∃ s, s = stab (rs.take k) := ⟨_, rfl⟩
  rw [← hs] at hk2 hcr ⊢
  have hnx : stab (rs.take (k + 1)) = applyC s c := by rw [stab_next hc, hs]
  have hcx : rl[k].xs = c.bytes := by have h1 : (rl.map (·.xs))[k]? = (rs.map Rcd.bytes)[k]? := (by rw [hrl]); rw [List.getElem?_map, List.getElem?_map, hc, List.getElem?_eq_getElem hkr] at h1; exact Option.some.inj h1
  have hmem : rl[k] ∈ rl := List.getElem_mem hkr
  have hrb : RdC w0 [rows 5 rl] rl[k].base (u8s c.bytes) := by rw [← hcx]; exact RdC.of_rows (List.Mem.head _) hmem
  have hbl2 : 0 < (bss rl).length := by rw [bss_length]; omega
  have hcl := hcr.len
  have hst := hcr.stay
  have hfw := hcr.few
  have hlg := hcr.log
  have hct := hcr.term
  have hcv := hcr.vote
  have hsb : (bss rl)[((k : Int)).toNat]? = some (.slice rl[k].base c.bytes.length rl[k].cap) := by rw [← hcx]; exact bss_at hkr
  refine WC.known (fun w h => rowsCapC hmem (show Own w0 (rows 5 rl :: A) w from Sb.o h)) fun hcap => ?_
  rw [hcx] at hcap
  obtain ⟨q4, hq4⟩ : ∃ q4, q4 = num (c.cells.length : Int) ++ cellsB c.cells := ⟨_, rfl⟩
  obtain ⟨q3, hq3⟩ : ∃ q3, q3 = num (c.stay : Int) ++ q4 := ⟨_, rfl⟩
  obtain ⟨q2, hq2⟩ : ∃ q2, q2 = num c.vote ++ q3 := ⟨_, rfl⟩
  have hq1 : c.bytes = num c.term ++ q2 := by rw [hq2, hq3, hq4]; unfold Rcd.bytes; simp only [List.append_assoc]
  have z1 := congrArg List.length hq1
  have z2 := congrArg List.length hq2
  have z3 := congrArg List.length hq3
  have z4 := congrArg List.length hq4
  rw [List.length_append] at z1 z2 z3 z4
  refine WC.skip $ tN $ wS $ WC.block $ wS $ wR $ zS rfl $ zI rfl $ sv (vix1 Tryz.underlying69 sz108 rfl rfl (by omega) (by omega) reads hbl2) $ sv (vldr pl108 rfl hsb) $ sv (vbd (ps := [(0, .slice _ _ _)]) (cs := [_, _]) bt167 zt167 rfl (by rfl)) $ bxc (v := .agg _) (cs := [.slice _ _ _, .bool _]) rfl rfl fun b6 => sv (vaP rfl) $ wN $ tN $ wS $ wR $ zP rfl $ pm (fun _ h => rrd_mk (B := [rows 5 rl]) (st := some c.bytes) hcap hrb (fun b h => by cases h; rfl) h) $ clx (by repeat' (first | with_reducible exact Sb.all | exact Sb.nil | (apply Sb.cons; focus (first | ((repeat (first | with_reducible exact Tk.here | with_reducible apply Tk.there)); done) | ((repeat (first | exact Tk.here | apply Tk.there)); done))) | apply Sb.drop)) (rnumR (B := [rows 5 rl]) (fun w h => Sb.o h) (by omega) hq1 (by omega)) ct91 rfl fun r7 hr7 => ?_
  refine sv (vfldpz fl74f0 rfl) $ stp (v := .int _ _) pl3 sz3 rfl rfl rfl $ wN $ tN $ wS $ wR $ zP rfl $ clx (by repeat' (first | with_reducible exact Sb.all | exact Sb.nil | (apply Sb.cons; focus (first | ((repeat (first | with_reducible exact Tk.here | with_reducible apply Tk.there)); done) | ((repeat (first | exact Tk.here | apply Tk.there)); done))) | apply Sb.drop)) (rnumR (B := [rows 5 rl]) (fun w h => Sb.o h) (by omega) hq2 (by omega)) ct91 rfl fun r9 hr9 => ?_
  refine sv (vfldp fl74f1 rfl) $ stp (v := .int _ _) pl3 sz3 rfl rfl rfl $ wN $ tN $ wS $ WC.plan (.pre [2] (.one [0, 1] 3 (.bar [4] 5 (.bar [6] 7 (.done []))))) rfl (by kernel_rfl) $ WPl.preC $ dv (fun g => (vmP rfl)) $ WD.nil $ WPl.oneX [rrd w0 [rows 5 rl] b6 (some q3)] (by repeat' (first | exact Spl.nil | (apply Spl.cons; focus (first | ((repeat (first | with_reducible exact Tk.here | with_reducible apply Tk.there)); done) | ((repeat (first | exact Tk.here | apply Tk.there)); done))))) (fun g => by infer_instance) ?_
  refine dv (fun g => (vfldp fl74f2 rfl)) $ dv (fun g => (vldc pl54 rfl)) $ WD.eff rfl $ clx (by repeat' (first | with_reducible exact Sb.all | exact Sb.nil | (apply Sb.cons; focus (first | ((repeat (first | with_reducible exact Tk.here | with_reducible apply Tk.there)); done) | ((repeat (first | exact Tk.here | apply Tk.there)); done))) | apply Sb.drop)) (rnumR (B := [rows 5 rl]) (fun w h => Sb.o h) (by omega) hq3 (by omega)) ct91 rfl fun r12 hr12 => ?_
  refine wN $ WX.br $ WPl.barC $ dv (fun g => (vw (v' := .slice lb (s.log.take c.stay).length lc) (vslH Tryz.underlying54 sz89 rfl rfl (by omega) (by omega)) (iv' (by rw [List.length_take]; omega)))) $ WD.eff rfl $ clx (by repeat' (first | with_reducible exact Sb.all | exact Sb.nil | (apply Sb.cons; focus (first | ((repeat (first | with_reducible exact Tk.here | with_reducible apply Tk.there)); done) | ((repeat (first | exact Tk.here | apply Tk.there)); done))) | apply Sb.drop)) (ref_copy (l := s.log.take c.stay) (hR := ⟨by rw [← cvs_take]; exact RdC.take (reads (vs := cvs s.log)) _⟩) (by rw [List.length_take]; omega)) ct51 rfl fun r14 hr14 => ?_
  refine wN $ WX.brT $ WPl.barC $ dv (fun g => (vfldp fl74f2 rfl)) $ WD.eff rfl $ stp (v := .slice _ _ _) pl54 sz54 rfl rfl rfl $ wN $ WX.brT $ WPl.finC $ WD.nil $ tN $ wS $ wR $ zP rfl $ clx (by repeat' (first | with_reducible exact Sb.all | exact Sb.nil | (apply Sb.cons; focus (first | ((repeat (first | with_reducible exact Tk.here | with_reducible apply Tk.there)); done) | ((repeat (first | exact Tk.here | apply Tk.there)); done))) | apply Sb.drop)) (rnumR (B := [rows 5 rl]) (fun w h => Sb.o h) (by omega) hq4 (by omega)) ct91 rfl fun r16 hr16 => ?_
  refine yI rfl $ wN $ tN $ WC.block $ ?_
  refine WC.loop (ι := OpnI) (fun q => [(6, .int .i64 ((c.cells.length : Int) - q.k))]) [(0, .slice _ _ _), (2, .pointer _), (3, .pointer _), (4, .int _ _), (5, .pointer _)] (fun q => cel b2 [.int .i64 c.term, .int .i64 c.vote, .slice q.b (s.log.take c.stay ++ c.cells.take q.k).length q.c] 74 :: row q.b q.c 2 89 (cvs (s.log.take c.stay ++ c.cells.take q.k)) :: rrd w0 [rows 5 rl] b6 (some (cellsB (c.cells.drop q.k))) :: cel b1 [.int .i64 0, .int .i64 0, .slice none 0 0] 74 :: row rb rc 1 108 (bss rl) :: rows 5 rl :: A) (fun q => q.k ≤ c.cells.length ∧ (s.log.take c.stay ++ c.cells.take q.k).length ≤ q.c) (fun q => c.cells.length - q.k) (⟨0, r14.1, r14.2⟩) (⟨Nat.zero_le _, by rw [List.take_zero, List.append_nil]; exact hr14⟩) ⟨iv (by dsimp only; omega), trivial⟩ ⟨rfl, rfl, rfl, rfl, rfl, trivial⟩ (fun w h => by dsimp only; rw [List.take_zero, List.append_nil, List.drop_zero]; exact Sb.o h) ?_
  rintro ⟨d, qb, qc⟩ ⟨hd1, hd2⟩ ρh
  dsimp only at hd1 hd2 ⊢
  have hcc : ∀ x ∈ c.cells.drop d, (0 ≤ x.term ∧ x.term ≤ 1000000000) ∧ x.data.size ≤ 4096 := fun x hx => hcr.cells x (List.mem_of_mem_drop hx)
  have hcn := cellsB_len hcc
  rw [List.length_drop] at hcn
  refine wS $ wS $ wR $ zI rfl $ sv (vgt rfl rfl) $ wN $ tN $ ?_
  refine WC.ite rfl (fun h2 => ?_) (fun h2 => ?_)
  ·
   have h3 : d < c.cells.length := by omega
   obtain ⟨x, hx⟩ : ∃ x, c.cells[d]? = some x := ⟨_, List.getElem?_eq_getElem h3⟩
   have hxe := (List.getElem?_eq_some_iff.1 hx).2
   have hcd : c.cells.drop d = x :: c.cells.drop (d + 1) := by rw [List.drop_eq_getElem_cons h3, hxe]
   have hxk := hcc x (by rw [hcd]; exact List.mem_cons_self)
   obtain ⟨q6, hq6⟩ : ∃ q6, q6 = text x.data.data.toList ++ cellsB (c.cells.drop (d + 1)) := ⟨_, rfl⟩
   have hq5 : cellsB (c.cells.drop d) = num x.term ++ q6 := by rw [hcd, hq6]; show cellB x ++ cellsB _ = _; unfold cellB; rw [List.append_assoc]
   have z5 := congrArg List.length hq5
   rw [List.length_append] at z5
   obtain ⟨L, hL⟩ : ∃ L, L = s.log.take c.stay ++ c.cells.take d := ⟨_, rfl⟩
   have hLx : s.log.take c.stay ++ c.cells.take (d + 1) = L ++ [x] := by rw [hL, List.take_add_one, hx, List.append_assoc]; rfl
   rw [← hL] at hd2 ⊢
   have hLl : L.length ≤ 10008 := by rw [hL, List.length_append, List.length_take, List.length_take]; omega
   have hcvl := cvs_length L
   refine WC.skip $ tN $ wS $ WC.block $ wS $ wR $ alz (cs := [.int .i64 0, .string ByteArray.empty]) zt89 (by rfl) fun b17 => wN $ tN $ wS $ wR $ zP rfl $ clx (by repeat' (first | with_reducible exact Sb.all | exact Sb.nil | (apply Sb.cons; focus (first | ((repeat (first | with_reducible exact Tk.here | with_reducible apply Tk.there)); done) | ((repeat (first | exact Tk.here | apply Tk.there)); done))) | apply Sb.drop)) (rnumR (B := [rows 5 rl]) (fun w h => Sb.o h) (by omega) hq5 (by omega)) ct91 rfl fun r18 hr18 => ?_
   refine sv (vfldpz fl89f0 rfl) $ stp (v := .int _ _) pl3 sz3 rfl rfl rfl $ wN $ tN $ wS $ wR $ zP rfl $ clx (by repeat' (first | with_reducible exact Sb.all | exact Sb.nil | (apply Sb.cons; focus (first | ((repeat (first | with_reducible exact Tk.here | with_reducible apply Tk.there)); done) | ((repeat (first | exact Tk.here | apply Tk.there)); done))) | apply Sb.drop)) (rtextR (B := [rows 5 rl]) (fun w h => Sb.o h) hq6 (by omega) hxk.2) ct92 rfl fun r20 hr20 => ?_
   refine sv (vfldp fl89f1 rfl) $ stp (v := .string _) pl9 sz9 rfl rfl rfl $ wN $ tN $ wR $ sv (vfldp fl74f2 rfl) $ sv (vldc pl54 rfl) $ sv (vldac ag89 sz89 rfl rfl (by decide)) $ pm ow $ apA (v := .agg _) (cs := [.int .i64 x.term, .string x.data]) Tryz.underlying54 zt89 rfl (fun _ => rfl) (fun _ => rfl) rfl rfl rfl (by decide) (by decide) (by intro v hv; simp only [List.mem_cons, List.not_mem_nil, or_false] at hv; rcases hv with rfl | rfl <;> rfl) (by omega) (by simp only [maxLen]; omega) (by omega) fun _ base25 c25 hc25 => ?_
   exact sv (vfldp fl74f2 rfl) $ stp (v := .slice _ _ _) pl54 sz54 rfl rfl rfl $ wN $ WX.blockN $ tN $ wR $ zI rfl $ sv (vsub rfl rfl (by omega)) $ yI rfl $ wN $ WX.again (⟨d + 1, base25, c25⟩) (⟨h3, by dsimp only; rw [hLx, List.length_append]; exact hc25⟩) (by dsimp only; omega) ⟨iv (by push_cast; omega), trivial⟩ ⟨rfl, rfl, rfl, rfl, rfl, trivial⟩ (fun w h => by dsimp only; rw [hLx, List.length_append, cvs_append]; exact Sb.o h)
  ·
   have hde : d = c.cells.length := by omega
   subst hde
   rw [List.take_length] at hd2 ⊢
   exact WC.exit $ WX.thenE $ WX.thenE $ WX.blockH $ WX.blockN $ tN $ wR $ zI rfl $ sv (vadd rfl rfl (by omega)) $ yI rfl $ wN $ WX.again (⟨k + 1, qb, qc⟩) (⟨hkr, by dsimp only; rw [hnx]; exact hd2⟩) (by dsimp only; omega) ⟨rfl, trivial⟩ ⟨rfl, rfl, rfl, trivial⟩ (fun w h => by dsimp only; rw [hnx]; exact Sb.o h)
 ·
  have hkk : k = rs.length := by omega
  subst hkk
  rw [List.take_length] at hk2 ⊢
  exact WC.exit $ WX.thenE $ WX.thenE $ WX.blockH $ tN $ wS $ wR $ sv (vldac ag74 sz74 rfl rfl (by decide)) $ stAp sz74 rfl rfl rfl (by intro v hv; simp only [List.mem_cons, List.not_mem_nil, or_false] at hv; rcases hv with rfl | rfl | rfl <;> rfl) rfl $ wN $ tN $ WC.ret $ WX.ret1c rfl ag74 sz74 ((lb, lc)) (hk2) rfl rfl (by decide) rfl ow
theorem send_take {ms out : List Ml} {k : Nat} (h : k ≤ out.length) (hm : ms.length + k ≤ 256) (hd : k = out.length ∨ ms.length + k = 256 ∨ 256 ≤ ms.length + k) : ms ++ out.take k = sendM ms out := by
 unfold sendM
 rcases hd with e | e | e
 ·rw [List.take_of_length_le (by omega), List.take_of_length_le (by omega)]
 ·rw [show 256 - ms.length = k by omega]
 ·rw [show 256 - ms.length = k by omega]
theorem rL1_up {w0 w : World} {M p j : Nat} {b : CB} {A : List HProp} (H : Own w0 (rL1 M p j b A) w) : Own w0 (rL1 (M + 1) p j b A) w := (rmans_up1 (Nat.le_succ M) (H.ix [2, 0, 1])).ix [1, 2, 0]
structure RsI where
 k : Nat
 b : Option Addr
 c : Nat
theorem r_step {p j K M np jp wc oc : Nat} {wb ob : Option Addr} {S : CS} {b : CB} {e : ME} {m : Mg} {x y : Rn} {n id : Int} {om : List Mh} (hcw : CW S b) (he : b.l[j]? = some e) (hem : e.m = m) (hl5 : S.ms.length ≤ 5) (hml : S.mails.length ≤ 256)
  (hM : M + 1 ≤ 1099511627776) (hm : MgOk n id K m) (hx : m.node = some x) (hK : K ≤ 505) (hn5 : n ≤ 5) (hy : RInv y) (hyn : y.n = n) (hw : Wr x.log y.log) (hoc : om.length ≤ oc) (hwc : x.log.length ≤ wc) [hR : Reads w0 A wb (cvs x.log)] :
  Fun Tryz.prog w0 24 [.pointer (some ⟨p, 0, none⟩), .int .i64 (j : Int), .agg (scells x.term x.vote wb x.log wc).toArray, .slice ob om.length oc]
   (cel e.q (mcell e.dk (some ⟨np, 0, none⟩) (some ⟨jp, 0, none⟩)) 68 :: rdisk e.dk M m.st :: rnode np y :: cel jp (wcells e.dk lnm m.rs.length false) 125 :: row ob oc 9 85 (mvs om) :: mrows om :: rL1 M p j b A)
   (Ru w0 (.bool (stepM x y m).2) (rc (M + 1) p ⟨S.ms.set j (stepM x y m).1, if (stepM x y m).2 = true then sendM S.mails (om.map Mh.ml) else S.mails⟩ :: A)) := by
 have hbl := hcw.len.1
 have hbm := hcw.len.2
 have hbc := hcw.mc
 have hjl := lt_of_at he
 obtain ⟨g1, g2, g3, g4, g5⟩ := hm.up x hx
 have hpt : (nptrC (b.l.map ME.q))[((j : Int)).toNat]? = some (.pointer (some ⟨e.q, 0, none⟩)) := nptrC_at (by rw [List.getElem?_map, he]; rfl)
 have hpl : 0 < (nptrC (b.l.map ME.q)).length := by rw [nptrC_length, List.length_map]; omega
 have hlx := g2.log
 have hly := hy.log
 have hrec := rec_of hm hx hy (by omega) hw
 have hyv : 0 ≤ y.vote ∧ y.vote ≤ 5 := ⟨hy.vote.1, Int.le_trans hy.vote.2 (by omega)⟩
 have hdk := hm.deeds
 have hln := hm.len
 have hrl := hrec.len
 have hcs : ∀ c ∈ y.log, (0 ≤ c.term ∧ c.term ≤ 1000000000) ∧ c.data.size ≤ 4096 := fun c hc => by have h1 := rises_mem hy.rise c hc; have h2 := hy.term; exact ⟨⟨by omega, by omega⟩, h1.2.2.2⟩
 refine Fun.ex (B := fun i : RI => cel np (rncells y i.base i.c i.V i.N i.M) 100 :: row i.base i.c 2 89 (cvs y.log) :: cel e.q (mcell e.dk (some ⟨np, 0, none⟩) (some ⟨jp, 0, none⟩)) 68 :: rdisk e.dk M m.st :: cel jp (wcells e.dk lnm m.rs.length false) 125 :: row ob oc 9 85 (mvs om) :: mrows om :: rL1 M p j b A) (fun w h => rnode_open (h.ix [2, 0, 1])) ?_
 rintro ⟨yb, yc, V, N, Q⟩ ⟨hyc, hyr⟩
 dsimp only at hyc hyr ⊢
 refine Fun.enter Tryz.func24 rfl Tryz.ntmps24 rfl ?_
 refine wS $ wR $ bxc (v := .agg _) (cs := [.int _ _, .int _ _, .slice _ _ _]) rfl rfl fun b1 => yB rfl $ wN $ tN $ wS $ wR $ zP rfl $ uN rfl $ sv (vfldpz fl59f0 rfl) $ sv (vldc pl57 rfl) $ zI rfl $ sv (vix1 Tryz.underlying57 sz60 rfl rfl (by omega) (by omega) reads hpl) $ sv (vldr pl60 rfl hpt) $ sv (vaP rfl) $ wN $ tN $ wS $ wR $ zP rfl $ uN rfl $ sv (vfldp fl68f1 rfl) $ sv (vldc pl65 rfl) $ uN rfl $ sv (vfldp fl100f2 rfl) $ sv (vldap ag74 sz74 rfl (cs := [.int .i64 y.term, .int .i64 y.vote, .slice yb y.log.length yc]) rfl rfl (by decide)) $ alz (cs := [.int .i64 0, .int .i64 0, .slice none 0 0]) zt74 (by rfl) fun b7 => stAp sz74 rfl rfl rfl (by intro v hv; simp only [List.mem_cons, List.not_mem_nil, or_false] at hv; rcases hv with rfl | rfl | rfl <;> rfl) rfl $ wN $ tN $ ?_
 refine WC.cutv (ι := Unit) (fun i => []) [(0, .pointer _), (3, .slice _ _ _)] (fun i => row ob oc 9 85 (mvs om) :: mrows om :: rman (M + 1) e.q e.dk (stepM x y m).1 :: rL1 M p j b A) (fun i => (stepM x y m).2 = true) ⟨rfl, rfl, trivial⟩ ?_ ?_
 ·
  refine WC.cutS [(45, .bool (decide (¬ stOf y = stOf x)))] [(0, .pointer _), (3, .slice _ _ _), (6, .pointer _), (9, .pointer _), (10, .pointer _)] ⟨rfl, rfl, rfl, rfl, rfl, trivial⟩ ?_ fun ρh => ?_
  ·
   refine wR $ sv (vfldpz fl74f0 rfl) $ sv (vldc pl3 rfl) $ sv (vfldpz fl74f0 rfl) $ sv (vldc pl3 rfl) $ svs (vne rfl rfl) (fun q1 => ?_) (fun q1 => ?_)
   ·
    exact zB rfl $ sng rfl $ sng rfl $ sng rfl $ sng rfl $ sng rfl $ uT rfl $ zB rfl $ sng rfl $ sng rfl $ sng rfl $ sng rfl $ sng rfl $ sng rfl $ uT rfl $ wN $ xM () trivial ⟨bT (fun h => q1 (congrArg St.term h)), trivial⟩ ⟨rfl, rfl, rfl, rfl, rfl, trivial⟩ ow
   ·
    refine zB rfl $ svg rfl (vfldp fl74f1 rfl) $ svg rfl (vldc pl3 rfl) $ svg rfl (vfldp fl74f1 rfl) $ svg rfl (vldc pl3 rfl) $ svsg rfl (vne rfl rfl) (fun q2 => ?_) (fun q2 => ?_)
    ·
     exact uF rfl $ zB rfl $ sng rfl $ sng rfl $ sng rfl $ sng rfl $ sng rfl $ sng rfl $ uT rfl $ wN $ xM () trivial ⟨bT (fun h => q2 (congrArg St.vote h)), trivial⟩ ⟨rfl, rfl, rfl, rfl, rfl, trivial⟩ ow
    ·
     refine uF rfl $ zB rfl $ svg rfl (vfldp fl74f2 rfl) $ svg rfl (vldc pl54 rfl) $ svg rfl (vfldp fl74f2 rfl) $ svg rfl (vldc pl54 rfl) $ gy rfl $ clxo (ref_samecells (k := y.log) (l := x.log) (by omega)) ct35 rfl fun r15 hr15 => ?_
     exact svg rfl (vnot rfl) $ uF rfl $ wN $ xM () trivial ⟨bB (by rw [stOf_iff]; simp [Decidable.not_not.1 q1, Decidable.not_not.1 q2]), trivial⟩ ⟨rfl, rfl, rfl, rfl, rfl, trivial⟩ ow
  refine WC.ite rfl (fun h1 => ?_) (fun h1 => ?_)
  ·
   have hstep : stepM x y m = saveS (chg (stOf x) (stOf y)) y m := if_neg h1
   have hl1 : (chg (stOf x) (stOf y)).bytes.length ≤ 1048576 := by omega
   refine wS $ WC.plan (.pre [4, 5, 6] (.one [0, 1, 2, 3] 7 (.bar [] 8 (.done [9])))) rfl (by kernel_rfl) $ WPl.preC $ dv (fun g => (vfldp fl74f2 rfl)) $ dv (fun g => (vldc pl54 rfl)) $ dv (fun g => (vldac ag74 sz74 rfl rfl (by decide))) $ WD.nil $ WPl.oneE (fun g => by infer_instance) $ dv (fun g => (vmP rfl)) $ dv (fun g => (vnil rfl)) $ dv (fun g => (vfldp fl68f2 rfl)) $ dv (fun g => (vldc pl66 rfl)) $ WD.eff rfl $ clxo (r_bytes (ol := x.log) (now := stOf y) hlx hly hyc hy.term hyv hcs) ct60 rfl fun r19 hr19 => ?_
   refine wN $ WX.br $ WPl.barC $ WD.eff rfl $ clx (by repeat' (first | with_reducible exact Sb.all | exact Sb.nil | (apply Sb.cons; focus (first | ((repeat (first | with_reducible exact Tk.here | with_reducible apply Tk.there)); done) | ((repeat (first | exact Tk.here | apply Tk.there)); done))) | apply Sb.drop)) (ref_jadd_ok (rec := (chg (stOf x) (stOf y)).bytes) hM reads rfl hl1 ⟨hdk.1, by omega⟩ ⟨by omega, by omega⟩) ct59 rfl fun r20 hr20 => ?_
   refine wN $ WX.brT $ WPl.finC $ dv (fun g => (vne rfl rfl)) $ WD.nil $ tN $ ?_
   refine WC.ite rfl (fun h2 => ?_) (fun h2 => ?_)
   ·
    have hsv : saveS (chg (stOf x) (stOf y)) y m = (⟨(addP lnm (chg (stOf x) (stOf y)).bytes m.st).1, none, if onDisk (addP lnm (chg (stOf x) (stOf y)).bytes m.st).1 = m.rs.length + 1 then m.rs ++ [chg (stOf x) (stOf y)] else m.rs⟩, false) := if_neg h2
    rw [hstep, hsv]
    exact wS $ wR $ zP rfl $ uN rfl $ sv (vfldp fl68f1 rfl) $ stp (v := .pointer _) pl65 sz65 rfl rfl rfl $ wN $ tN $ wS $ wR $ yB rfl $ wN $ tN $ WC.ret $ tR $ xR rfl (()) (trivial) rfl (fun w h => rc_mk (hcw.set he) (rL_in he ((rman_mkD (M := M + 1) (A := rL1 (M + 1) p j b A) (m := ⟨(addP lnm (chg (stOf x) (stOf y)).bytes m.st).1, none, if onDisk (addP lnm (chg (stOf x) (stOf y)).bytes m.st).1 = m.rs.length + 1 then m.rs ++ [chg (stOf x) (stOf y)] else m.rs⟩) (jo := some ⟨jp, 0, none⟩) rfl (by have h4 : Own w0 (rL1 M p j b (cel e.q (mcell e.dk none (some ⟨jp, 0, none⟩)) 68 :: rdisk e.dk (M + 1) (addP lnm (chg (stOf x) (stOf y)).bytes m.st).1 :: A)) w := Sb.o h; exact Sb.o (rL1_up h4))))))
   ·
    have hz := Decidable.not_not.1 h2
    have hsv : saveS (chg (stOf x) (stOf y)) y m = (⟨(addP lnm (chg (stOf x) (stOf y)).bytes m.st).1, some y, m.rs ++ [chg (stOf x) (stOf y)]⟩, true) := if_pos hz
    rw [hstep, hsv]
    exact WC.skip $ xM (()) (rfl) trivial ⟨rfl, rfl, trivial⟩ (fun w h => (rman_mkU (M := M + 1) (A := row ob oc 9 85 (mvs om) :: mrows om :: rL1 M p j b A) (m := ⟨(addP lnm (chg (stOf x) (stOf y)).bytes m.st).1, some y, m.rs ++ [chg (stOf x) (stOf y)]⟩) (np := np) (jp := jp) rfl (by have h4 : Own w0 (cel jp (wcells e.dk lnm (if (addP lnm (chg (stOf x) (stOf y)).bytes m.st).2 = 0 then (m.rs.length : Int) + 1 else m.rs.length) (decide ((addP lnm (chg (stOf x) (stOf y)).bytes m.st).2 = 20))) 125 :: _) w := Sb.o h; rw [if_pos hz, hz] at h4; have h5 : Own w0 (cel np (rncells y yb yc V N Q) 100 :: row yb yc 2 89 (cvs y.log) :: _) w := Sb.o h4; have h6 := rnode_mk hyc hyr h5; rw [List.length_append]; exact Sb.o h6)).ix [1, 2, 0])
  ·
   have hstep : stepM x y m = (⟨m.st, some y, m.rs⟩, true) := if_pos (Decidable.not_not.1 h1)
   rw [hstep]
   exact WC.skip $ xM (()) (rfl) trivial ⟨rfl, rfl, trivial⟩ (fun w h => (rman_mkU (M := M + 1) (A := row ob oc 9 85 (mvs om) :: mrows om :: rL1 M p j b A) (m := ⟨m.st, some y, m.rs⟩) (np := np) (jp := jp) rfl (by have h5 : Own w0 (cel np (rncells y yb yc V N Q) 100 :: row yb yc 2 89 (cvs y.log) :: _) w := Sb.o h; have h6 := rnode_mk hyc hyr h5; have h7 : Own w0 (rdisk e.dk M m.st :: _) w := Sb.o h6; have h8 := rdisk_upC (Nat.le_succ M) h7; exact Sb.o h8)).ix [1, 2, 0])
 ·
  intro _ hst ρh
  obtain ⟨m2, bb, hm2⟩ : ∃ m2 bb, stepM x y m = (m2, bb) := ⟨_, _, rfl⟩
  rw [hm2] at hst ⊢
  dsimp only at hst ⊢
  subst hst
  rw [if_pos rfl]
  have hov := mvs_length om
  refine wS $ wS $ wR $ yI rfl $ wN $ tN $ WC.block $ ?_
  refine WC.loop (ι := RsI) (fun q => [(11, .int .i64 q.k)]) [(0, .pointer _), (3, .slice _ _ _)] (fun q => cel p [.slice b.lb b.l.length b.lc, .slice q.b (b.ms.length + q.k) q.c] 59 :: row q.b q.c 9 85 (mvs (b.ms ++ om.take q.k)) :: row b.lb b.lc 1 60 (nptrC (b.l.map ME.q)) :: rmans M (b.l.eraseIdx j) :: mrows b.ms :: row ob oc 9 85 (mvs om) :: mrows om :: rman (M + 1) e.q e.dk m2 :: A) (fun q => q.k ≤ om.length ∧ b.ms.length + q.k ≤ 256 ∧ b.ms.length + q.k ≤ q.c) (fun q => om.length - q.k) (⟨0, b.mb, b.mc⟩) (⟨Nat.zero_le _, by dsimp only; omega, hbc⟩) ⟨rfl, trivial⟩ ⟨rfl, rfl, trivial⟩ (fun w h => by dsimp only; rw [List.take_zero, List.append_nil, Nat.add_zero]; exact Sb.o h) ?_
  rintro ⟨k, qb, qc⟩ ⟨hk1, hk2, hk3⟩ ρh
  dsimp only at hk1 hk2 hk3 ⊢
  refine wS $ ?_
  refine WC.cutS [(70, .bool (decide (k < om.length ∧ b.ms.length + k < 256)))] [(0, .pointer _), (3, .slice _ _ _), (11, .int _ _)] ⟨rfl, rfl, rfl, trivial⟩ ?_ fun ρh => ?_
  ·
   refine wR $ zI rfl $ zS rfl $ sv (vlen Tryz.underlying41 rfl) $ svs (vlt rfl rfl) (fun q3 => ?_) (fun q3 => ?_)
   ·
    exact zB rfl $ svg rfl (vmP rfl) $ svg rfl (vnil rfl) $ svg rfl (vfldp fl59f1 rfl) $ svg rfl (vldc pl41 rfl) $ svg rfl (vlen Tryz.underlying41 rfl) $ svg rfl (vlt rfl rfl) $ uT rfl $ wN $ xM () trivial ⟨bIa, trivial⟩ ⟨rfl, rfl, rfl, trivial⟩ ow
   ·
    exact zB rfl $ sng rfl $ sng rfl $ sng rfl $ sng rfl $ sng rfl $ sng rfl $ uF rfl $ wN $ xM () trivial ⟨bFa, trivial⟩ ⟨rfl, rfl, rfl, trivial⟩ ow
  refine WC.ite rfl (fun h3 => ?_) (fun h3 => ?_)
  ·
   obtain ⟨o, ho⟩ : ∃ o, om[k]? = some o := ⟨_, List.getElem?_eq_getElem h3.1⟩
   have hag : ((mvs om).drop (((k : Int)).toNat * 9)).take 9 = [.int .i64 o.kind, .int .i64 o.fr, .int .i64 o.to_, .int .i64 o.term, .int .i64 o.index, .int .i64 o.prev, .int .i64 o.commit, .bool o.ok, .slice o.cs.base o.cs.xs.length o.cs.cap] := by rw [Int.toNat_natCast]; exact mvs_nine ho
   have hmv := mvs_length (b.ms ++ om.take k)
   have htl : (b.ms ++ om.take k).length = b.ms.length + k := by rw [List.length_append, List.length_take]; omega
   have hsn : om.take (k + 1) = om.take k ++ [o] := by rw [List.take_add_one, ho]; rfl
   refine WC.skip $ tN $ wS $ WC.block $ WC.plan (.pre [5, 6, 7, 8] (.one [0, 1, 2, 3, 4] 9 (.one [] 10 (.bar [11, 12] 13 (.done []))))) rfl (by kernel_rfl) $ WPl.preC $ dv (fun g => (vmS rfl)) $ dv (fun g => (vmI rfl)) $ dv (fun g => (vix Tryz.underlying41 sz85 rfl rfl (by omega) (by omega) reads (by omega))) $ dv (fun g => (vlda ag85 sz85 rfl reads hag rfl (by decide))) $ WD.nil $ WPl.oneX [row qb qc 9 85 (mvs (b.ms ++ om.take k))] (by repeat' (first | exact Spl.nil | (apply Spl.cons; focus (first | ((repeat (first | with_reducible exact Tk.here | with_reducible apply Tk.there)); done) | ((repeat (first | exact Tk.here | apply Tk.there)); done))))) (fun g => by infer_instance) ?_
   refine dv (fun g => (vmP rfl)) $ dv (fun g => (vmP rfl)) $ dv (fun g => (vnil rfl)) $ dv (fun g => (vfldp fl59f1 rfl)) $ dv (fun g => (vldc pl41 rfl)) $ WD.eff rfl $ bslA (v := .agg _) (cs := mv o) Tryz.underlying41 zt85 rfl rfl rfl (by decide) (by decide) fun b26 => wN $ WX.br $ WPl.oneX [row qb qc 9 85 (mvs (b.ms ++ om.take k))] (by repeat' (first | exact Spl.nil | (apply Spl.cons; focus (first | ((repeat (first | with_reducible exact Tk.here | with_reducible apply Tk.there)); done) | ((repeat (first | exact Tk.here | apply Tk.there)); done))))) (fun g => by infer_instance) ?_
   refine WD.eff rfl $ pm ow $ ap (vs := mvs (b.ms ++ om.take k)) (news := mv o) rfl Tryz.underlying41 zt85 rfl rfl rfl (by omega) (rfl) (mv_one o) (reads) (by simp only [maxLen]; omega) (by omega) fun base27 c27 hc27 => ?_
   exact wN $ WX.br $ WPl.barC $ dv (fun g => (vnil rfl)) $ dv (fun g => (vfldp fl59f1 rfl)) $ WD.eff rfl $ stp (v := .slice _ _ _) pl41 sz41 rfl rfl rfl $ wN $ WX.brT $ WPl.finC $ WD.nil $ WX.blockN $ tN $ wR $ zI rfl $ sv (vadd rfl rfl (by omega)) $ yI rfl $ wN $ WX.again (⟨k + 1, base27, c27⟩) (⟨h3.1, by dsimp only; omega, by dsimp only; omega⟩) (by dsimp only; omega) ⟨rfl, trivial⟩ ⟨rfl, rfl, trivial⟩ (fun w h => by dsimp only; rw [hsn, ← List.append_assoc, mvs_snoc]; exact Sb.o h)
  ·
   have hse := send_take (ms := b.ms.map Mh.ml) (out := om.map Mh.ml) (k := k) (by rw [List.length_map]; exact hk1) (by rw [List.length_map]; exact hk2) (by rw [List.length_map, List.length_map]; omega)
   refine WC.exit $ WX.thenE $ WX.thenE $ WX.blockH $ tN $ wS $ wR $ yB rfl $ wN $ tN $ WC.ret $ xR rfl (()) (trivial) rfl (fun w h => ?_)
   have h4 : Own w0 (mrows om :: _) w := Sb.o h
   have h5 := mrowsTake k h4
   have h6 : Own w0 (mrows b.ms :: mrows (om.take k) :: _) w := Sb.o h5
   have h7 := mrowsApp h6
   have h8 : Own w0 (rmans M (b.l.eraseIdx j) :: _) w := Sb.o h7
   have h9 := rmans_up1 (Nat.le_succ M) h8
   refine rc_mk (b := { b with l := b.l.set j ⟨e.q, e.dk, m2⟩, ms := b.ms ++ om.take k, mb := qb, mc := qc }) ⟨(hcw.set (m := m2) he).l, by show (b.ms ++ om.take k).map Mh.ml = sendM S.mails (om.map Mh.ml); rw [← hcw.ms, ← hse, List.map_append, List.map_take], by show (b.ms ++ om.take k).length ≤ qc; rw [List.length_append, List.length_take]; omega, (hcw.set (m := m2) he).lc⟩ ?_
   refine rL_in (b := { b with ms := b.ms ++ om.take k, mb := qb, mc := qc }) he ?_
   show Own w0 (rman (M + 1) e.q e.dk m2 :: cel p [.slice b.lb b.l.length b.lc, .slice qb (b.ms ++ om.take k).length qc] 59 :: row b.lb b.lc 1 60 (nptrC (b.l.map ME.q)) :: rmans (M + 1) (b.l.eraseIdx j) :: row qb qc 9 85 (mvs (b.ms ++ om.take k)) :: mrows (b.ms ++ om.take k) :: A) w
   rw [show (b.ms ++ om.take k).length = b.ms.length + k by rw [List.length_append, List.length_take]; omega]
   exact Sb.o h9
theorem rL_up {w0 w : World} {M p : Nat} {b : CB} {A : List HProp} (H : Own w0 (rL M p b A) w) : Own w0 (rL (M + 1) p b A) w := (rmans_up1 (Nat.le_succ M) (H.ix [2, 0, 1])).ix [1, 2, 0]
theorem nptrR_at {l : List ME} {j : Nat} {e : ME} (h : l[j]? = some e) : (nptrC (l.map ME.q))[((j : Int)).toNat]? = some (.pointer (some ⟨e.q, 0, none⟩)) := nptrC_at (by rw [List.getElem?_map, h]; rfl)
theorem r_come_low {p M : Nat} {S : CS} {b : CB} {m : Mh} (hcw : CW S b) (ht : m.to_ < 1) : Fun Tryz.prog w0 31 [.pointer (some ⟨p, 0, none⟩), .agg (mv m).toArray] (rL M p b A) (Ru w0 (.tuple #[]) (rc (M + 1) p S :: A)) := by
 refine Fun.enter Tryz.func31 rfl Tryz.ntmps31 rfl ?_
 refine wS $ wR $ bxc (v := .agg _) (cs := [.int _ _, .int _ _, .int _ _, .int _ _, .int _ _, .int _ _, .int _ _, .bool _, .slice _ _ _]) rfl rfl fun b1 => wN $ tN $ wS $ ?_
 refine WC.cutS [(34, .bool (decide (True)))] [(0, .pointer _), (3, .pointer _)] ⟨rfl, rfl, trivial⟩ ?_ fun ρh => ?_
 ·
  exact WC.draws rfl (by kernel_rfl) $ qv (vfldp fl85f2 rfl) $ qv (vldc pl3 rfl) $ qv (vT (vlt rfl rfl) (by omega)) $ qv (vmB rfl) $ qng rfl $ qng rfl $ qng rfl $ qng rfl $ qng rfl $ qng rfl $ qng rfl $ qng rfl $ qv (vpkt rfl) $ qv (vmB rfl) $ qng rfl $ qng rfl $ qng rfl $ qng rfl $ qng rfl $ qng rfl $ qng rfl $ qng rfl $ qng rfl $ qng rfl $ qng rfl $ qng rfl $ qng rfl $ qv (vpkt rfl) $ WQ.nil $ xM () trivial ⟨bTa, trivial⟩ ⟨rfl, rfl, trivial⟩ ow
 refine WC.tt rfl ?_
 exact WC.ret $ tR $ WX.ret0 rfl (()) (trivial) rfl (fun w h => rc_mk hcw (rL_up (Sb.o h)))
theorem r_come_high {p M : Nat} {S : CS} {b : CB} {m : Mh} (hcw : CW S b) (h1 : 1 ≤ m.to_) (ht : (S.ms.length : Int) < m.to_) : Fun Tryz.prog w0 31 [.pointer (some ⟨p, 0, none⟩), .agg (mv m).toArray] (rL M p b A) (Ru w0 (.tuple #[]) (rc (M + 1) p S :: A)) := by
 have hbl := hcw.len.1
 refine Fun.enter Tryz.func31 rfl Tryz.ntmps31 rfl ?_
 refine wS $ wR $ bxc (v := .agg _) (cs := [.int _ _, .int _ _, .int _ _, .int _ _, .int _ _, .int _ _, .int _ _, .bool _, .slice _ _ _]) rfl rfl fun b1 => wN $ tN $ wS $ ?_
 refine WC.cutS [(34, .bool (decide (True)))] [(0, .pointer _), (3, .pointer _)] ⟨rfl, rfl, trivial⟩ ?_ fun ρh => ?_
 ·
  exact WC.draws rfl (by kernel_rfl) $ qv (vfldp fl85f2 rfl) $ qv (vldc pl3 rfl) $ qv (vF (vlt rfl rfl) (by omega)) $ qv (vmB rfl) $ qvg rfl (vfldp fl85f2 rfl) $ qvg rfl (vldc pl3 rfl) $ qvg rfl (vmP rfl) $ qvg rfl (vnil rfl) $ qvg rfl (vfldpz fl59f0 rfl) $ qvg rfl (vldc pl57 rfl) $ qvg rfl (vlen Tryz.underlying57 rfl) $ qvg rfl (vT (vgt rfl rfl) (by omega)) $ qv (vpkf rfl) $ qv (vmB rfl) $ qng rfl $ qng rfl $ qng rfl $ qng rfl $ qng rfl $ qng rfl $ qng rfl $ qng rfl $ qng rfl $ qng rfl $ qng rfl $ qng rfl $ qng rfl $ qv (vpkt rfl) $ WQ.nil $ xM () trivial ⟨bTa, trivial⟩ ⟨rfl, rfl, trivial⟩ ow
 refine WC.tt rfl ?_
 exact WC.ret $ tR $ WX.ret0 rfl (()) (trivial) rfl (fun w h => rc_mk hcw (rL_up (Sb.o h)))
theorem r_come_nil {p M j : Nat} {S : CS} {b : CB} {m : Mh} {g : Mg} (hcw : CW S b) (hl5 : S.ms.length ≤ 5) (ht : m.to_ = (j : Int) + 1) (hj : S.ms[j]? = some g) (hn : g.node = none) : Fun Tryz.prog w0 31 [.pointer (some ⟨p, 0, none⟩), .agg (mv m).toArray] (rL M p b A) (Ru w0 (.tuple #[]) (rc (M + 1) p S :: A)) := by
 have hbl := hcw.len.1
 obtain ⟨e, he, hem⟩ := hcw.at_ hj
 subst hem
 have hjl := lt_of_at he
 refine Fun.ex (fun w h => (rman_down hn (rL_out he h)).elim fun jo h => ⟨jo, True.intro, h⟩) ?_
 intro jo _
 have hpt := nptrR_at he
 have hpl : 0 < (nptrC (b.l.map ME.q)).length := by rw [nptrC_length, List.length_map]; omega
 refine Fun.enter Tryz.func31 rfl Tryz.ntmps31 rfl ?_
 refine wS $ wR $ bxc (v := .agg _) (cs := [.int _ _, .int _ _, .int _ _, .int _ _, .int _ _, .int _ _, .int _ _, .bool _, .slice _ _ _]) rfl rfl fun b1 => wN $ tN $ wS $ ?_
 refine WC.cutS [(34, .bool (decide (True)))] [(0, .pointer _), (3, .pointer _)] ⟨rfl, rfl, trivial⟩ ?_ fun ρh => ?_
 ·
  exact WC.draws rfl (by kernel_rfl) $ qv (vfldp fl85f2 rfl) $ qv (vldc pl3 rfl) $ qv (vF (vlt rfl rfl) (by omega)) $ qv (vmB rfl) $ qvg rfl (vfldp fl85f2 rfl) $ qvg rfl (vldc pl3 rfl) $ qvg rfl (vmP rfl) $ qvg rfl (vnil rfl) $ qvg rfl (vfldpz fl59f0 rfl) $ qvg rfl (vldc pl57 rfl) $ qvg rfl (vlen Tryz.underlying57 rfl) $ qvg rfl (vF (vgt rfl rfl) (by omega)) $ qv (vpkf rfl) $ qv (vmB rfl) $ qvg rfl (vmP rfl) $ qvg rfl (vnil rfl) $ qvg rfl (vfldpz fl59f0 rfl) $ qvg rfl (vldc pl57 rfl) $ qvg rfl (vfldp fl85f2 rfl) $ qvg rfl (vldc pl3 rfl) $ qvg rfl (vw (v' := .int .i64 (j : Int)) (vsub rfl rfl (by omega)) (iv (by omega))) $ qvg rfl (vix1 Tryz.underlying57 sz60 rfl rfl (by omega) (by omega) reads hpl) $ qvg rfl (vldr pl60 rfl hpt) $ qvg rfl (vnil rfl) $ qvg rfl (vfldp fl68f1 rfl) $ qvg rfl (vldc pl65 rfl) $ qvg rfl (vpeqT Tryz.underlying65 rfl rfl) $ qv (vpkf rfl) $ WQ.nil $ xM () trivial ⟨bTa, trivial⟩ ⟨rfl, rfl, trivial⟩ ow
 refine WC.tt rfl ?_
 exact WC.ret $ tR $ WX.ret0 rfl (()) (trivial) rfl (fun w h => rc_mk (b := { b with l := b.l.set j ⟨e.q, e.dk, e.m⟩ }) (by have h2 := hcw.set (m := e.m) he; rwa [putM_same hj] at h2) (rL_up (rL_in he (rman_mkD (A := rL1 M p j b A) hn (Sb.o h)))))
theorem r_come_up {p M K j : Nat} {S : CS} {b : CB} {m : Mh} {g : Mg} {x : Rn} (h : CO K S) (hK : K ≤ 505) (hM : M + 1 ≤ 1099511627776) (hcw : CW S b) (ht : m.to_ = (j : Int) + 1) (hj : S.ms[j]? = some g) (hn : g.node = some x) (hxl : m.cs.xs.length ≤ 1099511627776) (hcc : m.cs.xs.length ≤ m.cs.cap) (hrd : RdC w0 (mrows b.ms :: A) m.cs.base (cvs m.cs.xs)) : Fun Tryz.prog w0 31 [.pointer (some ⟨p, 0, none⟩), .agg (mv m).toArray] (rL M p b A) (Ru w0 (.tuple #[]) (rc (M + 1) p (Go.Council.stepC j (fun x => takeS x m.ml) S).1 :: A)) := by
 have hbl := hcw.len.1
 have hl5 := h.n.2
 obtain ⟨e, he, hem⟩ := hcw.at_ hj
 subst hem
 have hjl := lt_of_at he
 have hg := h.mg j _ hj
 obtain ⟨g1, g2, g3, g4, g5⟩ := hg.up x hn
 have hlx := g2.log
 have hst : (Go.Council.stepC j (fun x => takeS x m.ml) S).1 = ⟨S.ms.set j (stepM x (takeS x m.ml).1 e.m).1, if (stepM x (takeS x m.ml).1 e.m).2 = true then sendM S.mails (takeS x m.ml).2 else S.mails⟩ := by unfold Go.Council.stepC; rw [hj]; dsimp only; rw [hn]
 rw [hst]
 refine Fun.ex (fun w h => (rman_up hn (rL_out he h)).elim fun i h => ⟨i, True.intro, h⟩) ?_
 rintro ⟨np, jp⟩ _
 dsimp only
 have hpt := nptrR_at he
 have hpl : 0 < (nptrC (b.l.map ME.q)).length := by rw [nptrC_length, List.length_map]; omega
 refine Fun.enter Tryz.func31 rfl Tryz.ntmps31 rfl ?_
 refine wS $ wR $ bxc (v := .agg _) (cs := [.int _ _, .int _ _, .int _ _, .int _ _, .int _ _, .int _ _, .int _ _, .bool _, .slice _ _ _]) rfl rfl fun b1 => wN $ tN $ wS $ ?_
 refine WC.cutS [(34, .bool (decide (False)))] [(0, .pointer _), (3, .pointer _)] ⟨rfl, rfl, trivial⟩ ?_ fun ρh => ?_
 ·
  exact WC.draws rfl (by kernel_rfl) $ qv (vfldp fl85f2 rfl) $ qv (vldc pl3 rfl) $ qv (vF (vlt rfl rfl) (by omega)) $ qv (vmB rfl) $ qvg rfl (vfldp fl85f2 rfl) $ qvg rfl (vldc pl3 rfl) $ qvg rfl (vmP rfl) $ qvg rfl (vnil rfl) $ qvg rfl (vfldpz fl59f0 rfl) $ qvg rfl (vldc pl57 rfl) $ qvg rfl (vlen Tryz.underlying57 rfl) $ qvg rfl (vF (vgt rfl rfl) (by omega)) $ qv (vpkf rfl) $ qv (vmB rfl) $ qvg rfl (vmP rfl) $ qvg rfl (vnil rfl) $ qvg rfl (vfldpz fl59f0 rfl) $ qvg rfl (vldc pl57 rfl) $ qvg rfl (vfldp fl85f2 rfl) $ qvg rfl (vldc pl3 rfl) $ qvg rfl (vw (v' := .int .i64 (j : Int)) (vsub rfl rfl (by omega)) (iv (by omega))) $ qvg rfl (vix1 Tryz.underlying57 sz60 rfl rfl (by omega) (by omega) reads hpl) $ qvg rfl (vldr pl60 rfl hpt) $ qvg rfl (vnil rfl) $ qvg rfl (vfldp fl68f1 rfl) $ qvg rfl (vldc pl65 rfl) $ qvg rfl (vpeqF Tryz.underlying65 rfl rfl) $ qv (vpkf rfl) $ WQ.nil $ xM () trivial ⟨bFa, trivial⟩ ⟨rfl, rfl, trivial⟩ ow
 refine WC.ff rfl ?_
 refine WC.skip $ tN $ wS $ WC.draws rfl (by kernel_rfl) $ qv (vmP rfl) $ qv (vnil rfl) $ qv (vfldpz fl59f0 rfl) $ qv (vldc pl57 rfl) $ qv (vfldp fl85f2 rfl) $ qv (vldc pl3 rfl) $ qv (vw (v' := .int .i64 (j : Int)) (vsub rfl rfl (by omega)) (iv (by omega))) $ qv (vix1 Tryz.underlying57 sz60 rfl rfl (by omega) (by omega) reads hpl) $ qv (vldr pl60 rfl hpt) $ qv (vnil rfl) $ qv (vfldp fl68f1 rfl) $ qv (vldc pl65 rfl) $ qv (vaP rfl) $ WQ.nil $ tN $ wS $ wR $ zP rfl $ clxo (r_was hlx) ct22 rfl fun r18 hr18 => ?_
 refine alz (cs := [.int .i64 0, .int .i64 0, .slice none 0 0]) zt74 (by rfl) fun b19 => stAp sz74 rfl rfl rfl (by intro v hv; simp only [List.mem_cons, List.not_mem_nil, or_false] at hv; rcases hv with rfl | rfl | rfl <;> rfl) rfl $ wN $ tN $ wS $ wR $ zP rfl $ sv (vldac ag85 sz85 rfl rfl (by decide)) $ clx (by repeat' (first | with_reducible exact Sb.all | exact Sb.nil | (apply Sb.cons; focus (first | ((repeat (first | with_reducible exact Tk.here | with_reducible apply Tk.there)); done) | ((repeat (first | exact Tk.here | apply Tk.there)); done))) | apply Sb.drop)) (ref_rtake (m := m) (hR := ⟨hrd.mono ow⟩) g2 hxl hcc) ct65 rfl fun r22 hr22 => ?_
 refine yS rfl $ wN $ tN $ wR $ zP rfl $ sv (vfldp fl85f2 rfl) $ sv (vldc pl3 rfl) $ sv (vw (v' := .int .i64 (j : Int)) (vsub rfl rfl (by omega)) (iv (by omega))) $ sv (vldac ag74 sz74 rfl rfl (by decide)) $ zS rfl $ clxo (r_step (x := x) (y := (takeS x m.ml).1) (om := r22.2.2) (n := (S.ms.length : Int)) hcw he rfl hl5 h.mails hM hg hn hK (by omega) g2.take (by rw [(Kin.take x m.ml).more.2.1]; exact g3.2) (take_wr x m.ml) hr22.2 hr18) ct24 rfl fun r26 hr26 => ?_
 exact wN $ WX.end0 rfl (()) (trivial) rfl (fun w h => by rw [← hr22.1]; exact Sb.o h)
theorem r_prop_arg {p M : Nat} {S : CS} {i : Int} {d : ByteArray} (hi : i < 1 ∨ (S.ms.length : Int) < i ∨ d.size = 0 ∨ 4096 < d.size) : Fun Tryz.prog w0 9 [.pointer (some ⟨p, 0, none⟩), .int .i64 i, .string d] (rc M p S :: A) (Ru w0 (.tuple #[.int .i64 0, .int .i64 1]) (rc (M + 1) p S :: A)) := by
 refine Fun.ex (fun w h => rc_open h) ?_
 intro b hcw
 have hbl := hcw.len.1
 refine Fun.enter Tryz.func9 rfl Tryz.ntmps9 rfl ?_
 refine wS $ wR $ yI rfl $ yI rfl $ wN $ tN $ wS $ ?_
 refine WC.cutS [(33, .bool (decide (True)))] [(0, .pointer _), (1, .int _ _), (2, .string _)] ⟨rfl, rfl, rfl, trivial⟩ ?_ fun ρh => ?_
 ·
  refine wR $ zI rfl $ svs (vlt rfl rfl) (fun q1 => ?_) (fun q1 => ?_)
  ·
   exact zB rfl $ sng rfl $ sng rfl $ sng rfl $ sng rfl $ sng rfl $ sng rfl $ sng rfl $ uT rfl $ zB rfl $ sng rfl $ sng rfl $ sng rfl $ uT rfl $ zB rfl $ sng rfl $ sng rfl $ sng rfl $ uT rfl $ wN $ xM () trivial ⟨bTa, trivial⟩ ⟨rfl, rfl, rfl, trivial⟩ ow
  ·
   refine zB rfl $ svg rfl (vmI rfl) $ svg rfl (vmP rfl) $ svg rfl (vnil rfl) $ svg rfl (vfldpz fl59f0 rfl) $ svg rfl (vldc pl57 rfl) $ svg rfl (vlen Tryz.underlying57 rfl) $ svsg rfl (vgt rfl rfl) (fun q2 => ?_) (fun q2 => ?_)
   ·
    exact uF rfl $ zB rfl $ sng rfl $ sng rfl $ sng rfl $ uT rfl $ zB rfl $ sng rfl $ sng rfl $ sng rfl $ uT rfl $ wN $ xM () trivial ⟨bTa, trivial⟩ ⟨rfl, rfl, rfl, trivial⟩ ow
   ·
    refine uF rfl $ zB rfl $ svg rfl (vmT rfl) $ svg rfl (vlens Tryz.underlying9 rfl) $ svsg rfl (vlt rfl rfl) (fun q3 => ?_) (fun q3 => ?_)
    ·
     exact uF rfl $ zB rfl $ sng rfl $ sng rfl $ sng rfl $ uT rfl $ wN $ xM () trivial ⟨bTa, trivial⟩ ⟨rfl, rfl, rfl, trivial⟩ ow
    ·
     exact uF rfl $ zB rfl $ svg rfl (vmT rfl) $ svg rfl (vlens Tryz.underlying9 rfl) $ svg rfl (vgt rfl rfl) $ uF rfl $ wN $ xM () trivial ⟨bI ⟨fun _ => trivial, fun _ => by omega⟩, trivial⟩ ⟨rfl, rfl, rfl, trivial⟩ ow
 refine WC.tt rfl ?_
 exact wS $ wR $ yI rfl $ yI rfl $ wN $ tN $ WC.ret $ tR $ WX.ret2 rfl (()) (trivial) rfl (fun w h => rc_mk hcw (rL_up (Sb.o h)))
theorem r_prop_down {p j M : Nat} {S : CS} {m : Mg} {d : ByteArray} (hl5 : S.ms.length ≤ 5) (hj : S.ms[j]? = some m) (hx : m.node = none) (hd : d.size ≠ 0 ∧ d.size ≤ 4096) : Fun Tryz.prog w0 9 [.pointer (some ⟨p, 0, none⟩), .int .i64 ((j : Int) + 1), .string d] (rc M p S :: A) (Ru w0 (.tuple #[.int .i64 0, .int .i64 20]) (rc (M + 1) p S :: A)) := by
 refine Fun.ex (fun w h => rc_open h) ?_
 intro b hcw
 have hbl := hcw.len.1
 obtain ⟨e, he, hem⟩ := hcw.at_ hj
 subst hem
 have hjl := lt_of_at he
 refine Fun.ex (fun w h => (rman_down hx (rL_out he h)).elim fun jo h => ⟨jo, True.intro, h⟩) ?_
 intro jo _
 have hpt := nptrR_at he
 have hpl : 0 < (nptrC (b.l.map ME.q)).length := by rw [nptrC_length, List.length_map]; omega
 refine Fun.enter Tryz.func9 rfl Tryz.ntmps9 rfl ?_
 refine wS $ wR $ yI rfl $ yI rfl $ wN $ tN $ wS $ ?_
 refine WC.cutS [(33, .bool (decide (False)))] [(0, .pointer _), (1, .int _ _), (2, .string _)] ⟨rfl, rfl, rfl, trivial⟩ ?_ fun ρh => ?_
 ·
  refine wR $ zI rfl $ svs (vlt rfl rfl) (fun q1 => ?_) (fun q1 => ?_)
  ·
   exact zB rfl $ sng rfl $ sng rfl $ sng rfl $ sng rfl $ sng rfl $ sng rfl $ sng rfl $ uT rfl $ zB rfl $ sng rfl $ sng rfl $ sng rfl $ uT rfl $ zB rfl $ sng rfl $ sng rfl $ sng rfl $ uT rfl $ wN $ xM () trivial ⟨bT (by omega), trivial⟩ ⟨rfl, rfl, rfl, trivial⟩ ow
  ·
   refine zB rfl $ svg rfl (vmI rfl) $ svg rfl (vmP rfl) $ svg rfl (vnil rfl) $ svg rfl (vfldpz fl59f0 rfl) $ svg rfl (vldc pl57 rfl) $ svg rfl (vlen Tryz.underlying57 rfl) $ svsg rfl (vgt rfl rfl) (fun q2 => ?_) (fun q2 => ?_)
   ·
    exact uF rfl $ zB rfl $ sng rfl $ sng rfl $ sng rfl $ uT rfl $ zB rfl $ sng rfl $ sng rfl $ sng rfl $ uT rfl $ wN $ xM () trivial ⟨bT (by omega), trivial⟩ ⟨rfl, rfl, rfl, trivial⟩ ow
   ·
    refine uF rfl $ zB rfl $ svg rfl (vmT rfl) $ svg rfl (vlens Tryz.underlying9 rfl) $ svsg rfl (vlt rfl rfl) (fun q3 => ?_) (fun q3 => ?_)
    ·
     exact uF rfl $ zB rfl $ sng rfl $ sng rfl $ sng rfl $ uT rfl $ wN $ xM () trivial ⟨bT (by omega), trivial⟩ ⟨rfl, rfl, rfl, trivial⟩ ow
    ·
     exact uF rfl $ zB rfl $ svg rfl (vmT rfl) $ svg rfl (vlens Tryz.underlying9 rfl) $ svg rfl (vgt rfl rfl) $ uF rfl $ wN $ xM () trivial ⟨bI ⟨fun h => by omega, False.elim⟩, trivial⟩ ⟨rfl, rfl, rfl, trivial⟩ ow
 refine WC.ff rfl ?_
 refine WC.skip $ tN $ wS $ wR $ zP rfl $ uN rfl $ sv (vfldpz fl59f0 rfl) $ sv (vldc pl57 rfl) $ zI rfl $ sv (vw (v' := .int .i64 (j : Int)) (vsub rfl rfl (by omega)) (iv (by omega))) $ sv (vix1 Tryz.underlying57 sz60 rfl rfl (by omega) (by omega) reads hpl) $ sv (vldr pl60 rfl hpt) $ uN rfl $ sv (vfldp fl68f1 rfl) $ sv (vldc pl65 rfl) $ sv (vaP rfl) $ wN $ tN $ wS $ wS $ wR $ zP rfl $ sv (vpeqT Tryz.underlying65 rfl rfl) $ wN $ tN $ ?_
 refine WC.tt rfl ?_
 exact wS $ wR $ yI rfl $ yI rfl $ wN $ tN $ WC.ret $ tR $ WX.ret2 rfl (()) (trivial) rfl (fun w h => rc_mk (b := { b with l := b.l.set j ⟨e.q, e.dk, e.m⟩ }) (by have h2 := hcw.set (m := e.m) he; rwa [putM_same hj] at h2) (rL_up (rL_in he (rman_mkD (A := rL1 M p j b A) hx (Sb.o h)))))
theorem r_prop_err {p j M K : Nat} {S : CS} {m : Mg} {x : Rn} {d : ByteArray} (h : CO K S) (hj : S.ms[j]? = some m) (hx : m.node = some x) (hd : d.size ≠ 0 ∧ d.size ≤ 4096) (hpe : proposeE x d ≠ 0) : Fun Tryz.prog w0 9 [.pointer (some ⟨p, 0, none⟩), .int .i64 ((j : Int) + 1), .string d] (rc M p S :: A) (Ru w0 (.tuple #[.int .i64 0, .int .i64 (proposeE x d)]) (rc (M + 1) p S :: A)) := by
 refine Fun.ex (fun w h => rc_open h) ?_
 intro b hcw
 have hbl := hcw.len.1
 have hl5 := h.n.2
 obtain ⟨e, he, hem⟩ := hcw.at_ hj
 subst hem
 have hjl := lt_of_at he
 obtain ⟨g1, g2, g3, g4, g5⟩ := (h.mg j _ hj).up x hx
 have hlx := g2.log
 refine Fun.ex (fun w h => (rman_up hx (rL_out he h)).elim fun i h => ⟨i, True.intro, h⟩) ?_
 rintro ⟨np, jp⟩ _
 dsimp only
 have hpt := nptrR_at he
 have hpl : 0 < (nptrC (b.l.map ME.q)).length := by rw [nptrC_length, List.length_map]; omega
 refine Fun.enter Tryz.func9 rfl Tryz.ntmps9 rfl ?_
 refine wS $ wR $ yI rfl $ yI rfl $ wN $ tN $ wS $ ?_
 refine WC.cutS [(33, .bool (decide (False)))] [(0, .pointer _), (1, .int _ _), (2, .string _)] ⟨rfl, rfl, rfl, trivial⟩ ?_ fun ρh => ?_
 ·
  refine wR $ zI rfl $ svs (vlt rfl rfl) (fun q1 => ?_) (fun q1 => ?_)
  ·
   exact zB rfl $ sng rfl $ sng rfl $ sng rfl $ sng rfl $ sng rfl $ sng rfl $ sng rfl $ uT rfl $ zB rfl $ sng rfl $ sng rfl $ sng rfl $ uT rfl $ zB rfl $ sng rfl $ sng rfl $ sng rfl $ uT rfl $ wN $ xM () trivial ⟨bT (by omega), trivial⟩ ⟨rfl, rfl, rfl, trivial⟩ ow
  ·
   refine zB rfl $ svg rfl (vmI rfl) $ svg rfl (vmP rfl) $ svg rfl (vnil rfl) $ svg rfl (vfldpz fl59f0 rfl) $ svg rfl (vldc pl57 rfl) $ svg rfl (vlen Tryz.underlying57 rfl) $ svsg rfl (vgt rfl rfl) (fun q2 => ?_) (fun q2 => ?_)
   ·
    exact uF rfl $ zB rfl $ sng rfl $ sng rfl $ sng rfl $ uT rfl $ zB rfl $ sng rfl $ sng rfl $ sng rfl $ uT rfl $ wN $ xM () trivial ⟨bT (by omega), trivial⟩ ⟨rfl, rfl, rfl, trivial⟩ ow
   ·
    refine uF rfl $ zB rfl $ svg rfl (vmT rfl) $ svg rfl (vlens Tryz.underlying9 rfl) $ svsg rfl (vlt rfl rfl) (fun q3 => ?_) (fun q3 => ?_)
    ·
     exact uF rfl $ zB rfl $ sng rfl $ sng rfl $ sng rfl $ uT rfl $ wN $ xM () trivial ⟨bT (by omega), trivial⟩ ⟨rfl, rfl, rfl, trivial⟩ ow
    ·
     exact uF rfl $ zB rfl $ svg rfl (vmT rfl) $ svg rfl (vlens Tryz.underlying9 rfl) $ svg rfl (vgt rfl rfl) $ uF rfl $ wN $ xM () trivial ⟨bI ⟨fun h => by omega, False.elim⟩, trivial⟩ ⟨rfl, rfl, rfl, trivial⟩ ow
 refine WC.ff rfl ?_
 refine WC.skip $ tN $ wS $ wR $ zP rfl $ uN rfl $ sv (vfldpz fl59f0 rfl) $ sv (vldc pl57 rfl) $ zI rfl $ sv (vw (v' := .int .i64 (j : Int)) (vsub rfl rfl (by omega)) (iv (by omega))) $ sv (vix1 Tryz.underlying57 sz60 rfl rfl (by omega) (by omega) reads hpl) $ sv (vldr pl60 rfl hpt) $ uN rfl $ sv (vfldp fl68f1 rfl) $ sv (vldc pl65 rfl) $ sv (vaP rfl) $ wN $ tN $ wS $ wS $ wR $ zP rfl $ sv (vpeqF Tryz.underlying65 rfl rfl) $ wN $ tN $ ?_
 refine WC.ff rfl ?_
 refine WC.skip $ tN $ wS $ wR $ zP rfl $ clxo (r_was hlx) ct22 rfl fun r8 hr8 => ?_
 refine alz (cs := [.int .i64 0, .int .i64 0, .slice none 0 0]) zt74 (by rfl) fun b9 => stAp sz74 rfl rfl rfl (by intro v hv; simp only [List.mem_cons, List.not_mem_nil, or_false] at hv; rcases hv with rfl | rfl | rfl <;> rfl) rfl $ wN $ tN $ wS $ wR $ zP rfl $ sv (vmT rfl) $ clxo (ref_propose_err hpe) ct23 rfl fun r11 hr11 => ?_
 refine sv vmv $ sv (vex rfl rfl) $ sv (vex rfl rfl) $ sv (vex rfl rfl) $ yI rfl $ yS rfl $ yI rfl $ wN $ tN $ wS $ wS $ wR $ zI rfl $ sv (vne rfl rfl) $ wN $ tN $ ?_
 refine WC.ite rfl (fun h3 => ?_) (fun h3 => ?_)
 ·
  exact wS $ wR $ zI rfl $ yI rfl $ yI rfl $ wN $ tN $ WC.ret $ tR $ WX.ret2 rfl (()) (trivial) rfl (fun w h => rc_mk (b := { b with l := b.l.set j ⟨e.q, e.dk, e.m⟩ }) (by have h2 := hcw.set (m := e.m) he; rwa [putM_same hj] at h2) (rL_up (rL_in he (rman_mkU (A := rL1 M p j b A) (np := np) (jp := jp) hx (Sb.o h)))))
 ·
  exact absurd (Decidable.not_not.1 h3) hpe
theorem r_prop_up {p j M K : Nat} {S : CS} {m : Mg} {x : Rn} {d : ByteArray} (h : CO K S) (hK : K ≤ 505) (hM : M + 1 ≤ 1099511627776) (hj : S.ms[j]? = some m) (hx : m.node = some x) (hd : d.size ≠ 0 ∧ d.size ≤ 4096) (hpe : proposeE x d = 0) (hpr : x.role = 2 ∧ x.log.length < 10000) : Fun Tryz.prog w0 9 [.pointer (some ⟨p, 0, none⟩), .int .i64 ((j : Int) + 1), .string d] (rc M p S :: A) (Ru w0 (.tuple #[.int .i64 (if (Go.Council.stepC j (fun x => proposeS x d) S).2 = true then (x.log.length : Int) + 1 else 0), .int .i64 (if (Go.Council.stepC j (fun x => proposeS x d) S).2 = true then 0 else 20)]) (rc (M + 1) p (Go.Council.stepC j (fun x => proposeS x d) S).1 :: A)) := by
 refine Fun.ex (fun w h => rc_open h) ?_
 intro b hcw
 have hbl := hcw.len.1
 have hl5 := h.n.2
 obtain ⟨e, he, hem⟩ := hcw.at_ hj
 subst hem
 have hjl := lt_of_at he
 have hg := h.mg j _ hj
 obtain ⟨g1, g2, g3, g4, g5⟩ := hg.up x hx
 have hlx := g2.log
 have hst : Go.Council.stepC j (fun x => proposeS x d) S = (⟨S.ms.set j (stepM x (proposeS x d).1 e.m).1, if (stepM x (proposeS x d).1 e.m).2 = true then sendM S.mails (proposeS x d).2 else S.mails⟩, (stepM x (proposeS x d).1 e.m).2) := by unfold Go.Council.stepC; rw [hj]; dsimp only; rw [hx]
 rw [hst]
 dsimp only
 refine Fun.ex (fun w h => (rman_up hx (rL_out he h)).elim fun i h => ⟨i, True.intro, h⟩) ?_
 rintro ⟨np, jp⟩ _
 dsimp only
 have hpt := nptrR_at he
 have hpl : 0 < (nptrC (b.l.map ME.q)).length := by rw [nptrC_length, List.length_map]; omega
 refine Fun.enter Tryz.func9 rfl Tryz.ntmps9 rfl ?_
 refine wS $ wR $ yI rfl $ yI rfl $ wN $ tN $ wS $ ?_
 refine WC.cutS [(33, .bool (decide (False)))] [(0, .pointer _), (1, .int _ _), (2, .string _)] ⟨rfl, rfl, rfl, trivial⟩ ?_ fun ρh => ?_
 ·
  refine wR $ zI rfl $ svs (vlt rfl rfl) (fun q1 => ?_) (fun q1 => ?_)
  ·
   exact zB rfl $ sng rfl $ sng rfl $ sng rfl $ sng rfl $ sng rfl $ sng rfl $ sng rfl $ uT rfl $ zB rfl $ sng rfl $ sng rfl $ sng rfl $ uT rfl $ zB rfl $ sng rfl $ sng rfl $ sng rfl $ uT rfl $ wN $ xM () trivial ⟨bT (by omega), trivial⟩ ⟨rfl, rfl, rfl, trivial⟩ ow
  ·
   refine zB rfl $ svg rfl (vmI rfl) $ svg rfl (vmP rfl) $ svg rfl (vnil rfl) $ svg rfl (vfldpz fl59f0 rfl) $ svg rfl (vldc pl57 rfl) $ svg rfl (vlen Tryz.underlying57 rfl) $ svsg rfl (vgt rfl rfl) (fun q2 => ?_) (fun q2 => ?_)
   ·
    exact uF rfl $ zB rfl $ sng rfl $ sng rfl $ sng rfl $ uT rfl $ zB rfl $ sng rfl $ sng rfl $ sng rfl $ uT rfl $ wN $ xM () trivial ⟨bT (by omega), trivial⟩ ⟨rfl, rfl, rfl, trivial⟩ ow
   ·
    refine uF rfl $ zB rfl $ svg rfl (vmT rfl) $ svg rfl (vlens Tryz.underlying9 rfl) $ svsg rfl (vlt rfl rfl) (fun q3 => ?_) (fun q3 => ?_)
    ·
     exact uF rfl $ zB rfl $ sng rfl $ sng rfl $ sng rfl $ uT rfl $ wN $ xM () trivial ⟨bT (by omega), trivial⟩ ⟨rfl, rfl, rfl, trivial⟩ ow
    ·
     exact uF rfl $ zB rfl $ svg rfl (vmT rfl) $ svg rfl (vlens Tryz.underlying9 rfl) $ svg rfl (vgt rfl rfl) $ uF rfl $ wN $ xM () trivial ⟨bI ⟨fun h => by omega, False.elim⟩, trivial⟩ ⟨rfl, rfl, rfl, trivial⟩ ow
 refine WC.ff rfl ?_
 refine WC.skip $ tN $ wS $ wR $ zP rfl $ uN rfl $ sv (vfldpz fl59f0 rfl) $ sv (vldc pl57 rfl) $ zI rfl $ sv (vw (v' := .int .i64 (j : Int)) (vsub rfl rfl (by omega)) (iv (by omega))) $ sv (vix1 Tryz.underlying57 sz60 rfl rfl (by omega) (by omega) reads hpl) $ sv (vldr pl60 rfl hpt) $ uN rfl $ sv (vfldp fl68f1 rfl) $ sv (vldc pl65 rfl) $ sv (vaP rfl) $ wN $ tN $ wS $ wS $ wR $ zP rfl $ sv (vpeqF Tryz.underlying65 rfl rfl) $ wN $ tN $ ?_
 refine WC.ff rfl ?_
 refine WC.skip $ tN $ wS $ wR $ zP rfl $ clxo (r_was hlx) ct22 rfl fun r8 hr8 => ?_
 refine alz (cs := [.int .i64 0, .int .i64 0, .slice none 0 0]) zt74 (by rfl) fun b9 => stAp sz74 rfl rfl rfl (by intro v hv; simp only [List.mem_cons, List.not_mem_nil, or_false] at hv; rcases hv with rfl | rfl | rfl <;> rfl) rfl $ wN $ tN $ wS $ wR $ zP rfl $ sv (vmT rfl) $ clxo (ref_propose g2 hpe) ct23 rfl fun r11 hr11 => ?_
 refine sv vmv $ sv (vex rfl rfl) $ sv (vex rfl rfl) $ sv (vex rfl rfl) $ yI rfl $ yS rfl $ yI rfl $ wN $ tN $ wS $ wS $ wR $ zI rfl $ sv (vne rfl rfl) $ wN $ tN $ ?_
 refine WC.ff rfl ?_
 refine WC.skip $ tN $ wS $ wS $ wR $ zP rfl $ zI rfl $ sv (vw (v' := .int .i64 (j : Int)) (vsub rfl rfl (by omega)) (iv (by omega))) $ sv (vldac ag74 sz74 rfl rfl (by decide)) $ zS rfl $ clxo (r_step (x := x) (y := (proposeS x d).1) (om := r11.2.2) (n := (S.ms.length : Int)) hcw he rfl hl5 h.mails hM hg hx hK (by omega) (g2.propose hpr.1 hpr.2 hd.2) g3.2 (prop_wr x d) hr11.2 hr8) ct24 rfl fun r14 hr14 => ?_
 refine sv (vnot rfl) $ wN $ tN $ ?_
 refine WC.iteb rfl (fun h4 => ?_) (fun h4 => ?_)
 ·
  have hh : (stepM x (proposeS x d).1 e.m).2 = false := by simpa using h4
  rw [hh, if_neg (show ¬ false = true from fun h => by cases h), if_neg (show ¬ false = true from fun h => by cases h), if_neg (show ¬ false = true from fun h => by cases h)]
  exact wS $ wR $ yI rfl $ yI rfl $ wN $ tN $ WC.ret $ tR $ WX.ret2 rfl (()) (trivial) rfl (fun w h => by rw [if_neg (show ¬ false = true from fun h => by cases h)] at h; exact Sb.o h)
 ·
  have hh : (stepM x (proposeS x d).1 e.m).2 = true := by simpa using h4
  rw [hh, if_pos rfl, if_pos rfl, if_pos rfl]
  exact WC.skip $ tN $ wS $ wR $ zI rfl $ yI rfl $ yI rfl $ wN $ tN $ WC.ret $ WX.ret2 rfl (()) (trivial) rfl (fun w h => by rw [if_pos rfl, hr11.1] at h; exact Sb.o h)
theorem r_man_tick_nil {p j M : Nat} {S : CS} {m : Mg} {n keep : Int} (hl5 : S.ms.length ≤ 5) (hj : S.ms[j]? = some m) (hx : m.node = none) : Fun Tryz.prog w0 30 [.pointer (some ⟨p, 0, none⟩), .agg #[.int .i64 1, .int .i64 ((j : Int) + 1), .int .i64 n, .int .i64 keep]] (rc M p S :: A) (Ru w0 (.tuple #[]) (rc (M + 1) p S :: A)) := by
 refine Fun.ex (fun w h => rc_open h) ?_
 intro b hcw
 have hbl := hcw.len.1
 obtain ⟨e, he, hem⟩ := hcw.at_ hj
 subst hem
 have hjl := lt_of_at he
 refine Fun.ex (fun w h => (rman_down hx (rL_out he h)).elim fun jo h => ⟨jo, True.intro, h⟩) ?_
 intro jo _
 have hpt := nptrs_at he
 have hpl : 0 < (nptrC (b.l.map ME.q)).length := by rw [nptrC_length, List.length_map]; omega
 refine Fun.enter Tryz.func30 rfl Tryz.ntmps30 rfl ?_
 refine wS $ wR $ bxc (v := .agg _) (cs := [.int _ _, .int _ _, .int _ _, .int _ _]) rfl rfl fun b1 => wN $ tN $ wS $ WC.draws rfl (by kernel_rfl) $ qv (vmP rfl) $ qv (vnil rfl) $ qv (vfldpz fl59f0 rfl) $ qv (vldc pl57 rfl) $ qv (vfldp fl32f1 rfl) $ qv (vldc pl3 rfl) $ qv (vsub rfl rfl (by omega)) $ qv (vix1 Tryz.underlying57 sz60 rfl rfl (by omega) (by omega) reads hpl) $ qv (vldr pl60 rfl hpt) $ qv (vaP rfl) $ WQ.nil $ tN $ wS $ wR $ sv (vfldpz fl32f0 rfl) $ sv (vldc pl3 rfl) $ wN $ tN $ WC.block $ wS $ wR $ sv (veq rfl rfl) $ yB rfl $ wN $ tN $ ?_
 refine WC.tt rfl ?_
 refine wS $ wR $ zP rfl $ uN rfl $ sv (vfldp fl68f1 rfl) $ sv (vldc pl65 rfl) $ sv (vpneF Tryz.underlying65 rfl rfl) $ wN $ tN $ ?_
 refine WC.ff rfl ?_
 exact WC.skip $ WX.blockN $ WX.end0 rfl (()) (trivial) rfl (fun w h => rc_mk (b := { b with l := b.l.set j ⟨e.q, e.dk, e.m⟩ }) (by have h2 := hcw.set (m := e.m) he; rwa [putM_same hj] at h2) (rL_up (rL_in he (rman_mkD (A := rL1 M p j b A) hx (Sb.o h)))))
theorem r_man_tick {p j M K : Nat} {S : CS} {m : Mg} {x : Rn} {n keep : Int} (h : CO K S) (hK : K ≤ 505) (hM : M + 1 ≤ 1099511627776) (hj : S.ms[j]? = some m) (hx : m.node = some x) : Fun Tryz.prog w0 30 [.pointer (some ⟨p, 0, none⟩), .agg #[.int .i64 1, .int .i64 ((j : Int) + 1), .int .i64 n, .int .i64 keep]] (rc M p S :: A) (Ru w0 (.tuple #[]) (rc (M + 1) p (Go.Council.stepC j tickS S).1 :: A)) := by
 refine Fun.ex (fun w h => rc_open h) ?_
 intro b hcw
 have hbl := hcw.len.1
 have hl5 := h.n.2
 obtain ⟨e, he, hem⟩ := hcw.at_ hj
 subst hem
 have hjl := lt_of_at he
 have hg := h.mg j _ hj
 obtain ⟨g1, g2, g3, g4, g5⟩ := hg.up x hx
 have hlx := g2.log
 have hst : (Go.Council.stepC j tickS S).1 = ⟨S.ms.set j (stepM x (tickS x).1 e.m).1, if (stepM x (tickS x).1 e.m).2 = true then sendM S.mails (tickS x).2 else S.mails⟩ := by unfold Go.Council.stepC; rw [hj]; dsimp only; rw [hx]
 rw [hst]
 refine Fun.ex (fun w h => (rman_up hx (rL_out he h)).elim fun i h => ⟨i, True.intro, h⟩) ?_
 rintro ⟨np, jp⟩ _
 dsimp only
 have hpt := nptrs_at he
 have hpl : 0 < (nptrC (b.l.map ME.q)).length := by rw [nptrC_length, List.length_map]; omega
 refine Fun.enter Tryz.func30 rfl Tryz.ntmps30 rfl ?_
 refine wS $ wR $ bxc (v := .agg _) (cs := [.int _ _, .int _ _, .int _ _, .int _ _]) rfl rfl fun b1 => wN $ tN $ wS $ WC.draws rfl (by kernel_rfl) $ qv (vmP rfl) $ qv (vnil rfl) $ qv (vfldpz fl59f0 rfl) $ qv (vldc pl57 rfl) $ qv (vfldp fl32f1 rfl) $ qv (vldc pl3 rfl) $ qv (vsub rfl rfl (by omega)) $ qv (vix1 Tryz.underlying57 sz60 rfl rfl (by omega) (by omega) reads hpl) $ qv (vldr pl60 rfl hpt) $ qv (vaP rfl) $ WQ.nil $ tN $ wS $ wR $ sv (vfldpz fl32f0 rfl) $ sv (vldc pl3 rfl) $ wN $ tN $ WC.block $ wS $ wR $ sv (veq rfl rfl) $ yB rfl $ wN $ tN $ ?_
 refine WC.tt rfl ?_
 refine wS $ wR $ zP rfl $ uN rfl $ sv (vfldp fl68f1 rfl) $ sv (vldc pl65 rfl) $ sv (vpneT Tryz.underlying65 rfl rfl) $ wN $ tN $ ?_
 refine WC.tt rfl ?_
 refine wS $ wR $ zP rfl $ uN rfl $ sv (vfldp fl68f1 rfl) $ sv (vldc pl65 rfl) $ clxo (r_was hlx) ct22 rfl fun r11 hr11 => ?_
 refine alz (cs := [.int .i64 0, .int .i64 0, .slice none 0 0]) zt74 (by rfl) fun b12 => stAp sz74 rfl rfl rfl (by intro v hv; simp only [List.mem_cons, List.not_mem_nil, or_false] at hv; rcases hv with rfl | rfl | rfl <;> rfl) rfl $ wN $ tN $ wS $ wR $ zP rfl $ uN rfl $ sv (vfldp fl68f1 rfl) $ sv (vldc pl65 rfl) $ clxo (ref_tick g2 (by omega)) ct61 rfl fun r15 hr15 => ?_
 refine yS rfl $ wN $ tN $ wR $ zP rfl $ sv (vfldp fl32f1 rfl) $ sv (vldc pl3 rfl) $ sv (vw (v' := .int .i64 (j : Int)) (vsub rfl rfl (by omega)) (iv (by omega))) $ sv (vldac ag74 sz74 rfl rfl (by decide)) $ zS rfl $ clxo (r_step (x := x) (y := (tickS x).1) (om := r15.2.2) (n := (S.ms.length : Int)) hcw he rfl hl5 h.mails hM hg hx hK (by omega) g2.tick (by rw [(tick_id x).2.1]; exact g3.2) (tick_wr x) hr15.2 hr11) ct24 rfl fun r19 hr19 => ?_
 exact wN $ WX.blockN $ WX.end0 rfl (()) (trivial) rfl (fun w h => by rw [← hr15.1]; exact Sb.o h)
def RX (M q dk : Nat) (m : Mg) (i : HMI) : Prop := (m.node = none → i.np = none) ∧ (∀ (w0 : World) (st : DSt) (B : List HProp) (w : World), Own w0 (cel q (mcell dk i.np i.jp) 68 :: rdisk dk M st :: i.X :: B) w → Own w0 (rman M q dk ⟨st, m.node, m.rs⟩ :: B) w) ∧ (m.node ≠ none → i.np.isSome = true)
theorem rman_disk {w0 w : World} {A : List HProp} {M q dk : Nat} {m : Mg} (H : Own w0 (rman M q dk m :: A) w) : ∃ i : HMI, RX M q dk m i ∧ Own w0 (cel q (mcell dk i.np i.jp) 68 :: rdisk dk M m.st :: i.X :: A) w := by
 cases hn : m.node with
 | none =>
  obtain ⟨jo, h⟩ := rman_down hn H
  exact ⟨⟨none, jo, emp⟩, ⟨fun _ => rfl, fun w0 st B w h => by rw [hn]; exact rman_mkD (m := ⟨st, none, m.rs⟩) rfl (h.ix [2, 0, 1]).tail, fun h => absurd hn h⟩, (Own.intro_emp h).ix [1, 2, 0]⟩
 | some x =>
  obtain ⟨⟨np, jp⟩, h⟩ := rman_up hn H
  refine ⟨⟨some ⟨np, 0, none⟩, some ⟨jp, 0, none⟩, star (rnode np x) (cel jp (wcells dk lnm m.rs.length false) 125)⟩, ⟨fun h => (by rw [hn] at h; cases h), fun w0 st B w h => ?_, fun _ => rfl⟩, ?_⟩
  ·rw [hn]
   exact rman_mkU (m := ⟨st, some x, m.rs⟩) (np := np) (jp := jp) rfl ((h.ix [2, 0, 1]).star.ix [2, 3, 0, 1])
  ·exact ((h.ix [2, 3, 0, 1]).intro_star).ix [1, 2, 0]
theorem _root_.Go.Proofs.YtigjompojlhomaaGreat.RRep.len {l : List RF} {st : DSt} {nm : ByteArray} (h : RRep l st) : (readS nm st).1.length ≤ 16777216 := by
 unfold readS
 split
 ·exact Nat.zero_le _
 ·cases hf : st.files nm with
  | none => exact Nat.zero_le _
  | some v =>
   obtain ⟨j, x, hj, _, hv⟩ := h.at hf
   have := (h.ok x (List.mem_of_getElem? hj)).2.1
   rw [← hv]
   exact this
theorem r_man_arm {p j M : Nat} {S : CS} {m : Mg} {n keep : Int} (hl5 : S.ms.length ≤ 5) (hj : S.ms[j]? = some m) (hn : n ≤ 9223372036854775807) : Fun Tryz.prog w0 30 [.pointer (some ⟨p, 0, none⟩), .agg #[.int .i64 5, .int .i64 ((j : Int) + 1), .int .i64 n, .int .i64 keep]] (rc M p S :: A) (Ru w0 (.tuple #[]) (rc (M + 1) p (putM S j ⟨{ m.st with fuse := max n 0, keep := keep }, m.node, m.rs⟩) :: A)) := by
 refine Fun.ex (fun w h => rc_open h) ?_
 intro b hcw
 have hbl := hcw.len.1
 obtain ⟨e, he, hem⟩ := hcw.at_ hj
 have hjl := lt_of_at he
 refine Fun.ex (fun w h => rman_disk (rL_out he h)) ?_
 rw [hem]
 rintro ⟨np, jp, X⟩ ⟨hX1, hX2, hX3⟩
 dsimp only at hX1 hX2 hX3 ⊢
 have hpt := nptrs_at he
 have hpl : 0 < (nptrC (b.l.map ME.q)).length := by rw [nptrC_length, List.length_map]; omega
 refine Fun.enter Tryz.func30 rfl Tryz.ntmps30 rfl ?_
 refine wS $ wR $ bxc (v := .agg _) (cs := [.int _ _, .int _ _, .int _ _, .int _ _]) rfl rfl fun b1 => wN $ tN $ wS $ WC.draws rfl (by kernel_rfl) $ qv (vmP rfl) $ qv (vnil rfl) $ qv (vfldpz fl59f0 rfl) $ qv (vldc pl57 rfl) $ qv (vfldp fl32f1 rfl) $ qv (vldc pl3 rfl) $ qv (vsub rfl rfl (by omega)) $ qv (vix1 Tryz.underlying57 sz60 rfl rfl (by omega) (by omega) reads hpl) $ qv (vldr pl60 rfl hpt) $ qv (vaP rfl) $ WQ.nil $ tN $ wS $ wR $ sv (vfldpz fl32f0 rfl) $ sv (vldc pl3 rfl) $ wN $ tN $ WC.block $ wS $ wR $ sv (veq rfl rfl) $ yB rfl $ wN $ tN $ ?_
 refine WC.ff rfl ?_
 refine wS $ wR $ sv (veq rfl rfl) $ yB rfl $ wN $ tN $ ?_
 refine WC.tt rfl ?_
 refine WC.plan (.bar [0, 1, 2, 3, 4, 5, 6, 7] 8 (.done [])) rfl (by kernel_rfl) $ WPl.barC $ dv (fun g => (vmP rfl)) $ dv (fun g => (vnil rfl)) $ dv (fun g => (vfldpz fl68f0 rfl)) $ dv (fun g => (vldc pl61 rfl)) $ dv (fun g => (vfldp fl32f2 rfl)) $ dv (fun g => (vldc pl3 rfl)) $ dv (fun g => (vfldp fl32f3 rfl)) $ dv (fun g => (vldc pl3 rfl)) $ WD.eff rfl $ clxo (ref_arm hn) ct62 rfl fun r23 hr23 => ?_
 exact wN $ WX.brT $ WPl.finC $ WD.nil $ WX.blockN $ WX.end0 rfl (()) (trivial) rfl (fun w h => rc_mk (hcw.set (m := ⟨{ m.st with fuse := max n 0, keep := keep }, m.node, m.rs⟩) he) (rL_up (rL_in he (hX2 w0 _ (rL1 M p j b A) w (Sb.o h)))))
theorem r_man_off {p j M : Nat} {S : CS} {m : Mg} {n keep : Int} (hl5 : S.ms.length ≤ 5) (hj : S.ms[j]? = some m) : Fun Tryz.prog w0 30 [.pointer (some ⟨p, 0, none⟩), .agg #[.int .i64 6, .int .i64 ((j : Int) + 1), .int .i64 n, .int .i64 keep]] (rc M p S :: A) (Ru w0 (.tuple #[]) (rc (M + 1) p (putM S j ⟨offS keep m.st, none, m.rs⟩) :: A)) := by
 refine Fun.ex (fun w h => rc_open h) ?_
 intro b hcw
 have hbl := hcw.len.1
 obtain ⟨e, he, hem⟩ := hcw.at_ hj
 have hjl := lt_of_at he
 refine Fun.ex (fun w h => rman_disk (rL_out he h)) ?_
 rw [hem]
 rintro ⟨np, jp, X⟩ ⟨hX1, hX2, hX3⟩
 dsimp only at hX1 hX2 hX3 ⊢
 have hpt := nptrs_at he
 have hpl : 0 < (nptrC (b.l.map ME.q)).length := by rw [nptrC_length, List.length_map]; omega
 refine Fun.enter Tryz.func30 rfl Tryz.ntmps30 rfl ?_
 refine wS $ wR $ bxc (v := .agg _) (cs := [.int _ _, .int _ _, .int _ _, .int _ _]) rfl rfl fun b1 => wN $ tN $ wS $ WC.draws rfl (by kernel_rfl) $ qv (vmP rfl) $ qv (vnil rfl) $ qv (vfldpz fl59f0 rfl) $ qv (vldc pl57 rfl) $ qv (vfldp fl32f1 rfl) $ qv (vldc pl3 rfl) $ qv (vsub rfl rfl (by omega)) $ qv (vix1 Tryz.underlying57 sz60 rfl rfl (by omega) (by omega) reads hpl) $ qv (vldr pl60 rfl hpt) $ qv (vaP rfl) $ WQ.nil $ tN $ wS $ wR $ sv (vfldpz fl32f0 rfl) $ sv (vldc pl3 rfl) $ wN $ tN $ WC.block $ wS $ wR $ sv (veq rfl rfl) $ yB rfl $ wN $ tN $ ?_
 refine WC.ff rfl ?_
 refine wS $ wR $ sv (veq rfl rfl) $ yB rfl $ wN $ tN $ ?_
 refine WC.ff rfl ?_
 refine wS $ wR $ sv (veq rfl rfl) $ yB rfl $ wN $ tN $ ?_
 refine WC.tt rfl ?_
 refine wS $ WC.plan (.bar [0, 1, 2, 3, 4, 5] 6 (.done [])) rfl (by kernel_rfl) $ WPl.barC $ dv (fun g => (vmP rfl)) $ dv (fun g => (vnil rfl)) $ dv (fun g => (vfldpz fl68f0 rfl)) $ dv (fun g => (vldc pl61 rfl)) $ dv (fun g => (vfldp fl32f3 rfl)) $ dv (fun g => (vldc pl3 rfl)) $ WD.eff rfl $ clxo (ref_off) ct63 rfl fun r26 hr26 => ?_
 exact wN $ WX.brT $ WPl.finC $ WD.nil $ tN $ wR $ zP rfl $ uN rfl $ sv (vfldp fl68f1 rfl) $ stp (v := .pointer _) pl65 sz65 rfl rfl rfl $ wN $ WX.blockN $ WX.end0 rfl (()) (trivial) rfl (fun w h => rc_mk (hcw.set (m := ⟨offS keep m.st, none, m.rs⟩) he) (rL_up (rL_in he (rman_mkD (A := rL1 M p j b A) (m := ⟨offS keep m.st, none, m.rs⟩) (jo := jp) rfl (Sb.o h)))))
theorem r_man_on_up {p j M : Nat} {S : CS} {m : Mg} {n keep : Int} {x : Rn} (hl5 : S.ms.length ≤ 5) (hj : S.ms[j]? = some m) (hx : m.node = some x) : Fun Tryz.prog w0 30 [.pointer (some ⟨p, 0, none⟩), .agg #[.int .i64 7, .int .i64 ((j : Int) + 1), .int .i64 n, .int .i64 keep]] (rc M p S :: A) (Ru w0 (.tuple #[]) (rc (M + 1) p S :: A)) := by
 refine Fun.ex (fun w h => rc_open h) ?_
 intro b hcw
 have hbl := hcw.len.1
 obtain ⟨e, he, hem⟩ := hcw.at_ hj
 have hjl := lt_of_at he
 refine Fun.ex (fun w h => rman_disk (rL_out he h)) ?_
 rw [hem]
 rintro ⟨np, jp, X⟩ ⟨hX1, hX2, hX3⟩
 dsimp only at hX1 hX2 hX3 ⊢
 obtain ⟨np, rfl⟩ := Option.isSome_iff_exists.1 (hX3 (by rw [hx]; exact fun e => by cases e))
 have hpt := nptrs_at he
 have hpl : 0 < (nptrC (b.l.map ME.q)).length := by rw [nptrC_length, List.length_map]; omega
 refine Fun.enter Tryz.func30 rfl Tryz.ntmps30 rfl ?_
 refine wS $ wR $ bxc (v := .agg _) (cs := [.int _ _, .int _ _, .int _ _, .int _ _]) rfl rfl fun b1 => wN $ tN $ wS $ WC.draws rfl (by kernel_rfl) $ qv (vmP rfl) $ qv (vnil rfl) $ qv (vfldpz fl59f0 rfl) $ qv (vldc pl57 rfl) $ qv (vfldp fl32f1 rfl) $ qv (vldc pl3 rfl) $ qv (vsub rfl rfl (by omega)) $ qv (vix1 Tryz.underlying57 sz60 rfl rfl (by omega) (by omega) reads hpl) $ qv (vldr pl60 rfl hpt) $ qv (vaP rfl) $ WQ.nil $ tN $ wS $ wR $ sv (vfldpz fl32f0 rfl) $ sv (vldc pl3 rfl) $ wN $ tN $ WC.block $ wS $ wR $ sv (veq rfl rfl) $ yB rfl $ wN $ tN $ ?_
 refine WC.ff rfl ?_
 refine wS $ wR $ sv (veq rfl rfl) $ yB rfl $ wN $ tN $ ?_
 refine WC.ff rfl ?_
 refine wS $ wR $ sv (veq rfl rfl) $ yB rfl $ wN $ tN $ ?_
 refine WC.ff rfl ?_
 refine wS $ wR $ sv (veq rfl rfl) $ yB rfl $ wN $ tN $ ?_
 refine WC.tt rfl ?_
 refine wS $ wS $ wR $ zP rfl $ uN rfl $ sv (vfldp fl68f1 rfl) $ sv (vldc pl65 rfl) $ sv (vpneT Tryz.underlying65 rfl rfl) $ wN $ tN $ ?_
 refine WC.tt rfl ?_
 exact WC.ret $ tR $ WX.blockR $ WX.ret0 rfl (()) (trivial) rfl (fun w h => rc_mk (by have h2 := hcw.set (m := m) he; rwa [putM_same hj] at h2) (rL_up (rL_in he (hX2 w0 m.st (rL1 M p j b A) w (Sb.o h)))))
theorem r_man_on_bad {p j M K : Nat} {S : CS} {m : Mg} {n keep er : Int} {st' : DSt} (h : CO K S) (hK : K ≤ 505) (hM : M ≤ 1099511627776) (hj : S.ms[j]? = some m) (hx : m.node = none) (her : er ≠ 0) (hso : openS lnm { m.st with off := false } = (st', er)) : Fun Tryz.prog w0 30 [.pointer (some ⟨p, 0, none⟩), .agg #[.int .i64 7, .int .i64 ((j : Int) + 1), .int .i64 n, .int .i64 keep]] (rc M p S :: A) (Ru w0 (.tuple #[]) (rc (M + 1) p (putM S j ⟨st', none, m.rs⟩) :: A)) := by
 refine Fun.ex (fun w h => rc_open h) ?_
 intro b hcw
 have hbl := hcw.len.1
 have hl5 := h.n.2
 obtain ⟨e, he, hem⟩ := hcw.at_ hj
 have hjl := lt_of_at he
 refine Fun.ex (fun w h => (rman_down (by rw [hem]; exact hx) (rL_out he h)).elim fun jo h => ⟨jo, True.intro, h⟩) ?_
 rw [hem]
 intro jo _
 have hpt := nptrs_at he
 have hpl : 0 < (nptrC (b.l.map ME.q)).length := by rw [nptrC_length, List.length_map]; omega
 have hg := (h.mg j m hj).deeds
 refine Fun.ex (B := fun x : Option Addr × Nat × List RF => cel e.dk (rcells x.1 x.2.2.length x.2.1 m.st) 64 :: row x.1 x.2.1 3 153 (fcells x.2.2) :: rows 5 (x.2.2.map (·.b)) :: cel e.q (mcell e.dk none jo) 68 :: rL1 M p j b A) (fun w h => rdisk_open (h.ix [1, 0])) ?_
 rintro ⟨fb, fc, fl⟩ ⟨hr, hc⟩
 dsimp only at hr hc ⊢
 have hr2 : RRep fl { m.st with off := false } := hr.same rfl hr.fuse
 refine Fun.enter Tryz.func30 rfl Tryz.ntmps30 rfl ?_
 refine wS $ wR $ bxc (v := .agg _) (cs := [.int _ _, .int _ _, .int _ _, .int _ _]) rfl rfl fun b1 => wN $ tN $ wS $ WC.draws rfl (by kernel_rfl) $ qv (vmP rfl) $ qv (vnil rfl) $ qv (vfldpz fl59f0 rfl) $ qv (vldc pl57 rfl) $ qv (vfldp fl32f1 rfl) $ qv (vldc pl3 rfl) $ qv (vsub rfl rfl (by omega)) $ qv (vix1 Tryz.underlying57 sz60 rfl rfl (by omega) (by omega) reads hpl) $ qv (vldr pl60 rfl hpt) $ qv (vaP rfl) $ WQ.nil $ tN $ wS $ wR $ sv (vfldpz fl32f0 rfl) $ sv (vldc pl3 rfl) $ wN $ tN $ WC.block $ wS $ wR $ sv (veq rfl rfl) $ yB rfl $ wN $ tN $ ?_
 refine WC.ff rfl ?_
 refine wS $ wR $ sv (veq rfl rfl) $ yB rfl $ wN $ tN $ ?_
 refine WC.ff rfl ?_
 refine wS $ wR $ sv (veq rfl rfl) $ yB rfl $ wN $ tN $ ?_
 refine WC.ff rfl ?_
 refine wS $ wR $ sv (veq rfl rfl) $ yB rfl $ wN $ tN $ ?_
 refine WC.tt rfl ?_
 refine wS $ wS $ wR $ zP rfl $ uN rfl $ sv (vfldp fl68f1 rfl) $ sv (vldc pl65 rfl) $ sv (vpneF Tryz.underlying65 rfl rfl) $ wN $ tN $ ?_
 refine WC.ff rfl ?_
 refine WC.skip $ tN $ wS $ wR $ zP rfl $ uN rfl $ sv (vfldpz fl68f0 rfl) $ sv (vldc pl61 rfl) $ uN rfl $ sv (vfldp fl64f1 rfl) $ stp (v := .bool _) pl4 sz4 rfl rfl rfl $ wN $ tN $ wS $ wR $ zP rfl $ uN rfl $ sv (vfldpz fl68f0 rfl) $ sv (vldc pl61 rfl) $ pm (fun _ h => rdisk_mk (A := cel e.q (mcell e.dk none jo) 68 :: rL1 M p j b A) hr2 hc (Sb.o h)) $ clxo (ref_open_bad (st := { m.st with off := false }) hM ⟨hg.1, by show m.st.deeds + 1 ≤ _; omega⟩ rfl lnm_ok her hso hr2.len) ct19 rfl fun r33 hr33 => ?_
 refine sv vmv $ sv (vex rfl rfl) $ sv (vex rfl rfl) $ sv (vex rfl rfl) $ sv (vaP rfl) $ yS rfl $ yI rfl $ wN $ tN $ wS $ wS $ wR $ zI rfl $ sv (vne rfl rfl) $ wN $ tN $ ?_
 refine WC.tt rfl ?_
 exact WC.ret $ tR $ WX.blockR $ WX.ret0 rfl (()) (trivial) rfl (fun w h => rc_mk (hcw.set (m := ⟨st', none, m.rs⟩) he) (rL_up (rL_in he (rman_mkD (A := rL1 M p j b A) (m := ⟨st', none, m.rs⟩) (jo := jo) rfl (Sb.o h)))))
theorem r_man_on_ok {p j M K : Nat} {S : CS} {m : Mg} {n keep : Int} {st' : DSt} (h : CO K S) (hK : K ≤ 505) (hM : M ≤ 1099511627776) (hj : S.ms[j]? = some m) (hx : m.node = none) (hso : openS lnm { m.st with off := false } = (st', 0)) : Fun Tryz.prog w0 30 [.pointer (some ⟨p, 0, none⟩), .agg #[.int .i64 7, .int .i64 ((j : Int) + 1), .int .i64 n, .int .i64 keep]] (rc M p S :: A) (Ru w0 (.tuple #[]) (rc (M + 1) p (putM S j ⟨st', some (newR ((j : Int) + 1) S.ms.length (stab m.rs).term (stab m.rs).vote (stab m.rs).log), m.rs⟩) :: A)) := by
 refine Fun.ex (fun w h => rc_open h) ?_
 intro b hcw
 have hbl := hcw.len.1
 have hl5 := h.n.2
 obtain ⟨e, he, hem⟩ := hcw.at_ hj
 have hjl := lt_of_at he
 refine Fun.ex (fun w h => (rman_down (by rw [hem]; exact hx) (rL_out he h)).elim fun jo h => ⟨jo, True.intro, h⟩) ?_
 rw [hem]
 intro jo _
 have hpt := nptrs_at he
 have hpl : 0 < (nptrC (b.l.map ME.q)).length := by rw [nptrC_length, List.length_map]; omega
 have hgg := h.mg j m hj
 have hg := hgg.deeds
 have hlen := hgg.len
 have hlog := (RInv.new hgg.new).log
 obtain ⟨all, f1, f2, f3, f4⟩ := hgg.file
 have hrd : (readS lnm { m.st with off := false }).1 = all := by
  unfold readS
  rw [if_neg (show ¬ false = true from fun h => by cases h)]
  dsimp only
  cases hf : m.st.files lnm with
  | none => rw [hf] at f1; exact congrArg Prod.fst f1
  | some v => rw [hf] at f1; exact congrArg Prod.fst f1
 refine Fun.ex (B := fun x : Option Addr × Nat × List RF => cel e.dk (rcells x.1 x.2.2.length x.2.1 m.st) 64 :: row x.1 x.2.1 3 153 (fcells x.2.2) :: rows 5 (x.2.2.map (·.b)) :: cel e.q (mcell e.dk none jo) 68 :: rL1 M p j b A) (fun w h => rdisk_open (h.ix [1, 0])) ?_
 rintro ⟨fb, fc, fl⟩ ⟨hr, hc⟩
 dsimp only at hr hc ⊢
 have hr2 : RRep fl { m.st with off := false } := hr.same rfl hr.fuse
 refine Fun.enter Tryz.func30 rfl Tryz.ntmps30 rfl ?_
 refine wS $ wR $ bxc (v := .agg _) (cs := [.int _ _, .int _ _, .int _ _, .int _ _]) rfl rfl fun b1 => wN $ tN $ wS $ WC.draws rfl (by kernel_rfl) $ qv (vmP rfl) $ qv (vnil rfl) $ qv (vfldpz fl59f0 rfl) $ qv (vldc pl57 rfl) $ qv (vfldp fl32f1 rfl) $ qv (vldc pl3 rfl) $ qv (vsub rfl rfl (by omega)) $ qv (vix1 Tryz.underlying57 sz60 rfl rfl (by omega) (by omega) reads hpl) $ qv (vldr pl60 rfl hpt) $ qv (vaP rfl) $ WQ.nil $ tN $ wS $ wR $ sv (vfldpz fl32f0 rfl) $ sv (vldc pl3 rfl) $ wN $ tN $ WC.block $ wS $ wR $ sv (veq rfl rfl) $ yB rfl $ wN $ tN $ ?_
 refine WC.ff rfl ?_
 refine wS $ wR $ sv (veq rfl rfl) $ yB rfl $ wN $ tN $ ?_
 refine WC.ff rfl ?_
 refine wS $ wR $ sv (veq rfl rfl) $ yB rfl $ wN $ tN $ ?_
 refine WC.ff rfl ?_
 refine wS $ wR $ sv (veq rfl rfl) $ yB rfl $ wN $ tN $ ?_
 refine WC.tt rfl ?_
 refine wS $ wS $ wR $ zP rfl $ uN rfl $ sv (vfldp fl68f1 rfl) $ sv (vldc pl65 rfl) $ sv (vpneF Tryz.underlying65 rfl rfl) $ wN $ tN $ ?_
 refine WC.ff rfl ?_
 refine WC.skip $ tN $ wS $ wR $ zP rfl $ uN rfl $ sv (vfldpz fl68f0 rfl) $ sv (vldc pl61 rfl) $ uN rfl $ sv (vfldp fl64f1 rfl) $ stp (v := .bool _) pl4 sz4 rfl rfl rfl $ wN $ tN $ wS $ wR $ zP rfl $ uN rfl $ sv (vfldpz fl68f0 rfl) $ sv (vldc pl61 rfl) $ pm (fun _ h => rdisk_mk (A := cel b1 [.int .i64 7, .int .i64 ((j : Int) + 1), .int .i64 n, .int .i64 keep] 32 :: cel e.q (mcell e.dk none jo) 68 :: rL1 M p j b A) hr2 hc (Sb.o h)) $ clxo (ref_open_ok (st := { m.st with off := false }) (recs := m.rs.map Rcd.bytes) hM ⟨hg.1, by show m.st.deeds + 1 ≤ _; omega⟩ hso (by rw [hrd]; exact f2) hr2.len) ct19 rfl fun r33 hr33 => ?_
 obtain ⟨jp, rb, rcap, rl⟩ := r33
 obtain ⟨h5a, h5b⟩ := hr33
 dsimp only at h5a h5b ⊢
 have hll : rl.length = m.rs.length := by have := congrArg List.length h5a; simpa using this
 refine sv vmv $ sv (vex rfl rfl) $ sv (vex rfl rfl) $ sv (vex rfl rfl) $ sv (vaP rfl) $ yS rfl $ yI rfl $ wN $ tN $ wS $ wS $ wR $ zI rfl $ sv (vne rfl rfl) $ wN $ tN $ ?_
 refine WC.ff rfl ?_
 refine WC.skip $ tN $ wS $ wR $ zP rfl $ zP rfl $ uN rfl $ sv (vfldp fl68f2 rfl) $ stp (v := .pointer _) pl66 sz66 rfl rfl rfl $ wN $ tN $ WC.plan (.pre [8] (.one [0, 1, 2, 3, 4, 5, 6, 7] 9 (.one [] 10 (.bar [11, 12] 13 (.done []))))) rfl (by kernel_rfl) $ WPl.preC $ dv (fun g => (vmS rfl)) $ WD.nil $ WPl.oneX [row rb rcap 1 108 (bss rl), rows 5 rl] (by repeat' (first | exact Spl.nil | (apply Spl.cons; focus (first | ((repeat (first | with_reducible exact Tk.here | with_reducible apply Tk.there)); done) | ((repeat (first | exact Tk.here | apply Tk.there)); done))))) (fun g => by infer_instance) ?_
 refine dv (fun g => (vmP rfl)) $ dv (fun g => (vfldp fl32f1 rfl)) $ dv (fun g => (vldc pl3 rfl)) $ dv (fun g => (vmP rfl)) $ dv (fun g => (vnil rfl)) $ dv (fun g => (vfldpz fl59f0 rfl)) $ dv (fun g => (vldc pl57 rfl)) $ dv (fun g => (vlen Tryz.underlying57 rfl)) $ WD.eff rfl $ clxo (r_stable h5a h5b (by omega) hgg.recs (by exact hlog)) ct64 rfl fun r37 hr37 => ?_
 refine wN $ WX.br $ WPl.oneX [row r37.1 r37.2 2 89 (cvs (stab m.rs).log)] (by repeat' (first | exact Spl.nil | (apply Spl.cons; focus (first | ((repeat (first | with_reducible exact Tk.here | with_reducible apply Tk.there)); done) | ((repeat (first | exact Tk.here | apply Tk.there)); done))))) (fun g => by infer_instance) ?_
 refine WD.eff rfl $ clxo (ref_new (l := (stab m.rs).log) (by have : (stab m.rs).log.length ≤ 10000 := hlog; omega)) ct20 rfl fun r38 hr38 => ?_
 exact wN $ WX.br $ WPl.barC $ dv (fun g => (vnil rfl)) $ dv (fun g => (vfldp fl68f1 rfl)) $ WD.eff rfl $ stp (v := .pointer _) pl65 sz65 rfl rfl rfl $ wN $ WX.brT $ WPl.finC $ WD.nil $ WX.blockN $ WX.end0 rfl (()) (trivial) rfl (fun w h => rc_mk (hcw.set (m := ⟨st', some (newR ((j : Int) + 1) S.ms.length (stab m.rs).term (stab m.rs).vote (stab m.rs).log), m.rs⟩) he) (rL_up (rL_in he (rman_mkU (A := rL1 M p j b A) (m := ⟨st', some (newR ((j : Int) + 1) S.ms.length (stab m.rs).term (stab m.rs).vote (stab m.rs).log), m.rs⟩) (np := r38) (jp := jp) rfl (by rw [← hbl, ← hll]; exact Sb.o h)))))
theorem r_come {p M K : Nat} {S : CS} {b : CB} {m : Mh} (h : CO K S) (hK : K ≤ 505) (hM : M + 1 ≤ 1099511627776) (hcw : CW S b) (hxl : m.cs.xs.length ≤ 1099511627776) (hcc : m.cs.xs.length ≤ m.cs.cap) (hrd : RdC w0 (mrows b.ms :: A) m.cs.base (cvs m.cs.xs)) :
  Fun Tryz.prog w0 31 [.pointer (some ⟨p, 0, none⟩), .agg (mv m).toArray] (rL M p b A) (Ru w0 (.tuple #[]) (rc (M + 1) p (stepI m.to_ (fun x => takeS x m.ml) S).1 :: A)) := by
 rw [stepI_fst]
 by_cases h1 : 1 ≤ m.to_
 ·rw [if_pos h1]
  obtain ⟨j, hj⟩ : ∃ j : Nat, m.to_ = (j : Int) + 1 := ⟨(m.to_ - 1).toNat, by omega⟩
  rw [show (m.to_ - 1).toNat = j by omega]
  cases hg : S.ms[j]? with
  | none =>
   have hl : ¬ j < S.ms.length := fun hh => by rw [List.getElem?_eq_getElem hh] at hg; cases hg
   have e : Go.Council.stepC j (fun x => takeS x m.ml) S = (S, false) := by unfold Go.Council.stepC; rw [hg]
   rw [e]
   exact r_come_high (S := S) hcw h1 (by omega)
  | some g =>
   cases hx : g.node with
   | none =>
    have e : Go.Council.stepC j (fun x => takeS x m.ml) S = (S, false) := by unfold Go.Council.stepC; rw [hg]; dsimp only; rw [hx]
    rw [e]
    exact r_come_nil hcw h.n.2 hj hg hx
   | some x => exact r_come_up h hK hM hcw hj hg hx hxl hcc hrd
 ·rw [if_neg h1]
  exact r_come_low hcw (by omega)
theorem mvs_rdrop {b : Option Addr} {c n : Nat} {l : List Mh} (hm : row b c 9 85 (mvs l) ∈ A) (hn : n < l.length) (hc : l.length ≤ c) : RdC w0 A (slB b (((n : Int) + 1)).toNat c 9) (mvs (l.drop (n + 1))) := by
 have hdl : (l.drop (n + 1)).length = l.length - (n + 1) := List.length_drop
 have hmd := mvs_length (l.drop (n + 1))
 have hml := mvs_length l
 have e : mvs (l.drop (n + 1)) = ((mvs l).drop ((((n : Int) + 1)).toNat * 9)).take (mvs (l.drop (n + 1))).length := by rw [show (((n : Int) + 1)).toNat = n + 1 by omega, mvsD, List.take_length]
 rw [e]
 exact RdC.slice (RdC.of_row hm) _ _ _ _ (fun h => by omega)
theorem rL_erase {w0 w : World} {A : List HProp} {M p n cb : Nat} {base : Option Addr} {S : CS} {b : CB} {m : Mh} (h : CW S b) (hn : n < S.mails.length) (hm : b.ms[n]? = some m) (H : Own w0 (row base cb 9 85 (mvs (b.ms.take n) ++ mvs (b.ms.drop (n + 1))) :: cel p [.slice b.lb b.l.length b.lc, .slice base (0 + (b.ms.take n).length + (b.ms.drop (n + 1)).length) cb] 59 :: row b.lb b.lc 1 60 (nptrC (b.l.map ME.q)) :: rmans M b.l :: mrows b.ms :: A) w) :
  Own w0 (rL M p { b with ms := b.ms.eraseIdx n, mb := base, mc := cb } (row m.cs.base m.cs.cap 2 89 (cvs m.cs.xs) :: A)) w := by
 have hl := h.len.2
 rw [← mvs_app, ← List.eraseIdx_eq_take_drop_succ, Nat.zero_add] at H
 have h1 := mrowsCut hm (H.ix [4, 0, 1, 2, 3])
 show Own w0 (cel p [.slice b.lb b.l.length b.lc, .slice base (b.ms.eraseIdx n).length cb] 59 :: row b.lb b.lc 1 60 (nptrC (b.l.map ME.q)) :: rmans M b.l :: row base cb 9 85 (mvs (b.ms.eraseIdx n)) :: mrows (b.ms.eraseIdx n) :: row m.cs.base m.cs.cap 2 89 (cvs m.cs.xs) :: A) w
 rw [show (b.ms.eraseIdx n).length = (b.ms.take n).length + (b.ms.drop (n + 1)).length by rw [← List.length_append, ← List.eraseIdx_eq_take_drop_succ]]
 exact h1.ix [3, 4, 5, 2, 1, 0]
theorem CW.erase2 {S : CS} {b : CB} (h : CW S b) {n cb : Nat} {base : Option Addr} (hn : n < S.mails.length) (hc : 0 + (b.ms.take n).length + (b.ms.drop (n + 1)).length ≤ cb) : CW ⟨S.ms, S.mails.eraseIdx n⟩ { b with ms := b.ms.eraseIdx n, mb := base, mc := cb } :=
 ⟨h.l, (h.erase hn).ms, by show (b.ms.eraseIdx n).length ≤ cb; rw [List.eraseIdx_eq_take_drop_succ, List.length_append]; omega, h.lc⟩
theorem mrowsCapC {w0 w : World} : ∀ {l : List Mh} {A : List HProp} {x : Mh}, x ∈ l → Own w0 (mrows l :: A) w → x.cs.xs.length ≤ x.cs.cap
 | y :: l, A, x, hx, H => by
  have h1 := H.star
  rcases List.mem_cons.1 hx with rfl | hx
  ·have := (row_le h1).1
   rw [cvs_length] at this
   omega
  ·exact mrowsCapC hx h1.pk1
theorem r_do_mail {p M n K : Nat} {S : CS} {i keep : Int} (h : CO K S) (hK : K ≤ 505) (hM : M + 1 ≤ 1099511627776) (hn : n < S.mails.length) (hcl : ∀ m ∈ S.mails, m.cells.length ≤ 1099511627776) : Fun Tryz.prog w0 11 [.pointer (some ⟨p, 0, none⟩), .agg #[.int .i64 2, .int .i64 i, .int .i64 (n : Int), .int .i64 keep]] (rc M p S :: A) (Ru w0 (.int .i64 0) (rc (M + 1) p (stepI (S.mails.getD n ⟨0, 0, 0, 0, 0, 0, 0, false, []⟩).to_ (fun x => takeS x (S.mails.getD n ⟨0, 0, 0, 0, 0, 0, 0, false, []⟩)) ⟨S.ms, S.mails.eraseIdx n⟩).1 :: A)) := by
 refine Fun.ex (fun w h => rc_open h) ?_
 intro b hcw
 have hbl := hcw.len.1
 have hbm := hcw.len.2
 have hbc := hcw.mc
 have hml := h.mails
 obtain ⟨m, hm, hms⟩ := hcw.mailAt hn
 have hmvl := mvs_length b.ms
 have hpos : 0 < (mvs b.ms).length := by omega
 have hag : ((mvs b.ms).drop (((n : Int)).toNat * 9)).take 9 = [.int .i64 m.kind, .int .i64 m.fr, .int .i64 m.to_, .int .i64 m.term, .int .i64 m.index, .int .i64 m.prev, .int .i64 m.commit, .bool m.ok, .slice m.cs.base m.cs.xs.length m.cs.cap] := by rw [Int.toNat_natCast]; exact mvs_nine hm
 have hxl : m.cs.xs.length ≤ 1099511627776 := hcl m.ml (List.mem_of_getElem? hms)
 have hgd : S.mails.getD n ⟨0, 0, 0, 0, 0, 0, 0, false, []⟩ = m.ml := by rw [List.getD_eq_getElem?_getD, hms]; rfl
 rw [hgd]
 have htl : (b.ms.take n).length = n := by rw [List.length_take]; omega
 have hdl : (b.ms.drop (n + 1)).length = b.ms.length - (n + 1) := by rw [List.length_drop]
 have hmt := mvs_length (b.ms.take n)
 have hmd := mvs_length (b.ms.drop (n + 1))
 refine Fun.enter Tryz.func11 rfl Tryz.ntmps11 rfl ?_
 refine WC.known (fun w h => mrowsCapC (List.mem_of_getElem? hm) (show Own w0 (mrows b.ms :: _) w from Sb.o h)) fun hcap => ?_
 refine wS $ wR $ bxc (v := .agg _) (cs := [.int _ _, .int _ _, .int _ _, .int _ _]) rfl rfl fun b1 => yI rfl $ wN $ tN $ ?_
 refine WC.cutS [(5, .bool (decide (1 ≤ i ∧ i ≤ (b.l.length : Int))))] [(0, .pointer _), (3, .pointer _)] ⟨rfl, rfl, trivial⟩ ?_ fun ρh => ?_
 ·
  refine WC.draws rfl (by kernel_rfl) $ qv (vfldp fl32f1 rfl) $ qv (vldc pl3 rfl) $ qvs (vge rfl rfl) (fun q1 => ?_) (fun q1 => ?_)
  ·
   exact qv (vmB rfl) $ qvg rfl (vfldp fl32f1 rfl) $ qvg rfl (vldc pl3 rfl) $ qvg rfl (vmP rfl) $ qvg rfl (vnil rfl) $ qvg rfl (vfldpz fl59f0 rfl) $ qvg rfl (vldc pl57 rfl) $ qvg rfl (vlen Tryz.underlying57 rfl) $ qvg rfl (vle rfl rfl) $ qv (vpkt rfl) $ qv (vaB rfl) $ WQ.nil $ xM () trivial ⟨bIa, trivial⟩ ⟨rfl, rfl, trivial⟩ ow
  ·
   exact qv (vmB rfl) $ qng rfl $ qng rfl $ qng rfl $ qng rfl $ qng rfl $ qng rfl $ qng rfl $ qng rfl $ qv (vpkf rfl) $ qv (vaB rfl) $ WQ.nil $ xM () trivial ⟨bFa, trivial⟩ ⟨rfl, rfl, trivial⟩ ow
 refine WC.cutS [(6, .bool (decide (True)))] [(0, .pointer _), (3, .pointer _), (5, .bool _)] ⟨rfl, rfl, rfl, trivial⟩ ?_ fun ρh => ?_
 ·
  refine WC.draws rfl (by kernel_rfl) $ qv (vfldp fl32f2 rfl) $ qv (vldc pl3 rfl) $ qvs (vge rfl rfl) (fun q2 => ?_) (fun q2 => ?_)
  ·
   exact qv (vmB rfl) $ qvg rfl (vfldp fl32f2 rfl) $ qvg rfl (vldc pl3 rfl) $ qvg rfl (vmP rfl) $ qvg rfl (vnil rfl) $ qvg rfl (vfldp fl59f1 rfl) $ qvg rfl (vldc pl41 rfl) $ qvg rfl (vlen Tryz.underlying41 rfl) $ qvg rfl (vlt rfl rfl) $ qv (vpkt rfl) $ qv (vaB rfl) $ WQ.nil $ xM () trivial ⟨bI ⟨fun _ => trivial, fun _ => by omega⟩, trivial⟩ ⟨rfl, rfl, rfl, trivial⟩ ow
  ·
   exact qv (vmB rfl) $ qng rfl $ qng rfl $ qng rfl $ qng rfl $ qng rfl $ qng rfl $ qng rfl $ qng rfl $ qv (vpkf rfl) $ qv (vaB rfl) $ WQ.nil $ xM () trivial ⟨bFa, trivial⟩ ⟨rfl, rfl, rfl, trivial⟩ ow
 refine wS $ wS $ wR $ sv (vfldpz fl32f0 rfl) $ sv (vldc pl3 rfl) $ wN $ tN $ WC.block $ wS $ wS $ wR $ sv (veq rfl rfl) $ yB rfl $ wN $ tN $ ?_
 refine WC.ff rfl ?_
 refine wS $ wR $ sv (veq rfl rfl) $ yB rfl $ wN $ tN $ ?_
 refine WC.ff rfl ?_
 refine wS $ wR $ sv (veq rfl rfl) $ yB rfl $ wN $ tN $ ?_
 refine WC.ff rfl ?_
 refine wR $ sv (veq rfl rfl) $ yB rfl $ wN $ tN $ ?_
 refine WC.ff rfl ?_
 refine wS $ wS $ wR $ sv (veq rfl rfl) $ yB rfl $ wN $ tN $ ?_
 refine WC.tt rfl ?_
 refine WC.skip $ tN $ ?_
 refine WC.tt rfl ?_
 refine wS $ wS $ wR $ zB rfl $ sv (vnot rfl) $ wN $ tN $ ?_
 refine WC.ff rfl ?_
 refine WC.skip $ tN $ wS $ WC.plan (.one [0, 1, 2, 3, 4, 5, 6, 7] 8 (.bar [] 9 (.done []))) rfl (by kernel_rfl) $ WPl.oneE (fun g => by infer_instance) $ dv (fun g => (vmP rfl)) $ dv (fun g => (vnil rfl)) $ dv (fun g => (vfldp fl59f1 rfl)) $ dv (fun g => (vldc pl41 rfl)) $ dv (fun g => (vfldp fl32f2 rfl)) $ dv (fun g => (vldc pl3 rfl)) $ dv (fun g => (vix Tryz.underlying41 sz85 rfl rfl (by omega) (by omega) reads hpos)) $ dv (fun g => (vlda ag85 sz85 rfl reads hag rfl (by decide))) $ WD.eff rfl $ alz (cs := [.int .i64 0, .int .i64 0, .int .i64 0, .int .i64 0, .int .i64 0, .int .i64 0, .int .i64 0, .bool false, .slice none 0 0]) zt85 (by rfl) fun b15 => wN $ WX.br $ WPl.barC $ WD.eff rfl $ stAp sz85 rfl rfl rfl (by intro v hv; simp only [List.mem_cons, List.not_mem_nil, or_false] at hv; rcases hv with rfl | rfl | rfl | rfl | rfl | rfl | rfl | rfl | rfl <;> rfl) rfl $ wN $ WX.brT $ WPl.finC $ WD.nil $ tN $ wS $ wS $ wR $ sv (vfldpz fl32f0 rfl) $ sv (vldc pl3 rfl) $ sv (vne rfl rfl) $ wN $ tN $ ?_
 refine WC.tt rfl ?_
 refine wS $ wR $ yS rfl $ wN $ tN $ wS $ WC.plan (.bar [0, 1, 2, 3, 4, 5, 6, 7] 8 (.done [9])) rfl (by kernel_rfl) $ WPl.barC $ dv (fun g => (vmS rfl)) $ dv (fun g => (vmP rfl)) $ dv (fun g => (vnil rfl)) $ dv (fun g => (vfldp fl59f1 rfl)) $ dv (fun g => (vldc pl41 rfl)) $ dv (fun g => (vfldp fl32f2 rfl)) $ dv (fun g => (vldc pl3 rfl)) $ dv (fun g => (vw (v' := .slice b.mb (b.ms.take n).length b.mc) (vslH Tryz.underlying41 sz85 rfl rfl (by omega) (by omega)) (iv' (by omega)))) $ WD.eff rfl $ pm (fun _ h => h.intro_row_nil) $ ap (vs := []) (news := mvs (b.ms.take n)) rfl Tryz.underlying41 zt85 rfl rfl rfl (rfl) (by omega) (mvs_one _) (by rw [← mvsT]; exact RdC.take (RdC.of_row (c := b.mc) (s := 9) (e := 85) (vs := mvs b.ms) (by simp)) (n * 9)) (by simp only [maxLen]; omega) (by omega) fun base21 c21 hc21 => wN $ WX.brT $ WPl.finC $ dv (fun g => (vaS rfl)) $ WD.nil $ tN $ wS $ WC.plan (.bar [0, 1, 2, 3, 4, 5, 6, 7, 8] 9 (.done [10])) rfl (by kernel_rfl) $ WPl.barC $ dv (fun g => (vmS rfl)) $ dv (fun g => (vmP rfl)) $ dv (fun g => (vnil rfl)) $ dv (fun g => (vfldp fl59f1 rfl)) $ dv (fun g => (vldc pl41 rfl)) $ dv (fun g => (vfldp fl32f2 rfl)) $ dv (fun g => (vldc pl3 rfl)) $ dv (fun g => (vadd rfl rfl (by omega))) $ dv (fun g => (vw (v' := .slice (slB b.mb (((n : Int) + 1)).toNat b.mc 9) (b.ms.drop (n + 1)).length (b.mc - (((n : Int) + 1)).toNat)) (vslL Tryz.underlying41 sz85 rfl rfl (by omega) (by omega)) (iv' (by omega)))) $ WD.eff rfl $ pm ow $ ap (vs := mvs (b.ms.take n)) (news := mvs (b.ms.drop (n + 1))) rfl Tryz.underlying41 zt85 rfl rfl rfl (by omega) (by omega) (mvs_one _) (mvs_rdrop (by simp) (by omega) (by omega)) (by simp only [maxLen]; omega) (by omega) fun base26 c26 hc26 => ?_
 refine wN $ WX.brT $ WPl.finC $ dv (fun g => (vaS rfl)) $ WD.nil $ tN $ wR $ zP rfl $ zS rfl $ uN rfl $ sv (vfldp fl59f1 rfl) $ stp (v := .slice _ _ _) pl41 sz41 rfl rfl rfl $ wN $ tN $ wS $ wR $ sv (vfldpz fl32f0 rfl) $ sv (vldc pl3 rfl) $ sv (vne rfl rfl) $ wN $ tN $ ?_
 refine WC.tt rfl ?_
 refine wR $ zP rfl $ sv (vldac ag85 sz85 rfl rfl (by decide)) $ pm (fun _ h => rL_erase (A := A) (M := M) (p := p) hcw hn hm (Sb.o h)) $ clxo (r_come (A := row m.cs.base m.cs.cap 2 89 (cvs m.cs.xs) :: A) (b := { b with ms := b.ms.eraseIdx n, mb := base26, mc := c26 }) (m := m) (h.lose (mails := S.mails.eraseIdx n) (Nat.le_trans (List.length_eraseIdx_le _ _) hml)) hK hM (hcw.erase2 hn hc26) hxl hcap (RdC.of_row (List.Mem.tail _ (List.Mem.head _)))) ct31 rfl fun r30 hr30 => ?_
 exact wN $ WX.blockN $ tN $ wS $ wR $ yI rfl $ wN $ tN $ WC.ret $ xR rfl (()) (trivial) rfl ow
theorem r_do_twice {p M n K : Nat} {S : CS} {i keep : Int} (h : CO K S) (hK : K ≤ 505) (hM : M + 1 ≤ 1099511627776) (hn : n < S.mails.length) (hcl : ∀ m ∈ S.mails, m.cells.length ≤ 1099511627776) : Fun Tryz.prog w0 11 [.pointer (some ⟨p, 0, none⟩), .agg #[.int .i64 3, .int .i64 i, .int .i64 (n : Int), .int .i64 keep]] (rc M p S :: A) (Ru w0 (.int .i64 0) (rc (M + 1) p (stepI (S.mails.getD n ⟨0, 0, 0, 0, 0, 0, 0, false, []⟩).to_ (fun x => takeS x (S.mails.getD n ⟨0, 0, 0, 0, 0, 0, 0, false, []⟩)) S).1 :: A)) := by
 refine Fun.ex (fun w h => rc_open h) ?_
 intro b hcw
 have hbl := hcw.len.1
 have hbm := hcw.len.2
 have hbc := hcw.mc
 have hml := h.mails
 obtain ⟨m, hm, hms⟩ := hcw.mailAt hn
 have hmvl := mvs_length b.ms
 have hpos : 0 < (mvs b.ms).length := by omega
 have hag : ((mvs b.ms).drop (((n : Int)).toNat * 9)).take 9 = [.int .i64 m.kind, .int .i64 m.fr, .int .i64 m.to_, .int .i64 m.term, .int .i64 m.index, .int .i64 m.prev, .int .i64 m.commit, .bool m.ok, .slice m.cs.base m.cs.xs.length m.cs.cap] := by rw [Int.toNat_natCast]; exact mvs_nine hm
 have hxl : m.cs.xs.length ≤ 1099511627776 := hcl m.ml (List.mem_of_getElem? hms)
 have hgd : S.mails.getD n ⟨0, 0, 0, 0, 0, 0, 0, false, []⟩ = m.ml := by rw [List.getD_eq_getElem?_getD, hms]; rfl
 rw [hgd]
 have htl : (b.ms.take n).length = n := by rw [List.length_take]; omega
 have hdl : (b.ms.drop (n + 1)).length = b.ms.length - (n + 1) := by rw [List.length_drop]
 have hmt := mvs_length (b.ms.take n)
 have hmd := mvs_length (b.ms.drop (n + 1))
 refine Fun.enter Tryz.func11 rfl Tryz.ntmps11 rfl ?_
 refine WC.known (fun w h => mrowsCapC (List.mem_of_getElem? hm) (show Own w0 (mrows b.ms :: _) w from Sb.o h)) fun hcap => ?_
 refine wS $ wR $ bxc (v := .agg _) (cs := [.int _ _, .int _ _, .int _ _, .int _ _]) rfl rfl fun b1 => yI rfl $ wN $ tN $ ?_
 refine WC.cutS [(5, .bool (decide (1 ≤ i ∧ i ≤ (b.l.length : Int))))] [(0, .pointer _), (3, .pointer _)] ⟨rfl, rfl, trivial⟩ ?_ fun ρh => ?_
 ·
  refine WC.draws rfl (by kernel_rfl) $ qv (vfldp fl32f1 rfl) $ qv (vldc pl3 rfl) $ qvs (vge rfl rfl) (fun q1 => ?_) (fun q1 => ?_)
  ·
   exact qv (vmB rfl) $ qvg rfl (vfldp fl32f1 rfl) $ qvg rfl (vldc pl3 rfl) $ qvg rfl (vmP rfl) $ qvg rfl (vnil rfl) $ qvg rfl (vfldpz fl59f0 rfl) $ qvg rfl (vldc pl57 rfl) $ qvg rfl (vlen Tryz.underlying57 rfl) $ qvg rfl (vle rfl rfl) $ qv (vpkt rfl) $ qv (vaB rfl) $ WQ.nil $ xM () trivial ⟨bIa, trivial⟩ ⟨rfl, rfl, trivial⟩ ow
  ·
   exact qv (vmB rfl) $ qng rfl $ qng rfl $ qng rfl $ qng rfl $ qng rfl $ qng rfl $ qng rfl $ qng rfl $ qv (vpkf rfl) $ qv (vaB rfl) $ WQ.nil $ xM () trivial ⟨bFa, trivial⟩ ⟨rfl, rfl, trivial⟩ ow
 refine WC.cutS [(6, .bool (decide (True)))] [(0, .pointer _), (3, .pointer _), (5, .bool _)] ⟨rfl, rfl, rfl, trivial⟩ ?_ fun ρh => ?_
 ·
  refine WC.draws rfl (by kernel_rfl) $ qv (vfldp fl32f2 rfl) $ qv (vldc pl3 rfl) $ qvs (vge rfl rfl) (fun q2 => ?_) (fun q2 => ?_)
  ·
   exact qv (vmB rfl) $ qvg rfl (vfldp fl32f2 rfl) $ qvg rfl (vldc pl3 rfl) $ qvg rfl (vmP rfl) $ qvg rfl (vnil rfl) $ qvg rfl (vfldp fl59f1 rfl) $ qvg rfl (vldc pl41 rfl) $ qvg rfl (vlen Tryz.underlying41 rfl) $ qvg rfl (vlt rfl rfl) $ qv (vpkt rfl) $ qv (vaB rfl) $ WQ.nil $ xM () trivial ⟨bI ⟨fun _ => trivial, fun _ => by omega⟩, trivial⟩ ⟨rfl, rfl, rfl, trivial⟩ ow
  ·
   exact qv (vmB rfl) $ qng rfl $ qng rfl $ qng rfl $ qng rfl $ qng rfl $ qng rfl $ qng rfl $ qng rfl $ qv (vpkf rfl) $ qv (vaB rfl) $ WQ.nil $ xM () trivial ⟨bFa, trivial⟩ ⟨rfl, rfl, rfl, trivial⟩ ow
 refine wS $ wS $ wR $ sv (vfldpz fl32f0 rfl) $ sv (vldc pl3 rfl) $ wN $ tN $ WC.block $ wS $ wS $ wR $ sv (veq rfl rfl) $ yB rfl $ wN $ tN $ ?_
 refine WC.ff rfl ?_
 refine wS $ wR $ sv (veq rfl rfl) $ yB rfl $ wN $ tN $ ?_
 refine WC.ff rfl ?_
 refine wS $ wR $ sv (veq rfl rfl) $ yB rfl $ wN $ tN $ ?_
 refine WC.ff rfl ?_
 refine wR $ sv (veq rfl rfl) $ yB rfl $ wN $ tN $ ?_
 refine WC.ff rfl ?_
 refine wS $ wS $ wR $ sv (veq rfl rfl) $ yB rfl $ wN $ tN $ ?_
 refine WC.ff rfl ?_
 refine wS $ wR $ sv (veq rfl rfl) $ yB rfl $ wN $ tN $ ?_
 refine WC.tt rfl ?_
 refine WC.skip $ tN $ ?_
 refine WC.tt rfl ?_
 refine wS $ wS $ wR $ zB rfl $ sv (vnot rfl) $ wN $ tN $ ?_
 refine WC.ff rfl ?_
 refine WC.skip $ tN $ wS $ WC.plan (.one [0, 1, 2, 3, 4, 5, 6, 7] 8 (.bar [] 9 (.done []))) rfl (by kernel_rfl) $ WPl.oneE (fun g => by infer_instance) $ dv (fun g => (vmP rfl)) $ dv (fun g => (vnil rfl)) $ dv (fun g => (vfldp fl59f1 rfl)) $ dv (fun g => (vldc pl41 rfl)) $ dv (fun g => (vfldp fl32f2 rfl)) $ dv (fun g => (vldc pl3 rfl)) $ dv (fun g => (vix Tryz.underlying41 sz85 rfl rfl (by omega) (by omega) reads hpos)) $ dv (fun g => (vlda ag85 sz85 rfl reads hag rfl (by decide))) $ WD.eff rfl $ alz (cs := [.int .i64 0, .int .i64 0, .int .i64 0, .int .i64 0, .int .i64 0, .int .i64 0, .int .i64 0, .bool false, .slice none 0 0]) zt85 (by rfl) fun b15 => wN $ WX.br $ WPl.barC $ WD.eff rfl $ stAp sz85 rfl rfl rfl (by intro v hv; simp only [List.mem_cons, List.not_mem_nil, or_false] at hv; rcases hv with rfl | rfl | rfl | rfl | rfl | rfl | rfl | rfl | rfl <;> rfl) rfl $ wN $ WX.brT $ WPl.finC $ WD.nil $ tN $ wS $ wS $ wR $ sv (vfldpz fl32f0 rfl) $ sv (vldc pl3 rfl) $ sv (vne rfl rfl) $ wN $ tN $ ?_
 refine WC.ff rfl ?_
 refine WC.skip $ tN $ wS $ wR $ sv (vfldpz fl32f0 rfl) $ sv (vldc pl3 rfl) $ sv (vne rfl rfl) $ wN $ tN $ ?_
 refine WC.tt rfl ?_
 refine wR $ zP rfl $ sv (vldac ag85 sz85 rfl rfl (by decide)) $ clxo (r_come (b := b) (m := m) h hK hM hcw hxl hcap (mrowsRd (List.Mem.head _) (List.mem_of_getElem? hm))) ct31 rfl fun r30 hr30 => ?_
 exact wN $ WX.blockN $ tN $ wS $ wR $ yI rfl $ wN $ tN $ WC.ret $ xR rfl (()) (trivial) rfl ow
theorem r_do_lose {p M n K : Nat} {S : CS} {i keep : Int} (h : CO K S) (hK : K ≤ 505) (hM : M + 1 ≤ 1099511627776) (hn : n < S.mails.length) (hcl : ∀ m ∈ S.mails, m.cells.length ≤ 1099511627776) : Fun Tryz.prog w0 11 [.pointer (some ⟨p, 0, none⟩), .agg #[.int .i64 4, .int .i64 i, .int .i64 (n : Int), .int .i64 keep]] (rc M p S :: A) (Ru w0 (.int .i64 0) (rc (M + 1) p ⟨S.ms, S.mails.eraseIdx n⟩ :: A)) := by
 refine Fun.ex (fun w h => rc_open h) ?_
 intro b hcw
 have hbl := hcw.len.1
 have hbm := hcw.len.2
 have hbc := hcw.mc
 have hml := h.mails
 obtain ⟨m, hm, hms⟩ := hcw.mailAt hn
 have hmvl := mvs_length b.ms
 have hpos : 0 < (mvs b.ms).length := by omega
 have hag : ((mvs b.ms).drop (((n : Int)).toNat * 9)).take 9 = [.int .i64 m.kind, .int .i64 m.fr, .int .i64 m.to_, .int .i64 m.term, .int .i64 m.index, .int .i64 m.prev, .int .i64 m.commit, .bool m.ok, .slice m.cs.base m.cs.xs.length m.cs.cap] := by rw [Int.toNat_natCast]; exact mvs_nine hm
 have hxl : m.cs.xs.length ≤ 1099511627776 := hcl m.ml (List.mem_of_getElem? hms)
 have htl : (b.ms.take n).length = n := by rw [List.length_take]; omega
 have hdl : (b.ms.drop (n + 1)).length = b.ms.length - (n + 1) := by rw [List.length_drop]
 have hmt := mvs_length (b.ms.take n)
 have hmd := mvs_length (b.ms.drop (n + 1))
 refine Fun.enter Tryz.func11 rfl Tryz.ntmps11 rfl ?_
 refine WC.known (fun w h => mrowsCapC (List.mem_of_getElem? hm) (show Own w0 (mrows b.ms :: _) w from Sb.o h)) fun hcap => ?_
 refine wS $ wR $ bxc (v := .agg _) (cs := [.int _ _, .int _ _, .int _ _, .int _ _]) rfl rfl fun b1 => yI rfl $ wN $ tN $ ?_
 refine WC.cutS [(5, .bool (decide (1 ≤ i ∧ i ≤ (b.l.length : Int))))] [(0, .pointer _), (3, .pointer _)] ⟨rfl, rfl, trivial⟩ ?_ fun ρh => ?_
 ·
  refine WC.draws rfl (by kernel_rfl) $ qv (vfldp fl32f1 rfl) $ qv (vldc pl3 rfl) $ qvs (vge rfl rfl) (fun q1 => ?_) (fun q1 => ?_)
  ·
   exact qv (vmB rfl) $ qvg rfl (vfldp fl32f1 rfl) $ qvg rfl (vldc pl3 rfl) $ qvg rfl (vmP rfl) $ qvg rfl (vnil rfl) $ qvg rfl (vfldpz fl59f0 rfl) $ qvg rfl (vldc pl57 rfl) $ qvg rfl (vlen Tryz.underlying57 rfl) $ qvg rfl (vle rfl rfl) $ qv (vpkt rfl) $ qv (vaB rfl) $ WQ.nil $ xM () trivial ⟨bIa, trivial⟩ ⟨rfl, rfl, trivial⟩ ow
  ·
   exact qv (vmB rfl) $ qng rfl $ qng rfl $ qng rfl $ qng rfl $ qng rfl $ qng rfl $ qng rfl $ qng rfl $ qv (vpkf rfl) $ qv (vaB rfl) $ WQ.nil $ xM () trivial ⟨bFa, trivial⟩ ⟨rfl, rfl, trivial⟩ ow
 refine WC.cutS [(6, .bool (decide (True)))] [(0, .pointer _), (3, .pointer _), (5, .bool _)] ⟨rfl, rfl, rfl, trivial⟩ ?_ fun ρh => ?_
 ·
  refine WC.draws rfl (by kernel_rfl) $ qv (vfldp fl32f2 rfl) $ qv (vldc pl3 rfl) $ qvs (vge rfl rfl) (fun q2 => ?_) (fun q2 => ?_)
  ·
   exact qv (vmB rfl) $ qvg rfl (vfldp fl32f2 rfl) $ qvg rfl (vldc pl3 rfl) $ qvg rfl (vmP rfl) $ qvg rfl (vnil rfl) $ qvg rfl (vfldp fl59f1 rfl) $ qvg rfl (vldc pl41 rfl) $ qvg rfl (vlen Tryz.underlying41 rfl) $ qvg rfl (vlt rfl rfl) $ qv (vpkt rfl) $ qv (vaB rfl) $ WQ.nil $ xM () trivial ⟨bI ⟨fun _ => trivial, fun _ => by omega⟩, trivial⟩ ⟨rfl, rfl, rfl, trivial⟩ ow
  ·
   exact qv (vmB rfl) $ qng rfl $ qng rfl $ qng rfl $ qng rfl $ qng rfl $ qng rfl $ qng rfl $ qng rfl $ qv (vpkf rfl) $ qv (vaB rfl) $ WQ.nil $ xM () trivial ⟨bFa, trivial⟩ ⟨rfl, rfl, rfl, trivial⟩ ow
 refine wS $ wS $ wR $ sv (vfldpz fl32f0 rfl) $ sv (vldc pl3 rfl) $ wN $ tN $ WC.block $ wS $ wS $ wR $ sv (veq rfl rfl) $ yB rfl $ wN $ tN $ ?_
 refine WC.ff rfl ?_
 refine wS $ wR $ sv (veq rfl rfl) $ yB rfl $ wN $ tN $ ?_
 refine WC.ff rfl ?_
 refine wS $ wR $ sv (veq rfl rfl) $ yB rfl $ wN $ tN $ ?_
 refine WC.ff rfl ?_
 refine wR $ sv (veq rfl rfl) $ yB rfl $ wN $ tN $ ?_
 refine WC.ff rfl ?_
 refine wS $ wS $ wR $ sv (veq rfl rfl) $ yB rfl $ wN $ tN $ ?_
 refine WC.ff rfl ?_
 refine wS $ wR $ sv (veq rfl rfl) $ yB rfl $ wN $ tN $ ?_
 refine WC.ff rfl ?_
 refine wR $ sv (veq rfl rfl) $ yB rfl $ wN $ tN $ ?_
 refine WC.tt rfl ?_
 refine wS $ wS $ wR $ zB rfl $ sv (vnot rfl) $ wN $ tN $ ?_
 refine WC.ff rfl ?_
 refine WC.skip $ tN $ wS $ WC.plan (.one [0, 1, 2, 3, 4, 5, 6, 7] 8 (.bar [] 9 (.done []))) rfl (by kernel_rfl) $ WPl.oneE (fun g => by infer_instance) $ dv (fun g => (vmP rfl)) $ dv (fun g => (vnil rfl)) $ dv (fun g => (vfldp fl59f1 rfl)) $ dv (fun g => (vldc pl41 rfl)) $ dv (fun g => (vfldp fl32f2 rfl)) $ dv (fun g => (vldc pl3 rfl)) $ dv (fun g => (vix Tryz.underlying41 sz85 rfl rfl (by omega) (by omega) reads hpos)) $ dv (fun g => (vlda ag85 sz85 rfl reads hag rfl (by decide))) $ WD.eff rfl $ alz (cs := [.int .i64 0, .int .i64 0, .int .i64 0, .int .i64 0, .int .i64 0, .int .i64 0, .int .i64 0, .bool false, .slice none 0 0]) zt85 (by rfl) fun b15 => wN $ WX.br $ WPl.barC $ WD.eff rfl $ stAp sz85 rfl rfl rfl (by intro v hv; simp only [List.mem_cons, List.not_mem_nil, or_false] at hv; rcases hv with rfl | rfl | rfl | rfl | rfl | rfl | rfl | rfl | rfl <;> rfl) rfl $ wN $ WX.brT $ WPl.finC $ WD.nil $ tN $ wS $ wS $ wR $ sv (vfldpz fl32f0 rfl) $ sv (vldc pl3 rfl) $ sv (vne rfl rfl) $ wN $ tN $ ?_
 refine WC.tt rfl ?_
 refine wS $ wR $ yS rfl $ wN $ tN $ wS $ WC.plan (.bar [0, 1, 2, 3, 4, 5, 6, 7] 8 (.done [9])) rfl (by kernel_rfl) $ WPl.barC $ dv (fun g => (vmS rfl)) $ dv (fun g => (vmP rfl)) $ dv (fun g => (vnil rfl)) $ dv (fun g => (vfldp fl59f1 rfl)) $ dv (fun g => (vldc pl41 rfl)) $ dv (fun g => (vfldp fl32f2 rfl)) $ dv (fun g => (vldc pl3 rfl)) $ dv (fun g => (vw (v' := .slice b.mb (b.ms.take n).length b.mc) (vslH Tryz.underlying41 sz85 rfl rfl (by omega) (by omega)) (iv' (by omega)))) $ WD.eff rfl $ pm (fun _ h => h.intro_row_nil) $ ap (vs := []) (news := mvs (b.ms.take n)) rfl Tryz.underlying41 zt85 rfl rfl rfl (rfl) (by omega) (mvs_one _) (by rw [← mvsT]; exact RdC.take (RdC.of_row (c := b.mc) (s := 9) (e := 85) (vs := mvs b.ms) (by simp)) (n * 9)) (by simp only [maxLen]; omega) (by omega) fun base21 c21 hc21 => wN $ WX.brT $ WPl.finC $ dv (fun g => (vaS rfl)) $ WD.nil $ tN $ wS $ WC.plan (.bar [0, 1, 2, 3, 4, 5, 6, 7, 8] 9 (.done [10])) rfl (by kernel_rfl) $ WPl.barC $ dv (fun g => (vmS rfl)) $ dv (fun g => (vmP rfl)) $ dv (fun g => (vnil rfl)) $ dv (fun g => (vfldp fl59f1 rfl)) $ dv (fun g => (vldc pl41 rfl)) $ dv (fun g => (vfldp fl32f2 rfl)) $ dv (fun g => (vldc pl3 rfl)) $ dv (fun g => (vadd rfl rfl (by omega))) $ dv (fun g => (vw (v' := .slice (slB b.mb (((n : Int) + 1)).toNat b.mc 9) (b.ms.drop (n + 1)).length (b.mc - (((n : Int) + 1)).toNat)) (vslL Tryz.underlying41 sz85 rfl rfl (by omega) (by omega)) (iv' (by omega)))) $ WD.eff rfl $ pm ow $ ap (vs := mvs (b.ms.take n)) (news := mvs (b.ms.drop (n + 1))) rfl Tryz.underlying41 zt85 rfl rfl rfl (by omega) (by omega) (mvs_one _) (mvs_rdrop (by simp) (by omega) (by omega)) (by simp only [maxLen]; omega) (by omega) fun base26 c26 hc26 => ?_
 refine wN $ WX.brT $ WPl.finC $ dv (fun g => (vaS rfl)) $ WD.nil $ tN $ wR $ zP rfl $ zS rfl $ uN rfl $ sv (vfldp fl59f1 rfl) $ stp (v := .slice _ _ _) pl41 sz41 rfl rfl rfl $ wN $ tN $ wS $ wR $ sv (vfldpz fl32f0 rfl) $ sv (vldc pl3 rfl) $ sv (vne rfl rfl) $ wN $ tN $ ?_
 refine WC.ff rfl ?_
 exact WC.skip $ WX.blockN $ tN $ wS $ wR $ yI rfl $ wN $ tN $ WC.ret $ xR rfl (()) (trivial) rfl (fun w h => rc_mk (hcw.erase2 hn hc26) (rL_up (dropL [_] ((rL_erase (A := A) (M := M) (p := p) hcw hn hm (Sb.o h)).ix [5, 0, 1, 2, 3, 4]))))
end Go.Proofs.YtigjompojlhomaaGreat
end
