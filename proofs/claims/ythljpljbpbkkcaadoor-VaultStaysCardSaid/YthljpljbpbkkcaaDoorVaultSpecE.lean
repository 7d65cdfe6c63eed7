/-
  Layer 16: Put and Drop.
-/
import Derived.Test.YthljpljbpbkkcaaDoorVaultSpecD
set_option linter.unusedVariables false
set_option linter.unusedSimpArgs false
set_option maxRecDepth 4000
namespace Go.Proofs.YthljpljbpbkkcaaDoor
open Go.Sl Go.RowKit Go.Pack Go.Vault Go.Journal

theorem rsomeV {w0 w : World} {A : List HProp} {base : Option Addr} {vs : List Value} (h0 : 0 < vs.length) (hR : RdC w0 A base vs) (h : Own w0 A w) : base.isSome = true := by
  obtain ⟨a, rfl, _⟩ := hR w h 0 _ (List.getElem?_eq_getElem h0)
  rfl
theorem v_clone {w0 : World} {A : List HProp} {c : Nat} {base : Option Addr} {bs : List UInt8} (hl : bs.length ≤ 1099511627776) [hR : Reads w0 A base (u8s bs)] :
    Fun Tryd.prog w0 24 [.slice base bs.length c] A
      (Ret w0 (fun i : Option Addr × Nat => bs.length ≤ i.2) (fun i => .slice i.1 bs.length i.2) (fun i => row i.1 i.2 1 5 (u8s bs) :: A)) := by
  refine Fun.enter Tryd.func24 rfl Tryd.ntmps24 rfl ?_
  refine WC.seq <| WC.region <| sv (vaS rfl) <| WL.nil <| WX.thenN <| WC.seq <| WC.seq <| WC.region <| sv (vmS rfl) <| sv (vsnl Tryd.underlying25 rfl rfl) <| WL.nil <| WX.thenN <| ?_
  refine WC.iteb rfl (fun h1 => ?_) (fun h1 => ?_)
  · -- then
    refine WC.known (p := bs = []) (fun w h => ?_) fun hnil => ?_
    · rcases Nat.eq_zero_or_pos bs.length with h0 | h0
      · exact List.eq_nil_of_length_eq_zero h0
      · have := rsomeV (base := base) (vs := u8s bs) (by simpa using h0) reads h
        rw [Option.isSome_iff_ne_none] at this
        exact absurd (Option.isNone_iff_eq_none.1 h1) this
    subst hnil
    exact WC.seq <| WC.region <| sv (vaS rfl) <| WL.nil <| WX.thenN <| WC.ret <| WX.thenR <| WX.ret1 rfl ((none, 0)) (by simp) rfl (fun _ h => h.intro_row_nil)
  · -- else
    refine WC.skip <| WX.thenN <| WC.seq <| WC.region <| bsl0 Tryd.underlying25 zt5 fun b1 => sv (vmS rfl) <| pm (fun _ h => Sb.own (by repeat' (first | with_reducible exact Sb.all | exact Sb.nil | (apply Sb.cons; focus (first | ((repeat (first | with_reducible exact Tk.here | with_reducible apply Tk.there)); done) | ((repeat (first | exact Tk.here | apply Tk.there)); done))) | apply Sb.drop)) h) <| ap (vs := u8s []) (news := u8s bs) rfl Tryd.underlying25 zt5 rfl rfl rfl rfl (by simp) (u8s_one bs) reads (by simp only [maxLen]; omega) (by omega) fun base2 c2 hc2 =>?_
    exact sv (vaS rfl) <| WL.nil <| WX.thenN <| WC.ret <| WX.ret1 rfl ((base2, c2)) (by simpa using hc2) (by show Value.slice base2 (0 + bs.length) c2 = _; rw [Nat.zero_add]) (fun _ h => Sb.own (by repeat' (first | with_reducible exact Sb.all | exact Sb.nil | (apply Sb.cons; focus (first | ((repeat (first | with_reducible exact Tk.here | with_reducible apply Tk.there)); done) | ((repeat (first | exact Tk.here | apply Tk.there)); done))) | apply Sb.drop)) h)
theorem pents_snoc (l : List (PK × Sla UInt8)) (k : PK) (s : Sla UInt8) : pents (l ++ [(k, s)]) = pents l ++ [(pkv k, .slice s.base s.xs.length s.cap)] := by simp [pents]
theorem lookP_snoc : ∀ (l : List (PK × Sla UInt8)) (k : PK) (s : Sla UInt8) (q : PK), lookP (l ++ [(k, s)]) q = match lookP l q with | some b => some b | none => if k = q then some s.xs else none
  | [], k, s, q => rfl
  | x :: l, k, s, q => by
    show (if x.1 = q then some x.2.xs else lookP (l ++ [(k, s)]) q) = match (if x.1 = q then some x.2.xs else lookP l q) with | some b => some b | none => if k = q then some s.xs else none
    by_cases h : x.1 = q
    · rw [if_pos h, if_pos h]
    · rw [if_neg h, if_neg h, lookP_snoc l k s q]
theorem VRep.put {d : VD} {mp mf : Nat} {l : List (PK × Sla UInt8)} {fl : List (ByteArray × Int)} {k : PK} {s : Sla UInt8} (h : VRep d ⟨mp, mf, l, fl⟩) (hk : PkOk k) (hn : d.parts k = none) (hc : s.xs.length ≤ s.cap ∧ s.xs.length ≤ 1048576) : VRep (putD d k s.xs) ⟨mp, mf, l ++ [(k, s)], fl⟩ := by
  have hlk := (h.look k).trans hn
  refine ⟨?_, fun q => ?_, fun x hx => ?_, h.ndf, h.floor⟩
  · rw [List.map_append, List.nodup_append]
    refine ⟨h.nd, by simp, fun a ha b hb => ?_⟩
    simp only [List.map_cons, List.map_nil, List.mem_singleton] at hb
    obtain ⟨x, hx, rfl⟩ := List.mem_map.1 ha
    rw [hb]
    intro e
    have := lookP_mem h.nd hx
    rw [e] at this
    exact absurd (this.symm.trans hlk) (by simp)
  · show lookP (l ++ [(k, s)]) q = if q = k then some s.xs else d.parts q
    rw [lookP_snoc, h.look]
    by_cases hq : q = k
    · subst hq
      rw [hn]
    · rw [if_neg hq]
      have hq' : ¬ k = q := fun e => hq e.symm
      cases d.parts q <;> simp [hq']
  · rcases List.mem_append.1 hx with hx | hx
    · exact h.ok x hx
    · simp only [List.mem_singleton] at hx; subst hx; exact ⟨hk, hc⟩
theorem VRep.new_put {d : VD} {mp mf : Nat} {l : List (PK × Sla UInt8)} {fl : List (ByteArray × Int)} {k : PK} {v : Value} (h : VRep d ⟨mp, mf, l, fl⟩) (hn : d.parts k = none) : PutE (pents l) (pkv k) v (pents l ++ [(pkv k, v)]) := .new (pents_none ((h.look k).trans hn))
theorem v_put1 {w0 : World} {A : List HProp} {v j t0 t1 t2 c : Nat} {down : Bool} {d : VD} {k : PK} {base : Option Addr} {bs : List UInt8} (hk : PkOk k) (hn : d.parts k = none) (hl : bs.length ≤ 1048576) [hR : Reads w0 A base (u8s bs)] [h0 : CelAt A t0 [.slice base bs.length c] 25] [h1 : CelAt A t1 [.pointer (some ⟨v, 0, none⟩)] 27] [h2 : CelAt A t2 (pkl k) 62] :
    Fun Tryd.prog w0 23 [.pointer (some ⟨t0, 0, none⟩), .pointer (some ⟨t1, 0, none⟩), .pointer (some ⟨t2, 0, none⟩)] (pv v j down d :: A) (Ret w0 (fun _ : Unit => True) (fun _ => .tuple #[]) (fun _ => pv v j down (putD d k bs) :: A)) := by
  refine Fun.ex (fun w h => pv_open h) ?_
  rintro ⟨mp, mf, l, fl⟩ hi
  dsimp only [vcl]
  refine Fun.enter Tryd.func23 rfl Tryd.ntmps23 rfl ?_
  refine WC.plan (.pre [5] (.one [0, 1, 2, 3, 4] 6 (.bar [] 7 (.done [])))) rfl (by kernel_rfl) <| WPl.preC <| dv (fun g => (vldc pl25 rfl)) <| WD.nil <| WPl.oneE (fun g => by infer_instance) <| dv (fun g => (vldc pl27 rfl)) <| dv (fun g => (vnil rfl)) <| dv (fun g => (vfldpz fl56f0 rfl)) <| dv (fun g => (vldc pl53 rfl)) <| dv (fun g => (vldac ag62 sz62 rfl rfl (by decide))) <| WD.eff rfl <| clx (by repeat' (first | with_reducible exact Sb.all | exact Sb.nil | (apply Sb.cons; focus (first | ((repeat (first | with_reducible exact Tk.here | with_reducible apply Tk.there)); done) | ((repeat (first | exact Tk.here | apply Tk.there)); done))) | apply Sb.drop)) (v_clone (by omega)) ct24 rfl fun r5 hr5 => ?_
  refine WL.nil <| WX.br <| WPl.barC <| WD.eff rfl <| mpupK (k := pkv k) (v := .slice _ _ _) Tryd.underlying53 place_law rfl rfl rfl (kp_ok hk) (hi.new_put hn) ?_
  exact WL.nil <| WX.brT <| WPl.finC <| WD.nil <| WX.end0 rfl (()) (trivial) rfl (fun w h => by have h2 := rows_snoc (e := 5) (y := ⟨r5.1, bs, r5.2⟩) (l := l.map Prod.snd) (Own.sp2 (by repeat' (first | exact Spl.nil | (apply Spl.cons; focus (first | ((repeat (first | with_reducible exact Tk.here | with_reducible apply Tk.there)); done) | ((repeat (first | exact Tk.here | apply Tk.there)); done))))) h); have h3 := pv_mk (v := v) (j := j) (down := down) (d := putD d k bs) (i := ⟨mp, mf, l ++ [(k, ⟨r5.1, bs, r5.2⟩)], fl⟩) (hi.put (s := ⟨r5.1, bs, r5.2⟩) hk hn ⟨hr5, hl⟩) (show Own w0 _ w from by rw [pents_snoc, List.map_append]; exact Own.sp4 (by repeat' (first | exact Spl.nil | (apply Spl.cons; focus (first | ((repeat (first | with_reducible exact Tk.here | with_reducible apply Tk.there)); done) | ((repeat (first | exact Tk.here | apply Tk.there)); done))))) h2); exact Sb.own (by repeat' (first | with_reducible exact Sb.all | exact Sb.nil | (apply Sb.cons; focus (first | ((repeat (first | with_reducible exact Tk.here | with_reducible apply Tk.there)); done) | ((repeat (first | exact Tk.here | apply Tk.there)); done))) | apply Sb.drop)) h3)
theorem v_drop1 {w0 : World} {A : List HProp} {v j t0 t1 t2 : Nat} {down : Bool} {d : VD} {f : ByteArray} {n : Int} [h0 : CelAt A t0 [.pointer (some ⟨v, 0, none⟩)] 27] [h1 : CelAt A t1 [.string f] 9] [h2 : CelAt A t2 [.int .i64 n] 3] :
    Fun Tryd.prog w0 27 [.pointer (some ⟨t0, 0, none⟩), .pointer (some ⟨t1, 0, none⟩), .pointer (some ⟨t2, 0, none⟩)] (pv v j down d :: A) (Ret w0 (fun _ : Unit => True) (fun _ => .tuple #[]) (fun _ => pv v j down (dropD d f n) :: A)) := by
  refine Fun.enter Tryd.func27 rfl Tryd.ntmps27 rfl ?_
  refine WC.region <| sv (vldc pl27 rfl) <| sv (vldc pl9 rfl) <| sv (vldc pl3 rfl) <| clx (by repeat' (first | with_reducible exact Sb.all | exact Sb.nil | (apply Sb.cons; focus (first | ((repeat (first | with_reducible exact Tk.here | with_reducible apply Tk.there)); done) | ((repeat (first | exact Tk.here | apply Tk.there)); done))) | apply Sb.drop)) (v_drop) ct28 rfl fun r4 hr4 => ?_
  exact WL.nil <| WX.end0 rfl (()) (trivial) rfl (fun _ h => Sb.own (by repeat' (first | with_reducible exact Sb.all | exact Sb.nil | (apply Sb.cons; focus (first | ((repeat (first | with_reducible exact Tk.here | with_reducible apply Tk.there)); done) | ((repeat (first | exact Tk.here | apply Tk.there)); done))) | apply Sb.drop)) h)
end Go.Proofs.YthljpljbpbkkcaaDoor
