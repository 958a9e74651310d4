/- Layer 23's client: frame, complete. -/
import Derived.Test.YtepjnmocepkfjaaCb
set_option linter.unusedVariables false
set_option linter.unusedSimpArgs false
set_option maxRecDepth 100000
namespace Go.Proofs.Ytepjnmocepkfjaa
open V A
/-- What a contract leaves, told by what fits. -/
theorem spec_fit {f : FuncId} {args : List AV} {cs : List Chunk} {R : AV → List Chunk → Prop} (h : FSpec Try.prog f args cs fun a cs' => ∃ a' cs1 cs2, Fit a a' ∧ Ent cs' (cs1 ++ cs2) ∧ R a' cs1) : FSpec Try.prog f args cs R := h.weak fun a cs h => h
/-- Something that happened. -/
structure Evt where
  kind : Int
  client : Int
  token : Int
  method : Int
  status : Int
  bytes : List UInt8
def evtA (e : Evt) : AV := .agg [.v (kI e.kind) 0, .v (kI e.client) 0, .v (kU e.token) 0, .v (kI e.method) 0, .v (kI e.status) 0, .d (A.bytesD e.bytes)]
def nofr : Fr := ⟨0, 0, 0, 0, 0, 0, 0, 0, []⟩
def noev : Evt := ⟨0, 0, 0, 0, 0, []⟩
def frameP (num last : Int) (L : List (Nat × CP)) (x : CP) : Fr := ⟨1, num, x.tok, x.att, floorP last L, x.meth, x.dl, 0, x.arg⟩
theorem cframe_spec {num last : Int} {gm gt : Nat} {L : List (Nat × CP)} {x : CP} (hn : num ≠ 0) (hs : (L.map (·.2.tok)).Pairwise (· < ·)) (hl : ∀ p ∈ L, p.2.tok ≤ last) (hl0 : 0 ≤ last) (hl1 : last < 1000000) (hx : x.arg.length ≤ lim) : FSpec Try.prog 31 [cliD num last gm gt, callD x] [cmapC gm L]
    fun a cs => ∃ v, a = .agg [.v (kI 1) 0, .v (kI num) 0, .v (kU x.tok) 0, .v (kI x.att) 0, .v (kU (floorP last L)) 0, .v (kI x.meth) 0, .v (kI x.dl) 0, .v (kI 0) 0, .row v 1] ∧ cs = [cmapC gm L, .row v 5 1 (x.arg.map eB)] := by
  refine a_enter hT [cliD num last gm gt, callD x] [11] Try.func31 rfl rfl rfl ⟨rfl, rfl, trivial⟩ fun c => ?_
  refine a_new hT hZ 20 rfl rfl rfl rfl fun g => ?_
  refine a_draw hT [11] true [(0, false), (1, false), (2, false), (3, false), (4, false), (5, false), (6, false), (7, false), (8, false), (9, false), (10, false), (11, false), (12, false), (14, false), (15, false), (16, false), (17, false), (18, false), (19, false), (20, false), (21, false), (22, false), (23, false), (24, false), (25, false), (13, true), (26, true), (27, false), (28, true)] rfl rfl (by kernel_rfl) (by kernel_rfl) rfl ?_
  refine a_call hT rfl rfl rfl (by kernel_rfl) (cfloor_spec hn hs hl hl0 hl1) [11] [11] rfl rfl ?_
  rintro _ _ ⟨rfl, rfl⟩
  refine a_call hT rfl rfl rfl (by kernel_rfl) (cloneB (by first | assumption | rfl | decide | omega)) [] [1] rfl rfl ?_
  rintro _ _ ⟨x1, rfl, rfl⟩
  refine a_build hT hZ [.v (Value.int IntKind.i64 1) 0, .v (kI num) 0, .v (kU (CP.tok x)) 0, .v (kI (CP.att x)) 0, .v (kU (floorP last L)) 0, .v (kI (CP.meth x)) 0, .v (kI (CP.dl x)) 0, .v (Value.int IntKind.i64 0) 0, .row x1 1] rfl rfl rfl rfl rfl rfl ?_
  refine a_ret hT [11, 1] rfl rfl rfl rfl rfl rfl ?_
  exact ⟨_, rfl, rfl⟩
theorem ccomplete_spec {g h b h2 h3 : Nat} {num last st : Int} {gm gt : Nat} {L : List (Nat × CP)} {x : CP} {S : TS} {bs : List UInt8} (hS : (S.map (·.1)).Nodup) (hl : S.length < 999999) (hb : bs.length ≤ lim) : FSpec Try.prog 32 [ptrA g h, ptrA b h2, .v (kI st) h3, .d (A.bytesD bs)] [cliBlk g num last gm gt, cmapC gm L, callBlk b x, .ext (tmA gt S)]
    fun a cs => a = evtA ⟨3, num, x.tok, x.meth, st, bs⟩ ∧ cs = [cliBlk g num last gm gt, .map gm (mapG kU bV40 (adel (cmap L) x.tok)), callBlk b x, .ext (tmA gt (filt x.tok S))] := by
  refine a_enter hT [ptrA g 10, ptrA b 12, .v (kI st) 0, .d (A.bytesD bs)] [10, 11, 12, 13] Try.func32 rfl rfl rfl ⟨rfl, rfl, rfl, rfl, trivial⟩ fun c => ?_
  refine a_new hT hZ 20 rfl rfl rfl rfl fun g1 => ?_
  refine a_draw hT [] true [(0, false), (1, false), (2, false), (3, false), (4, false), (5, false), (6, false), (7, false), (8, true)] rfl rfl (by kernel_rfl) (by kernel_rfl) rfl ?_
  refine a_mdelG hT (kv := kU) (va := bV40) _ _ rfl rfl rfl rfl mtK kU_ok rfl rfl rfl rfl rfl ?_
  refine a_draw hT [] true [(0, false), (1, false), (2, false), (3, false), (4, false), (5, false), (6, false), (7, false), (8, true)] rfl rfl (by kernel_rfl) (by kernel_rfl) rfl ?_
  refine a_call hT rfl rfl rfl (by kernel_rfl) (tstop_spec hS hl) [13] [13] rfl rfl ?_
  rintro _ _ ⟨S', ⟨rfl, rfl⟩, rfl⟩
  refine a_draw hT [] true [(0, false), (1, false), (2, false), (3, false), (4, false), (5, false), (6, false), (7, false), (8, false), (9, false), (10, false), (11, false), (12, false), (13, false), (14, true), (15, false), (16, true)] rfl rfl (by kernel_rfl) (by kernel_rfl) rfl ?_
  refine a_call hT rfl rfl rfl (by kernel_rfl) (cloneF (by first | assumption | rfl | decide | omega)) [] [] rfl rfl ?_
  rintro _ _ ⟨rfl, rfl⟩
  refine a_build hT hZ [.v (Value.int IntKind.i64 3) 0, .v (kI num) 0, .v (kU (CP.tok x)) 0, .v (kI (CP.meth x)) 0, .v (kI st) 0, .d (A.bytesD bs)] rfl rfl rfl rfl rfl rfl ?_
  refine a_ret hT [10, 11, 12, 13] rfl rfl rfl rfl rfl rfl ?_
  first | exact ⟨rfl, rfl⟩ | rfl
end Go.Proofs.Ytepjnmocepkfjaa
