/- The seat's types, as the evaluator reads them. -/
import Derived.Test.YtlgoiaembdlemaaPic
import Derived.Test.YtlgoiaembdlemaaProg
set_option linter.unusedSimpArgs false
set_option linter.unusedVariables false
namespace Go.Pi
open Go
def ti2 : TI := ⟨1, false, 8, Value.int IntKind.i64 0, 0, [], some .i64, false, false⟩
theorem ty2 : TyOK Proofs.Try.prog 2 ti2 := ⟨Proofs.Try.sizeOf2, Proofs.Try.isAgg2, Proofs.Try.zeroValue2, rfl, fun w => ⟨_, Proofs.Try.typeInfo2 w, rfl⟩, (fun h => absurd rfl h), (fun h => absurd rfl h), (fun k h => by cases h; exact Proofs.Try.runUnderlying2), (fun h => by cases h), (fun h => by cases h), ⟨Proofs.Try.t2, info_of Proofs.Try.type2, rfl, rfl, rfl⟩, (fun h => absurd rfl h), (fun _ => rfl), by decide⟩
def ti3 : TI := ⟨1, false, 8, Value.int IntKind.i64 0, 0, [], some .i64, false, false⟩
theorem ty3 : TyOK Proofs.Try.prog 3 ti3 := ⟨Proofs.Try.sizeOf3, Proofs.Try.isAgg3, Proofs.Try.zeroValue3, rfl, fun w => ⟨_, Proofs.Try.typeInfo3 w, rfl⟩, (fun h => absurd rfl h), (fun h => absurd rfl h), (fun k h => by cases h; exact Proofs.Try.runUnderlying3), (fun h => by cases h), (fun h => by cases h), ⟨Proofs.Try.t3, info_of Proofs.Try.type3, rfl, rfl, rfl⟩, (fun h => absurd rfl h), (fun _ => rfl), by decide⟩
def ti4 : TI := ⟨1, false, 1, Value.bool false, 0, [], none, false, true⟩
theorem ty4 : TyOK Proofs.Try.prog 4 ti4 := ⟨Proofs.Try.sizeOf4, Proofs.Try.isAgg4, Proofs.Try.zeroValue4, rfl, fun w => ⟨_, Proofs.Try.typeInfo4 w, rfl⟩, (fun h => absurd rfl h), (fun h => absurd rfl h), (fun k h => by cases h), (fun h => by cases h), (fun _ => Proofs.Try.runUnderlying4), ⟨Proofs.Try.t4, info_of Proofs.Try.type4, rfl, rfl, rfl⟩, (fun h => absurd rfl h), (fun _ => rfl), by decide⟩
def ti5 : TI := ⟨1, false, 1, Value.int IntKind.u8 0, 0, [], some .u8, false, false⟩
theorem ty5 : TyOK Proofs.Try.prog 5 ti5 := ⟨Proofs.Try.sizeOf5, Proofs.Try.isAgg5, Proofs.Try.zeroValue5, rfl, fun w => ⟨_, Proofs.Try.typeInfo5 w, rfl⟩, (fun h => absurd rfl h), (fun h => absurd rfl h), (fun k h => by cases h; exact Proofs.Try.runUnderlying5), (fun h => by cases h), (fun h => by cases h), ⟨Proofs.Try.t5, info_of Proofs.Try.type5, rfl, rfl, rfl⟩, (fun h => absurd rfl h), (fun _ => rfl), by decide⟩
def ti9 : TI := ⟨1, false, 16, Value.string { data := #[] }, 0, [], none, true, false⟩
theorem ty9 : TyOK Proofs.Try.prog 9 ti9 := ⟨Proofs.Try.sizeOf9, Proofs.Try.isAgg9, Proofs.Try.zeroValue9, rfl, fun w => ⟨_, Proofs.Try.typeInfo9 w, rfl⟩, (fun h => absurd rfl h), (fun h => absurd rfl h), (fun k h => by cases h), (fun _ => Proofs.Try.runUnderlying9), (fun h => by cases h), ⟨Proofs.Try.t9, info_of Proofs.Try.type9, rfl, rfl, rfl⟩, (fun h => absurd rfl h), (fun _ => rfl), by decide⟩
def ti22 : TI := ⟨1, false, 24, Value.slice none 0 0, 5, [], none, false, false⟩
theorem ty22 : TyOK Proofs.Try.prog 22 ti22 := ⟨Proofs.Try.sizeOf22, Proofs.Try.isAgg22, Proofs.Try.zeroValue22, rfl, fun w => ⟨_, Proofs.Try.typeInfo22 w, rfl⟩, (fun _ => Proofs.Try.runUnderlying22), (fun h => absurd rfl h), (fun k h => by cases h), (fun h => by cases h), (fun h => by cases h), ⟨Proofs.Try.t22, info_of Proofs.Try.type22, rfl, rfl, rfl⟩, (fun _ => Proofs.Try.underlying22), (fun _ => rfl), by decide⟩
def ti23 : TI := ⟨1, false, 24, Value.slice none 0 0, 61, [], none, false, false⟩
theorem ty23 : TyOK Proofs.Try.prog 23 ti23 := ⟨Proofs.Try.sizeOf23, Proofs.Try.isAgg23, Proofs.Try.zeroValue23, rfl, fun w => ⟨_, Proofs.Try.typeInfo23 w, rfl⟩, (fun _ => Proofs.Try.runUnderlying23), (fun h => absurd rfl h), (fun k h => by cases h), (fun h => by cases h), (fun h => by cases h), ⟨Proofs.Try.t23, info_of Proofs.Try.type23, rfl, rfl, rfl⟩, (fun _ => Proofs.Try.underlying23), (fun _ => rfl), by decide⟩
def ti24 : TI := ⟨1, false, 2, Value.int IntKind.i16 0, 0, [], some .i16, false, false⟩
theorem ty24 : TyOK Proofs.Try.prog 24 ti24 := ⟨Proofs.Try.sizeOf24, Proofs.Try.isAgg24, Proofs.Try.zeroValue24, rfl, fun w => ⟨_, Proofs.Try.typeInfo24 w, rfl⟩, (fun h => absurd rfl h), (fun h => absurd rfl h), (fun k h => by cases h; exact Proofs.Try.runUnderlying24), (fun h => by cases h), (fun h => by cases h), ⟨Proofs.Try.t24, info_of Proofs.Try.type24, rfl, rfl, rfl⟩, (fun h => absurd rfl h), (fun _ => rfl), by decide⟩
def ti26 : TI := ⟨6, true, 88, Value.agg #[Value.int IntKind.u8 0, Value.slice none 0 0, Value.slice none 0 0, Value.slice none 0 0, Value.int IntKind.i16 0, Value.int IntKind.u8 0], 0, [(5, 0), (22, 1), (22, 2), (23, 3), (24, 4), (5, 5)], none, false, false⟩
theorem ty26 : TyOK Proofs.Try.prog 26 ti26 := ⟨Proofs.Try.sizeOf26, Proofs.Try.isAgg26, Proofs.Try.zeroValue26, rfl, fun w => ⟨_, Proofs.Try.typeInfo26 w, rfl⟩, (fun h => absurd rfl h), (fun _ => ⟨_, Proofs.Try.runUnderlying26, rfl, by intro f hf; simp only [List.mem_cons, List.not_mem_nil, or_false] at hf; rcases hf with rfl | rfl | rfl | rfl | rfl | rfl; exact info_some Proofs.Try.type5; exact info_some Proofs.Try.type22; exact info_some Proofs.Try.type22; exact info_some Proofs.Try.type23; exact info_some Proofs.Try.type24; exact info_some Proofs.Try.type5⟩), (fun k h => by cases h), (fun h => by cases h), (fun h => by cases h), ⟨Proofs.Try.t26, info_of Proofs.Try.type26, rfl, rfl, rfl⟩, (fun h => absurd rfl h), (fun h => by cases h), by decide⟩
def ti27 : TI := ⟨1, false, 24, Value.slice none 0 0, 3, [], none, false, false⟩
theorem ty27 : TyOK Proofs.Try.prog 27 ti27 := ⟨Proofs.Try.sizeOf27, Proofs.Try.isAgg27, Proofs.Try.zeroValue27, rfl, fun w => ⟨_, Proofs.Try.typeInfo27 w, rfl⟩, (fun _ => Proofs.Try.runUnderlying27), (fun h => absurd rfl h), (fun k h => by cases h), (fun h => by cases h), (fun h => by cases h), ⟨Proofs.Try.t27, info_of Proofs.Try.type27, rfl, rfl, rfl⟩, (fun _ => Proofs.Try.underlying27), (fun _ => rfl), by decide⟩
def ti29 : TI := ⟨1, false, 24, Value.slice none 0 0, 27, [], none, false, false⟩
theorem ty29 : TyOK Proofs.Try.prog 29 ti29 := ⟨Proofs.Try.sizeOf29, Proofs.Try.isAgg29, Proofs.Try.zeroValue29, rfl, fun w => ⟨_, Proofs.Try.typeInfo29 w, rfl⟩, (fun _ => Proofs.Try.runUnderlying29), (fun h => absurd rfl h), (fun k h => by cases h), (fun h => by cases h), (fun h => by cases h), ⟨Proofs.Try.t29, info_of Proofs.Try.type29, rfl, rfl, rfl⟩, (fun _ => Proofs.Try.underlying29), (fun _ => rfl), by decide⟩
def ti31 : TI := ⟨8, true, 160, Value.agg #[Value.int IntKind.i64 0, Value.slice none 0 0, Value.slice none 0 0, Value.slice none 0 0, Value.slice none 0 0, Value.slice none 0 0, Value.int IntKind.i64 0, Value.slice none 0 0], 0, [(3, 0), (27, 1), (27, 2), (27, 3), (27, 4), (27, 5), (3, 6), (29, 7)], none, false, false⟩
theorem ty31 : TyOK Proofs.Try.prog 31 ti31 := ⟨Proofs.Try.sizeOf31, Proofs.Try.isAgg31, Proofs.Try.zeroValue31, rfl, fun w => ⟨_, Proofs.Try.typeInfo31 w, rfl⟩, (fun h => absurd rfl h), (fun _ => ⟨_, Proofs.Try.runUnderlying31, rfl, by intro f hf; simp only [List.mem_cons, List.not_mem_nil, or_false] at hf; rcases hf with rfl | rfl | rfl | rfl | rfl | rfl | rfl | rfl; exact info_some Proofs.Try.type3; exact info_some Proofs.Try.type27; exact info_some Proofs.Try.type27; exact info_some Proofs.Try.type27; exact info_some Proofs.Try.type27; exact info_some Proofs.Try.type27; exact info_some Proofs.Try.type3; exact info_some Proofs.Try.type29⟩), (fun k h => by cases h), (fun h => by cases h), (fun h => by cases h), ⟨Proofs.Try.t31, info_of Proofs.Try.type31, rfl, rfl, rfl⟩, (fun h => absurd rfl h), (fun h => by cases h), by decide⟩
def ti45 : TI := ⟨1, false, 24, Value.slice none 0 0, 9, [], none, false, false⟩
theorem ty45 : TyOK Proofs.Try.prog 45 ti45 := ⟨Proofs.Try.sizeOf45, Proofs.Try.isAgg45, Proofs.Try.zeroValue45, rfl, fun w => ⟨_, Proofs.Try.typeInfo45 w, rfl⟩, (fun _ => Proofs.Try.runUnderlying45), (fun h => absurd rfl h), (fun k h => by cases h), (fun h => by cases h), (fun h => by cases h), ⟨Proofs.Try.t45, info_of Proofs.Try.type45, rfl, rfl, rfl⟩, (fun _ => Proofs.Try.underlying45), (fun _ => rfl), by decide⟩
def ti50 : TI := ⟨1, false, 8, Value.int IntKind.i64 0, 0, [], some .i64, false, false⟩
theorem ty50 : TyOK Proofs.Try.prog 50 ti50 := ⟨Proofs.Try.sizeOf50, Proofs.Try.isAgg50, Proofs.Try.zeroValue50, rfl, fun w => ⟨_, Proofs.Try.typeInfo50 w, rfl⟩, (fun h => absurd rfl h), (fun h => absurd rfl h), (fun k h => by cases h; exact Proofs.Try.runUnderlying50), (fun h => by cases h), (fun h => by cases h), ⟨Proofs.Try.t50, info_of Proofs.Try.type50, rfl, rfl, rfl⟩, (fun h => absurd rfl h), (fun _ => rfl), by decide⟩
def ti61 : TI := ⟨1, false, 1, Value.int IntKind.i8 0, 0, [], some .i8, false, false⟩
theorem ty61 : TyOK Proofs.Try.prog 61 ti61 := ⟨Proofs.Try.sizeOf61, Proofs.Try.isAgg61, Proofs.Try.zeroValue61, rfl, fun w => ⟨_, Proofs.Try.typeInfo61 w, rfl⟩, (fun h => absurd rfl h), (fun h => absurd rfl h), (fun k h => by cases h; exact Proofs.Try.runUnderlying61), (fun h => by cases h), (fun h => by cases h), ⟨Proofs.Try.t61, info_of Proofs.Try.type61, rfl, rfl, rfl⟩, (fun h => absurd rfl h), (fun _ => rfl), by decide⟩
def ti75 : TI := ⟨1, false, 8, Value.int IntKind.u64 0, 0, [], some .u64, false, false⟩
theorem ty75 : TyOK Proofs.Try.prog 75 ti75 := ⟨Proofs.Try.sizeOf75, Proofs.Try.isAgg75, Proofs.Try.zeroValue75, rfl, fun w => ⟨_, Proofs.Try.typeInfo75 w, rfl⟩, (fun h => absurd rfl h), (fun h => absurd rfl h), (fun k h => by cases h; exact Proofs.Try.runUnderlying75), (fun h => by cases h), (fun h => by cases h), ⟨Proofs.Try.t75, info_of Proofs.Try.type75, rfl, rfl, rfl⟩, (fun h => absurd rfl h), (fun _ => rfl), by decide⟩
def ti79 : TI := ⟨2, true, 32, Value.agg #[Value.string { data := #[] }, Value.string { data := #[] }], 0, [(9, 0), (9, 1)], none, false, false⟩
theorem ty79 : TyOK Proofs.Try.prog 79 ti79 := ⟨Proofs.Try.sizeOf79, Proofs.Try.isAgg79, Proofs.Try.zeroValue79, rfl, fun w => ⟨_, Proofs.Try.typeInfo79 w, rfl⟩, (fun h => absurd rfl h), (fun _ => ⟨_, Proofs.Try.runUnderlying79, rfl, by intro f hf; simp only [List.mem_cons, List.not_mem_nil, or_false] at hf; rcases hf with rfl | rfl; exact info_some Proofs.Try.type9; exact info_some Proofs.Try.type9⟩), (fun k h => by cases h), (fun h => by cases h), (fun h => by cases h), ⟨Proofs.Try.t79, info_of Proofs.Try.type79, rfl, rfl, rfl⟩, (fun h => absurd rfl h), (fun h => by cases h), by decide⟩
def ti80 : TI := ⟨1, false, 24, Value.slice none 0 0, 79, [], none, false, false⟩
theorem ty80 : TyOK Proofs.Try.prog 80 ti80 := ⟨Proofs.Try.sizeOf80, Proofs.Try.isAgg80, Proofs.Try.zeroValue80, rfl, fun w => ⟨_, Proofs.Try.typeInfo80 w, rfl⟩, (fun _ => Proofs.Try.runUnderlying80), (fun h => absurd rfl h), (fun k h => by cases h), (fun h => by cases h), (fun h => by cases h), ⟨Proofs.Try.t80, info_of Proofs.Try.type80, rfl, rfl, rfl⟩, (fun _ => Proofs.Try.underlying80), (fun _ => rfl), by decide⟩
def ti88 : TI := ⟨1, false, 8, Value.int IntKind.i64 0, 0, [], some .i64, false, false⟩
theorem ty88 : TyOK Proofs.Try.prog 88 ti88 := ⟨Proofs.Try.sizeOf88, Proofs.Try.isAgg88, Proofs.Try.zeroValue88, rfl, fun w => ⟨_, Proofs.Try.typeInfo88 w, rfl⟩, (fun h => absurd rfl h), (fun h => absurd rfl h), (fun k h => by cases h; exact Proofs.Try.runUnderlying88), (fun h => by cases h), (fun h => by cases h), ⟨Proofs.Try.t88, info_of Proofs.Try.type88, rfl, rfl, rfl⟩, (fun h => absurd rfl h), (fun _ => rfl), by decide⟩
def ti97 : TI := ⟨1, false, 4, Value.int IntKind.u32 0, 0, [], some .u32, false, false⟩
theorem ty97 : TyOK Proofs.Try.prog 97 ti97 := ⟨Proofs.Try.sizeOf97, Proofs.Try.isAgg97, Proofs.Try.zeroValue97, rfl, fun w => ⟨_, Proofs.Try.typeInfo97 w, rfl⟩, (fun h => absurd rfl h), (fun h => absurd rfl h), (fun k h => by cases h; exact Proofs.Try.runUnderlying97), (fun h => by cases h), (fun h => by cases h), ⟨Proofs.Try.t97, info_of Proofs.Try.type97, rfl, rfl, rfl⟩, (fun h => absurd rfl h), (fun _ => rfl), by decide⟩
def ti99 : TI := ⟨1, false, 8, Value.int IntKind.u64 0, 0, [], some .u64, false, false⟩
theorem ty99 : TyOK Proofs.Try.prog 99 ti99 := ⟨Proofs.Try.sizeOf99, Proofs.Try.isAgg99, Proofs.Try.zeroValue99, rfl, fun w => ⟨_, Proofs.Try.typeInfo99 w, rfl⟩, (fun h => absurd rfl h), (fun h => absurd rfl h), (fun k h => by cases h; exact Proofs.Try.runUnderlying99), (fun h => by cases h), (fun h => by cases h), ⟨Proofs.Try.t99, info_of Proofs.Try.type99, rfl, rfl, rfl⟩, (fun h => absurd rfl h), (fun _ => rfl), by decide⟩
def ti100 : TI := ⟨1, false, 8, Value.int IntKind.u64 0, 0, [], some .u64, false, false⟩
theorem ty100 : TyOK Proofs.Try.prog 100 ti100 := ⟨Proofs.Try.sizeOf100, Proofs.Try.isAgg100, Proofs.Try.zeroValue100, rfl, fun w => ⟨_, Proofs.Try.typeInfo100 w, rfl⟩, (fun h => absurd rfl h), (fun h => absurd rfl h), (fun k h => by cases h; exact Proofs.Try.runUnderlying100), (fun h => by cases h), (fun h => by cases h), ⟨Proofs.Try.t100, info_of Proofs.Try.type100, rfl, rfl, rfl⟩, (fun h => absurd rfl h), (fun _ => rfl), by decide⟩
def tys : List (Nat × TI) := [(2, ti2), (3, ti3), (4, ti4), (5, ti5), (9, ti9), (22, ti22), (23, ti23), (24, ti24), (26, ti26), (27, ti27), (29, ti29), (31, ti31), (45, ti45), (50, ti50), (61, ti61), (75, ti75), (79, ti79), (80, ti80), (88, ti88), (97, ti97), (99, ti99), (100, ti100)]
def Amb : World → Prop := fun _ => True
theorem amb_stable : ∀ w w', Amb w → Ext (fun _ => False) w w' → Amb w' := fun _ _ _ _ => trivial
noncomputable abbrev prog := Proofs.Try.prog
abbrev Call := CallIn prog Amb
theorem env_ok : EnvOK prog Amb ⟨fun _ => tys, Call⟩ := env_of fun t ti h => by
  have h := tys_ok _ _ _ h
  simp only [tys, List.mem_cons, List.not_mem_nil, or_false, Prod.mk.injEq] at h
  rcases h with ⟨rfl, rfl⟩ | ⟨rfl, rfl⟩ | ⟨rfl, rfl⟩ | ⟨rfl, rfl⟩ | ⟨rfl, rfl⟩ | ⟨rfl, rfl⟩ | ⟨rfl, rfl⟩ | ⟨rfl, rfl⟩ | ⟨rfl, rfl⟩ | ⟨rfl, rfl⟩ | ⟨rfl, rfl⟩ | ⟨rfl, rfl⟩ | ⟨rfl, rfl⟩ | ⟨rfl, rfl⟩ | ⟨rfl, rfl⟩ | ⟨rfl, rfl⟩ | ⟨rfl, rfl⟩ | ⟨rfl, rfl⟩ | ⟨rfl, rfl⟩ | ⟨rfl, rfl⟩ | ⟨rfl, rfl⟩ | ⟨rfl, rfl⟩
  · exact ty2
  · exact ty3
  · exact ty4
  · exact ty5
  · exact ty9
  · exact ty22
  · exact ty23
  · exact ty24
  · exact ty26
  · exact ty27
  · exact ty29
  · exact ty31
  · exact ty45
  · exact ty50
  · exact ty61
  · exact ty75
  · exact ty79
  · exact ty80
  · exact ty88
  · exact ty97
  · exact ty99
  · exact ty100
theorem call_of {f : FuncId} {fn : Func} {args : List PV} {y : PV} (hP : prog.funcs[f]? = some fn) (hc : ∀ vs w, (callFunc f vs).run prog w = .ok (.enter f vs) w) (hb : fn.body.isSome = true) (hn : Nat.ble args.length fn.ntmps = true)
    (h : ∀ M C, M = Real → C = Call → vc M ⟨fun _ => tys, C⟩ fn.ntmps (fn.body.getD .skip) (Done ⟨fun _ => tys, C⟩ fn.results.toList y) ⟨argsW 0 args, 0⟩) : Call .plain f args y :=
  callIn_of env_ok (by rfl) amb_stable hP hc hb (ble_iff.1 hn) h
theorem fresh_of {f : FuncId} {fn : Func} {args : List PV} {el es : Nat} {xs : List (List PV)} (hP : prog.funcs[f]? = some fn) (hc : ∀ vs w, (callFunc f vs).run prog w = .ok (.enter f vs) w) (hb : fn.body.isSome = true) (hn : Nat.ble args.length fn.ntmps = true)
    (h : ∀ M C, M = Real → C = Call → vc M ⟨fun _ => tys, C⟩ fn.ntmps (fn.body.getD .skip) (DoneF ⟨fun _ => tys, C⟩ fn.results.toList el es xs) ⟨argsW 0 args, 0⟩) : Call .fresh f args (.arr 0 el es xs) :=
  freshIn_of env_ok (by rfl) amb_stable hP hc hb (ble_iff.1 hn) h
theorem val_of {f : FuncId} {fn : Func} {pre args : List PV} {el es : Nat} {xs xs' : List (List PV)} {y : PV} (hP : prog.funcs[f]? = some fn) (hc : ∀ vs w, (callFunc f vs).run prog w = .ok (.enter f vs) w) (hb : fn.body.isSome = true) (hn : Nat.ble (pre.length + args.length + 1) fn.ntmps = true)
    (h : ∀ M C, M = Real → C = Call → vc M ⟨fun _ => tys, C⟩ fn.ntmps (fn.body.getD .skip) (DoneM ⟨fun _ => tys, C⟩ fn.results.toList el es xs' y) ⟨handW el es xs pre args, 1⟩) : Call .val f [.tup pre, .arr 0 el es xs, .tup args] (.tup [.arr 0 el es xs', y]) :=
  valIn_of env_ok (by rfl) hP hc hb (ble_iff.1 hn) h
end Go.Pi
