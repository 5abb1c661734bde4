/- The seat's types, as the evaluator reads them. -/
import Derived.Test.YtlgoiaembdlemaaGreatPic
import Derived.Test.YtlgoiaembdlemaaGreatProg
set_option linter.unusedSimpArgs false
set_option linter.unusedVariables false
namespace Go.Pi
open Go
def ti2 : TI := ⟨1, false, 8, Value.int IntKind.i64 0, 0, [], some .i64, false, false⟩
theorem ty2 : TyOK Proofs.Tryz.prog 2 ti2 := ⟨Proofs.Tryz.sizeOf2, Proofs.Tryz.isAgg2, Proofs.Tryz.zeroValue2, rfl, fun w => ⟨_, Proofs.Tryz.typeInfo2 w, rfl⟩, (fun h => absurd rfl h), (fun h => absurd rfl h), (fun k h => by cases h; exact Proofs.Tryz.runUnderlying2), (fun h => by cases h), (fun h => by cases h), ⟨Proofs.Tryz.t2, info_of Proofs.Tryz.type2, rfl, rfl, rfl⟩, (fun h => absurd rfl h), (fun _ => rfl), by decide⟩
def ti3 : TI := ⟨1, false, 8, Value.int IntKind.i64 0, 0, [], some .i64, false, false⟩
theorem ty3 : TyOK Proofs.Tryz.prog 3 ti3 := ⟨Proofs.Tryz.sizeOf3, Proofs.Tryz.isAgg3, Proofs.Tryz.zeroValue3, rfl, fun w => ⟨_, Proofs.Tryz.typeInfo3 w, rfl⟩, (fun h => absurd rfl h), (fun h => absurd rfl h), (fun k h => by cases h; exact Proofs.Tryz.runUnderlying3), (fun h => by cases h), (fun h => by cases h), ⟨Proofs.Tryz.t3, info_of Proofs.Tryz.type3, rfl, rfl, rfl⟩, (fun h => absurd rfl h), (fun _ => rfl), by decide⟩
def ti4 : TI := ⟨1, false, 1, Value.bool false, 0, [], none, false, true⟩
theorem ty4 : TyOK Proofs.Tryz.prog 4 ti4 := ⟨Proofs.Tryz.sizeOf4, Proofs.Tryz.isAgg4, Proofs.Tryz.zeroValue4, rfl, fun w => ⟨_, Proofs.Tryz.typeInfo4 w, rfl⟩, (fun h => absurd rfl h), (fun h => absurd rfl h), (fun k h => by cases h), (fun h => by cases h), (fun _ => Proofs.Tryz.runUnderlying4), ⟨Proofs.Tryz.t4, info_of Proofs.Tryz.type4, rfl, rfl, rfl⟩, (fun h => absurd rfl h), (fun _ => rfl), by decide⟩
def ti5 : TI := ⟨1, false, 1, Value.int IntKind.u8 0, 0, [], some .u8, false, false⟩
theorem ty5 : TyOK Proofs.Tryz.prog 5 ti5 := ⟨Proofs.Tryz.sizeOf5, Proofs.Tryz.isAgg5, Proofs.Tryz.zeroValue5, rfl, fun w => ⟨_, Proofs.Tryz.typeInfo5 w, rfl⟩, (fun h => absurd rfl h), (fun h => absurd rfl h), (fun k h => by cases h; exact Proofs.Tryz.runUnderlying5), (fun h => by cases h), (fun h => by cases h), ⟨Proofs.Tryz.t5, info_of Proofs.Tryz.type5, rfl, rfl, rfl⟩, (fun h => absurd rfl h), (fun _ => rfl), by decide⟩
def ti9 : TI := ⟨1, false, 16, Value.string { data := #[] }, 0, [], none, true, false⟩
theorem ty9 : TyOK Proofs.Tryz.prog 9 ti9 := ⟨Proofs.Tryz.sizeOf9, Proofs.Tryz.isAgg9, Proofs.Tryz.zeroValue9, rfl, fun w => ⟨_, Proofs.Tryz.typeInfo9 w, rfl⟩, (fun h => absurd rfl h), (fun h => absurd rfl h), (fun k h => by cases h), (fun _ => Proofs.Tryz.runUnderlying9), (fun h => by cases h), ⟨Proofs.Tryz.t9, info_of Proofs.Tryz.type9, rfl, rfl, rfl⟩, (fun h => absurd rfl h), (fun _ => rfl), by decide⟩
def ti22 : TI := ⟨1, false, 24, Value.slice none 0 0, 5, [], none, false, false⟩
theorem ty22 : TyOK Proofs.Tryz.prog 22 ti22 := ⟨Proofs.Tryz.sizeOf22, Proofs.Tryz.isAgg22, Proofs.Tryz.zeroValue22, rfl, fun w => ⟨_, Proofs.Tryz.typeInfo22 w, rfl⟩, (fun _ => Proofs.Tryz.runUnderlying22), (fun h => absurd rfl h), (fun k h => by cases h), (fun h => by cases h), (fun h => by cases h), ⟨Proofs.Tryz.t22, info_of Proofs.Tryz.type22, rfl, rfl, rfl⟩, (fun _ => Proofs.Tryz.underlying22), (fun _ => rfl), by decide⟩
def ti23 : TI := ⟨1, false, 24, Value.slice none 0 0, 55, [], none, false, false⟩
theorem ty23 : TyOK Proofs.Tryz.prog 23 ti23 := ⟨Proofs.Tryz.sizeOf23, Proofs.Tryz.isAgg23, Proofs.Tryz.zeroValue23, rfl, fun w => ⟨_, Proofs.Tryz.typeInfo23 w, rfl⟩, (fun _ => Proofs.Tryz.runUnderlying23), (fun h => absurd rfl h), (fun k h => by cases h), (fun h => by cases h), (fun h => by cases h), ⟨Proofs.Tryz.t23, info_of Proofs.Tryz.type23, rfl, rfl, rfl⟩, (fun _ => Proofs.Tryz.underlying23), (fun _ => rfl), by decide⟩
def ti24 : TI := ⟨1, false, 2, Value.int IntKind.i16 0, 0, [], some .i16, false, false⟩
theorem ty24 : TyOK Proofs.Tryz.prog 24 ti24 := ⟨Proofs.Tryz.sizeOf24, Proofs.Tryz.isAgg24, Proofs.Tryz.zeroValue24, rfl, fun w => ⟨_, Proofs.Tryz.typeInfo24 w, rfl⟩, (fun h => absurd rfl h), (fun h => absurd rfl h), (fun k h => by cases h; exact Proofs.Tryz.runUnderlying24), (fun h => by cases h), (fun h => by cases h), ⟨Proofs.Tryz.t24, info_of Proofs.Tryz.type24, rfl, rfl, rfl⟩, (fun h => absurd rfl h), (fun _ => rfl), by decide⟩
def ti26 : TI := ⟨6, true, 88, Value.agg #[Value.int IntKind.u8 0, Value.slice none 0 0, Value.slice none 0 0, Value.slice none 0 0, Value.int IntKind.i16 0, Value.int IntKind.u8 0], 0, [(5, 0), (22, 1), (22, 2), (23, 3), (24, 4), (5, 5)], none, false, false⟩
theorem ty26 : TyOK Proofs.Tryz.prog 26 ti26 := ⟨Proofs.Tryz.sizeOf26, Proofs.Tryz.isAgg26, Proofs.Tryz.zeroValue26, rfl, fun w => ⟨_, Proofs.Tryz.typeInfo26 w, rfl⟩, (fun h => absurd rfl h), (fun _ => ⟨_, Proofs.Tryz.runUnderlying26, rfl, by intro f hf; simp only [List.mem_cons, List.not_mem_nil, or_false] at hf; rcases hf with rfl | rfl | rfl | rfl | rfl | rfl; exact info_some Proofs.Tryz.type5; exact info_some Proofs.Tryz.type22; exact info_some Proofs.Tryz.type22; exact info_some Proofs.Tryz.type23; exact info_some Proofs.Tryz.type24; exact info_some Proofs.Tryz.type5⟩), (fun k h => by cases h), (fun h => by cases h), (fun h => by cases h), ⟨Proofs.Tryz.t26, info_of Proofs.Tryz.type26, rfl, rfl, rfl⟩, (fun h => absurd rfl h), (fun h => by cases h), by decide⟩
def ti27 : TI := ⟨1, false, 24, Value.slice none 0 0, 3, [], none, false, false⟩
theorem ty27 : TyOK Proofs.Tryz.prog 27 ti27 := ⟨Proofs.Tryz.sizeOf27, Proofs.Tryz.isAgg27, Proofs.Tryz.zeroValue27, rfl, fun w => ⟨_, Proofs.Tryz.typeInfo27 w, rfl⟩, (fun _ => Proofs.Tryz.runUnderlying27), (fun h => absurd rfl h), (fun k h => by cases h), (fun h => by cases h), (fun h => by cases h), ⟨Proofs.Tryz.t27, info_of Proofs.Tryz.type27, rfl, rfl, rfl⟩, (fun _ => Proofs.Tryz.underlying27), (fun _ => rfl), by decide⟩
def ti28 : TI := ⟨1, false, 24, Value.slice none 0 0, 27, [], none, false, false⟩
theorem ty28 : TyOK Proofs.Tryz.prog 28 ti28 := ⟨Proofs.Tryz.sizeOf28, Proofs.Tryz.isAgg28, Proofs.Tryz.zeroValue28, rfl, fun w => ⟨_, Proofs.Tryz.typeInfo28 w, rfl⟩, (fun _ => Proofs.Tryz.runUnderlying28), (fun h => absurd rfl h), (fun k h => by cases h), (fun h => by cases h), (fun h => by cases h), ⟨Proofs.Tryz.t28, info_of Proofs.Tryz.type28, rfl, rfl, rfl⟩, (fun _ => Proofs.Tryz.underlying28), (fun _ => rfl), by decide⟩
def ti30 : TI := ⟨8, true, 160, Value.agg #[Value.int IntKind.i64 0, Value.slice none 0 0, Value.slice none 0 0, Value.slice none 0 0, Value.slice none 0 0, Value.slice none 0 0, Value.int IntKind.i64 0, Value.slice none 0 0], 0, [(3, 0), (27, 1), (27, 2), (27, 3), (27, 4), (27, 5), (3, 6), (28, 7)], none, false, false⟩
theorem ty30 : TyOK Proofs.Tryz.prog 30 ti30 := ⟨Proofs.Tryz.sizeOf30, Proofs.Tryz.isAgg30, Proofs.Tryz.zeroValue30, rfl, fun w => ⟨_, Proofs.Tryz.typeInfo30 w, rfl⟩, (fun h => absurd rfl h), (fun _ => ⟨_, Proofs.Tryz.runUnderlying30, rfl, by intro f hf; simp only [List.mem_cons, List.not_mem_nil, or_false] at hf; rcases hf with rfl | rfl | rfl | rfl | rfl | rfl | rfl | rfl; exact info_some Proofs.Tryz.type3; exact info_some Proofs.Tryz.type27; exact info_some Proofs.Tryz.type27; exact info_some Proofs.Tryz.type27; exact info_some Proofs.Tryz.type27; exact info_some Proofs.Tryz.type27; exact info_some Proofs.Tryz.type3; exact info_some Proofs.Tryz.type28⟩), (fun k h => by cases h), (fun h => by cases h), (fun h => by cases h), ⟨Proofs.Tryz.t30, info_of Proofs.Tryz.type30, rfl, rfl, rfl⟩, (fun h => absurd rfl h), (fun h => by cases h), by decide⟩
def ti33 : TI := ⟨1, false, 24, Value.slice none 0 0, 30, [], none, false, false⟩
theorem ty33 : TyOK Proofs.Tryz.prog 33 ti33 := ⟨Proofs.Tryz.sizeOf33, Proofs.Tryz.isAgg33, Proofs.Tryz.zeroValue33, rfl, fun w => ⟨_, Proofs.Tryz.typeInfo33 w, rfl⟩, (fun _ => Proofs.Tryz.runUnderlying33), (fun h => absurd rfl h), (fun k h => by cases h), (fun h => by cases h), (fun h => by cases h), ⟨Proofs.Tryz.t33, info_of Proofs.Tryz.type33, rfl, rfl, rfl⟩, (fun _ => Proofs.Tryz.underlying33), (fun _ => rfl), by decide⟩
def ti38 : TI := ⟨1, false, 24, Value.slice none 0 0, 9, [], none, false, false⟩
theorem ty38 : TyOK Proofs.Tryz.prog 38 ti38 := ⟨Proofs.Tryz.sizeOf38, Proofs.Tryz.isAgg38, Proofs.Tryz.zeroValue38, rfl, fun w => ⟨_, Proofs.Tryz.typeInfo38 w, rfl⟩, (fun _ => Proofs.Tryz.runUnderlying38), (fun h => absurd rfl h), (fun k h => by cases h), (fun h => by cases h), (fun h => by cases h), ⟨Proofs.Tryz.t38, info_of Proofs.Tryz.type38, rfl, rfl, rfl⟩, (fun _ => Proofs.Tryz.underlying38), (fun _ => rfl), by decide⟩
def ti43 : TI := ⟨1, false, 8, Value.int IntKind.i64 0, 0, [], some .i64, false, false⟩
theorem ty43 : TyOK Proofs.Tryz.prog 43 ti43 := ⟨Proofs.Tryz.sizeOf43, Proofs.Tryz.isAgg43, Proofs.Tryz.zeroValue43, rfl, fun w => ⟨_, Proofs.Tryz.typeInfo43 w, rfl⟩, (fun h => absurd rfl h), (fun h => absurd rfl h), (fun k h => by cases h; exact Proofs.Tryz.runUnderlying43), (fun h => by cases h), (fun h => by cases h), ⟨Proofs.Tryz.t43, info_of Proofs.Tryz.type43, rfl, rfl, rfl⟩, (fun h => absurd rfl h), (fun _ => rfl), by decide⟩
def ti55 : TI := ⟨1, false, 1, Value.int IntKind.i8 0, 0, [], some .i8, false, false⟩
theorem ty55 : TyOK Proofs.Tryz.prog 55 ti55 := ⟨Proofs.Tryz.sizeOf55, Proofs.Tryz.isAgg55, Proofs.Tryz.zeroValue55, rfl, fun w => ⟨_, Proofs.Tryz.typeInfo55 w, rfl⟩, (fun h => absurd rfl h), (fun h => absurd rfl h), (fun k h => by cases h; exact Proofs.Tryz.runUnderlying55), (fun h => by cases h), (fun h => by cases h), ⟨Proofs.Tryz.t55, info_of Proofs.Tryz.type55, rfl, rfl, rfl⟩, (fun h => absurd rfl h), (fun _ => rfl), by decide⟩
def ti74 : TI := ⟨2, true, 32, Value.agg #[Value.string { data := #[] }, Value.string { data := #[] }], 0, [(9, 0), (9, 1)], none, false, false⟩
theorem ty74 : TyOK Proofs.Tryz.prog 74 ti74 := ⟨Proofs.Tryz.sizeOf74, Proofs.Tryz.isAgg74, Proofs.Tryz.zeroValue74, rfl, fun w => ⟨_, Proofs.Tryz.typeInfo74 w, rfl⟩, (fun h => absurd rfl h), (fun _ => ⟨_, Proofs.Tryz.runUnderlying74, rfl, by intro f hf; simp only [List.mem_cons, List.not_mem_nil, or_false] at hf; rcases hf with rfl | rfl; exact info_some Proofs.Tryz.type9; exact info_some Proofs.Tryz.type9⟩), (fun k h => by cases h), (fun h => by cases h), (fun h => by cases h), ⟨Proofs.Tryz.t74, info_of Proofs.Tryz.type74, rfl, rfl, rfl⟩, (fun h => absurd rfl h), (fun h => by cases h), by decide⟩
def ti75 : TI := ⟨1, false, 24, Value.slice none 0 0, 74, [], none, false, false⟩
theorem ty75 : TyOK Proofs.Tryz.prog 75 ti75 := ⟨Proofs.Tryz.sizeOf75, Proofs.Tryz.isAgg75, Proofs.Tryz.zeroValue75, rfl, fun w => ⟨_, Proofs.Tryz.typeInfo75 w, rfl⟩, (fun _ => Proofs.Tryz.runUnderlying75), (fun h => absurd rfl h), (fun k h => by cases h), (fun h => by cases h), (fun h => by cases h), ⟨Proofs.Tryz.t75, info_of Proofs.Tryz.type75, rfl, rfl, rfl⟩, (fun _ => Proofs.Tryz.underlying75), (fun _ => rfl), by decide⟩
def ti86 : TI := ⟨1, false, 24, Value.slice none 0 0, 4, [], none, false, false⟩
theorem ty86 : TyOK Proofs.Tryz.prog 86 ti86 := ⟨Proofs.Tryz.sizeOf86, Proofs.Tryz.isAgg86, Proofs.Tryz.zeroValue86, rfl, fun w => ⟨_, Proofs.Tryz.typeInfo86 w, rfl⟩, (fun _ => Proofs.Tryz.runUnderlying86), (fun h => absurd rfl h), (fun k h => by cases h), (fun h => by cases h), (fun h => by cases h), ⟨Proofs.Tryz.t86, info_of Proofs.Tryz.type86, rfl, rfl, rfl⟩, (fun _ => Proofs.Tryz.underlying86), (fun _ => rfl), by decide⟩
def ti90 : TI := ⟨1, false, 8, Value.int IntKind.u64 0, 0, [], some .u64, false, false⟩
theorem ty90 : TyOK Proofs.Tryz.prog 90 ti90 := ⟨Proofs.Tryz.sizeOf90, Proofs.Tryz.isAgg90, Proofs.Tryz.zeroValue90, rfl, fun w => ⟨_, Proofs.Tryz.typeInfo90 w, rfl⟩, (fun h => absurd rfl h), (fun h => absurd rfl h), (fun k h => by cases h; exact Proofs.Tryz.runUnderlying90), (fun h => by cases h), (fun h => by cases h), ⟨Proofs.Tryz.t90, info_of Proofs.Tryz.type90, rfl, rfl, rfl⟩, (fun h => absurd rfl h), (fun _ => rfl), by decide⟩
def ti91 : TI := ⟨1, false, 8, Value.int IntKind.u64 0, 0, [], some .u64, false, false⟩
theorem ty91 : TyOK Proofs.Tryz.prog 91 ti91 := ⟨Proofs.Tryz.sizeOf91, Proofs.Tryz.isAgg91, Proofs.Tryz.zeroValue91, rfl, fun w => ⟨_, Proofs.Tryz.typeInfo91 w, rfl⟩, (fun h => absurd rfl h), (fun h => absurd rfl h), (fun k h => by cases h; exact Proofs.Tryz.runUnderlying91), (fun h => by cases h), (fun h => by cases h), ⟨Proofs.Tryz.t91, info_of Proofs.Tryz.type91, rfl, rfl, rfl⟩, (fun h => absurd rfl h), (fun _ => rfl), by decide⟩
def ti96 : TI := ⟨1, false, 8, Value.int IntKind.i64 0, 0, [], some .i64, false, false⟩
theorem ty96 : TyOK Proofs.Tryz.prog 96 ti96 := ⟨Proofs.Tryz.sizeOf96, Proofs.Tryz.isAgg96, Proofs.Tryz.zeroValue96, rfl, fun w => ⟨_, Proofs.Tryz.typeInfo96 w, rfl⟩, (fun h => absurd rfl h), (fun h => absurd rfl h), (fun k h => by cases h; exact Proofs.Tryz.runUnderlying96), (fun h => by cases h), (fun h => by cases h), ⟨Proofs.Tryz.t96, info_of Proofs.Tryz.type96, rfl, rfl, rfl⟩, (fun h => absurd rfl h), (fun _ => rfl), by decide⟩
def ti103 : TI := ⟨1, false, 4, Value.int IntKind.u32 0, 0, [], some .u32, false, false⟩
theorem ty103 : TyOK Proofs.Tryz.prog 103 ti103 := ⟨Proofs.Tryz.sizeOf103, Proofs.Tryz.isAgg103, Proofs.Tryz.zeroValue103, rfl, fun w => ⟨_, Proofs.Tryz.typeInfo103 w, rfl⟩, (fun h => absurd rfl h), (fun h => absurd rfl h), (fun k h => by cases h; exact Proofs.Tryz.runUnderlying103), (fun h => by cases h), (fun h => by cases h), ⟨Proofs.Tryz.t103, info_of Proofs.Tryz.type103, rfl, rfl, rfl⟩, (fun h => absurd rfl h), (fun _ => rfl), by decide⟩
def ti107 : TI := ⟨1, false, 8, Value.int IntKind.u64 0, 0, [], some .u64, false, false⟩
theorem ty107 : TyOK Proofs.Tryz.prog 107 ti107 := ⟨Proofs.Tryz.sizeOf107, Proofs.Tryz.isAgg107, Proofs.Tryz.zeroValue107, rfl, fun w => ⟨_, Proofs.Tryz.typeInfo107 w, rfl⟩, (fun h => absurd rfl h), (fun h => absurd rfl h), (fun k h => by cases h; exact Proofs.Tryz.runUnderlying107), (fun h => by cases h), (fun h => by cases h), ⟨Proofs.Tryz.t107, info_of Proofs.Tryz.type107, rfl, rfl, rfl⟩, (fun h => absurd rfl h), (fun _ => rfl), by decide⟩
def tys : List (Nat × TI) := [(2, ti2), (3, ti3), (4, ti4), (5, ti5), (9, ti9), (22, ti22), (23, ti23), (24, ti24), (26, ti26), (27, ti27), (28, ti28), (30, ti30), (33, ti33), (38, ti38), (43, ti43), (55, ti55), (74, ti74), (75, ti75), (86, ti86), (90, ti90), (91, ti91), (96, ti96), (103, ti103), (107, ti107)]
def Amb : World → Prop := fun _ => True
theorem amb_stable : ∀ w w', Amb w → Ext (fun _ => False) w w' → Amb w' := fun _ _ _ _ => trivial
noncomputable abbrev prog := Proofs.Tryz.prog
abbrev Call := CallIn prog Amb
theorem env_ok : EnvOK prog Amb ⟨fun _ => tys, Call⟩ := env_of fun t ti h => by
  have h := tys_ok _ _ _ h
  simp only [tys, List.mem_cons, List.not_mem_nil, or_false, Prod.mk.injEq] at h
  rcases h with ⟨rfl, rfl⟩ | ⟨rfl, rfl⟩ | ⟨rfl, rfl⟩ | ⟨rfl, rfl⟩ | ⟨rfl, rfl⟩ | ⟨rfl, rfl⟩ | ⟨rfl, rfl⟩ | ⟨rfl, rfl⟩ | ⟨rfl, rfl⟩ | ⟨rfl, rfl⟩ | ⟨rfl, rfl⟩ | ⟨rfl, rfl⟩ | ⟨rfl, rfl⟩ | ⟨rfl, rfl⟩ | ⟨rfl, rfl⟩ | ⟨rfl, rfl⟩ | ⟨rfl, rfl⟩ | ⟨rfl, rfl⟩ | ⟨rfl, rfl⟩ | ⟨rfl, rfl⟩ | ⟨rfl, rfl⟩ | ⟨rfl, rfl⟩ | ⟨rfl, rfl⟩ | ⟨rfl, rfl⟩
  · exact ty2
  · exact ty3
  · exact ty4
  · exact ty5
  · exact ty9
  · exact ty22
  · exact ty23
  · exact ty24
  · exact ty26
  · exact ty27
  · exact ty28
  · exact ty30
  · exact ty33
  · exact ty38
  · exact ty43
  · exact ty55
  · exact ty74
  · exact ty75
  · exact ty86
  · exact ty90
  · exact ty91
  · exact ty96
  · exact ty103
  · exact ty107
theorem call_of {f : FuncId} {fn : Func} {args : List PV} {y : PV} (hP : prog.funcs[f]? = some fn) (hc : ∀ vs w, (callFunc f vs).run prog w = .ok (.enter f vs) w) (hb : fn.body.isSome = true) (hn : Nat.ble args.length fn.ntmps = true)
    (h : ∀ M C, M = Real → C = Call → vc M ⟨fun _ => tys, C⟩ fn.ntmps (fn.body.getD .skip) (Done ⟨fun _ => tys, C⟩ fn.results.toList y) ⟨argsW 0 args, 0⟩) : Call .plain f args y :=
  callIn_of env_ok (by rfl) amb_stable hP hc hb (ble_iff.1 hn) h
theorem fresh_of {f : FuncId} {fn : Func} {args : List PV} {el es : Nat} {xs : List (List PV)} (hP : prog.funcs[f]? = some fn) (hc : ∀ vs w, (callFunc f vs).run prog w = .ok (.enter f vs) w) (hb : fn.body.isSome = true) (hn : Nat.ble args.length fn.ntmps = true)
    (h : ∀ M C, M = Real → C = Call → vc M ⟨fun _ => tys, C⟩ fn.ntmps (fn.body.getD .skip) (DoneF ⟨fun _ => tys, C⟩ fn.results.toList el es xs) ⟨argsW 0 args, 0⟩) : Call .fresh f args (.arr 0 el es xs) :=
  freshIn_of env_ok (by rfl) amb_stable hP hc hb (ble_iff.1 hn) h
theorem val_of {f : FuncId} {fn : Func} {pre args : List PV} {el es : Nat} {xs xs' : List (List PV)} {y : PV} (hP : prog.funcs[f]? = some fn) (hc : ∀ vs w, (callFunc f vs).run prog w = .ok (.enter f vs) w) (hb : fn.body.isSome = true) (hn : Nat.ble (pre.length + args.length + 1) fn.ntmps = true)
    (h : ∀ M C, M = Real → C = Call → vc M ⟨fun _ => tys, C⟩ fn.ntmps (fn.body.getD .skip) (DoneM ⟨fun _ => tys, C⟩ fn.results.toList el es xs' y) ⟨handW el es xs pre args, 1⟩) : Call .val f [.tup pre, .arr 0 el es xs, .tup args] (.tup [.arr 0 el es xs', y]) :=
  valIn_of env_ok (by rfl) hP hc hb (ble_iff.1 hn) h
end Go.Pi
