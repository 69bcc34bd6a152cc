import Derived.Shelf.SlIterI.Nil
import Derived.Shelf.SlLaysM
import Derived.Test.YtaalpiacinifkaaGreatDoorProg
import Derived.KernelRfl
/- Part of the proof that ForwardNone of law 21 returns true whatever it is called with. No condition. -/
set_option linter.all false
/- The library's sort and its map keys at this program: where its functions and types lie. -/
namespace Go.Proofs
open Go.Shelf
def Tryz.keysB_ren : Ren :=
{
  f := fun x =>
    match x with
    | 7 => 263
    | 10 => 298
    | n => n,
  t := fun x =>
    match x with
    | 23 => 253
    | 26 => 3
    | 3 => 9
    | 28 => 304
    | 0 => 0
    | 27 => 303
    | 33 => 307
    | 4 => 4
    | n => n,
  g := fun x =>
    have n := x;
    n }

def Tryz.sortedA_ren : Ren :=
{
  f := fun x =>
    match x with
    | 6 => 222
    | 8 => 277
    | 9 => 278
    | 11 => 307
    | 13 => 96
    | 12 => 308
    | 23 => 171
    | 24 => 172
    | 14 => 329
    | 15 => 330
    | 16 => 331
    | 17 => 332
    | 18 => 333
    | 19 => 334
    | 20 => 335
    | 21 => 336
    | 22 => 337
    | 25 => 344
    | 26 => 242
    | 27 => 243
    | 28 => 345
    | 29 => 346
    | 30 => 225
    | 31 => 351
    | n => n,
  t := fun x =>
    match x with
    | 26 => 3
    | 28 => 304
    | 24 => 77
    | 0 => 0
    | 3 => 3
    | 37 => 159
    | 48 => 248
    | 50 => 250
    | 4 => 4
    | 40 => 242
    | 39 => 241
    | 45 => 150
    | 5 => 5
    | 9 => 9
    | 51 => 324
    | 55 => 328
    | 57 => 371
    | 58 => 372
    | 33 => 307
    | n => n,
  g := fun x =>
    have n := x;
    n }

def Tryz.keysA_ren : Ren :=
{
  f := fun x =>
    match x with
    | 7 => 223
    | 10 => 279
    | n => n,
  t := fun x =>
    match x with
    | 23 => 197
    | 26 => 3
    | 3 => 196
    | 28 => 304
    | 0 => 0
    | 27 => 303
    | 33 => 307
    | 4 => 4
    | n => n,
  g := fun x =>
    have n := x;
    n }

def Tryz.sortA_ren : Ren :=
{
  f := fun x =>
    match x with
    | 5 => 278
    | 8 => 96
    | 7 => 308
    | 19 => 171
    | 20 => 172
    | 10 => 329
    | 11 => 330
    | 12 => 331
    | 13 => 332
    | 14 => 333
    | 15 => 334
    | 16 => 335
    | 17 => 336
    | 18 => 337
    | 30 => 344
    | 31 => 242
    | 32 => 243
    | 33 => 345
    | 34 => 346
    | 35 => 225
    | 40 => 351
    | n => n,
  t := fun x =>
    match x with
    | 23 => 77
    | 25 => 3
    | 3 => 3
    | 32 => 159
    | 22 => 77
    | 0 => 0
    | 44 => 248
    | 46 => 250
    | 4 => 4
    | 36 => 242
    | 35 => 241
    | 41 => 150
    | 5 => 5
    | 9 => 9
    | 53 => 324
    | 57 => 328
    | 63 => 371
    | 64 => 372
    | n => n,
  g := fun x =>
    have n := x;
    n }

theorem Tryz.sortedA : SlLaysZI.n6 Tryz.prog Tryz.sortedA_ren where
  mixed := by kernel_rfl
  f6 := ⟨Tryz.f222.name, by kernel_rfl, by kernel_rfl⟩
  f8 := ⟨Tryz.f277.name, by kernel_rfl, by kernel_rfl⟩
  f11 := ⟨Tryz.f307.name, by kernel_rfl, by kernel_rfl⟩
  t0 := Tryz.underlying0
  a0 := Tryz.isAgg0
  z0 := Tryz.sizeOf0
  v0 := Tryz.zeroValue0
  t24 := Tryz.underlying77
  a24 := Tryz.isAgg77
  z24 := Tryz.sizeOf77
  v24 := Tryz.zeroValue77
  t26 := Tryz.underlying3
  a26 := Tryz.isAgg3
  z26 := Tryz.sizeOf3
  v26 := Tryz.zeroValue3
  t28 := Tryz.underlying304
  a28 := Tryz.isAgg304
  z28 := Tryz.sizeOf304
  v28 := Tryz.zeroValue304
  i26 := by kernel_rfl

theorem Tryz.keysA : SlLaysZI.n7 Tryz.prog Tryz.keysA_ren where
  mixed := by kernel_rfl
  f7 := ⟨Tryz.f223.name, by kernel_rfl, by kernel_rfl⟩
  f10 := ⟨Tryz.f279.name, by kernel_rfl, by kernel_rfl⟩
  t0 := Tryz.underlying0
  a0 := Tryz.isAgg0
  z0 := Tryz.sizeOf0
  v0 := Tryz.zeroValue0
  t4 := Tryz.underlying4
  a4 := Tryz.isAgg4
  z4 := Tryz.sizeOf4
  v4 := Tryz.zeroValue4
  t23 := Tryz.underlying197
  a23 := Tryz.isAgg197
  z23 := Tryz.sizeOf197
  v23 := Tryz.zeroValue197
  t26 := Tryz.underlying3
  a26 := Tryz.isAgg3
  z26 := Tryz.sizeOf3
  v26 := Tryz.zeroValue3
  t27 := Tryz.underlying303
  a27 := Tryz.isAgg303
  z27 := Tryz.sizeOf303
  v27 := Tryz.zeroValue303
  t28 := Tryz.underlying304
  a28 := Tryz.isAgg304
  z28 := Tryz.sizeOf304
  v28 := Tryz.zeroValue304
  t33 := Tryz.underlying307
  a33 := Tryz.isAgg307
  z33 := Tryz.sizeOf307
  v33 := Tryz.zeroValue307

theorem Tryz.keysB : SlLaysZI.n7 Tryz.prog Tryz.keysB_ren where
  mixed := by kernel_rfl
  f7 := ⟨Tryz.f263.name, by kernel_rfl, by kernel_rfl⟩
  f10 := ⟨Tryz.f298.name, by kernel_rfl, by kernel_rfl⟩
  t0 := Tryz.underlying0
  a0 := Tryz.isAgg0
  z0 := Tryz.sizeOf0
  v0 := Tryz.zeroValue0
  t4 := Tryz.underlying4
  a4 := Tryz.isAgg4
  z4 := Tryz.sizeOf4
  v4 := Tryz.zeroValue4
  t23 := Tryz.underlying253
  a23 := Tryz.isAgg253
  z23 := Tryz.sizeOf253
  v23 := Tryz.zeroValue253
  t26 := Tryz.underlying3
  a26 := Tryz.isAgg3
  z26 := Tryz.sizeOf3
  v26 := Tryz.zeroValue3
  t27 := Tryz.underlying303
  a27 := Tryz.isAgg303
  z27 := Tryz.sizeOf303
  v27 := Tryz.zeroValue303
  t28 := Tryz.underlying304
  a28 := Tryz.isAgg304
  z28 := Tryz.sizeOf304
  v28 := Tryz.zeroValue304
  t33 := Tryz.underlying307
  a33 := Tryz.isAgg307
  z33 := Tryz.sizeOf307
  v33 := Tryz.zeroValue307

theorem Tryz.sortA : SlLaysM.n5 Tryz.prog Tryz.sortA_ren where
  mixed := by kernel_rfl
  f5 := ⟨Tryz.f278.name, by kernel_rfl, by kernel_rfl⟩
  f7 := ⟨Tryz.f308.name, by kernel_rfl, by kernel_rfl⟩
  f8 := by kernel_rfl
  f10 := ⟨Tryz.f329.name, by kernel_rfl, by kernel_rfl⟩
  f11 := ⟨Tryz.f330.name, by kernel_rfl, by kernel_rfl⟩
  f12 := ⟨Tryz.f331.name, by kernel_rfl, by kernel_rfl⟩
  f13 := ⟨Tryz.f332.name, by kernel_rfl, by kernel_rfl⟩
  f14 := ⟨Tryz.f333.name, by kernel_rfl, by kernel_rfl⟩
  f15 := ⟨Tryz.f334.name, by kernel_rfl, by kernel_rfl⟩
  f16 := ⟨Tryz.f335.name, by kernel_rfl, by kernel_rfl⟩
  f17 := ⟨Tryz.f336.name, by kernel_rfl, by kernel_rfl⟩
  f18 := ⟨Tryz.f337.name, by kernel_rfl, by kernel_rfl⟩
  f19 := by kernel_rfl
  f20 := by kernel_rfl
  f30 := ⟨Tryz.f344.name, by kernel_rfl, by kernel_rfl⟩
  f31 := by kernel_rfl
  f32 := by kernel_rfl
  f33 := ⟨Tryz.f345.name, by kernel_rfl, by kernel_rfl⟩
  f34 := ⟨Tryz.f346.name, by kernel_rfl, by kernel_rfl⟩
  f35 := ⟨Tryz.f225.name, by kernel_rfl, by kernel_rfl⟩
  f40 := ⟨Tryz.f351.name, by kernel_rfl, by kernel_rfl⟩
  t0 := Tryz.underlying0
  a0 := Tryz.isAgg0
  z0 := Tryz.sizeOf0
  v0 := Tryz.zeroValue0
  t3 := Tryz.underlying3
  a3 := Tryz.isAgg3
  z3 := Tryz.sizeOf3
  v3 := Tryz.zeroValue3
  t4 := Tryz.underlying4
  a4 := Tryz.isAgg4
  z4 := Tryz.sizeOf4
  v4 := Tryz.zeroValue4
  t5 := Tryz.underlying5
  a5 := Tryz.isAgg5
  z5 := Tryz.sizeOf5
  v5 := Tryz.zeroValue5
  t9 := Tryz.underlying9
  a9 := Tryz.isAgg9
  z9 := Tryz.sizeOf9
  v9 := Tryz.zeroValue9
  t22 := Tryz.underlying77
  a22 := Tryz.isAgg77
  z22 := Tryz.sizeOf77
  v22 := Tryz.zeroValue77
  t23 := Tryz.underlying77
  a23 := Tryz.isAgg77
  z23 := Tryz.sizeOf77
  v23 := Tryz.zeroValue77
  t25 := Tryz.underlying3
  a25 := Tryz.isAgg3
  z25 := Tryz.sizeOf3
  v25 := Tryz.zeroValue3
  t32 := Tryz.underlying159
  a32 := Tryz.isAgg159
  z32 := Tryz.sizeOf159
  v32 := Tryz.zeroValue159
  t35 := Tryz.underlying241
  a35 := Tryz.isAgg241
  z35 := Tryz.sizeOf241
  v35 := Tryz.zeroValue241
  t36 := Tryz.underlying242
  a36 := Tryz.isAgg242
  z36 := Tryz.sizeOf242
  v36 := Tryz.zeroValue242
  t41 := Tryz.underlying150
  a41 := Tryz.isAgg150
  z41 := Tryz.sizeOf150
  v41 := Tryz.zeroValue150
  t44 := Tryz.underlying248
  a44 := Tryz.isAgg248
  z44 := Tryz.sizeOf248
  v44 := Tryz.zeroValue248
  t46 := Tryz.underlying250
  a46 := Tryz.isAgg250
  z46 := Tryz.sizeOf250
  v46 := Tryz.zeroValue250
  t53 := Tryz.underlying324
  a53 := Tryz.isAgg324
  z53 := Tryz.sizeOf324
  v53 := Tryz.zeroValue324
  t57 := Tryz.underlying328
  a57 := Tryz.isAgg328
  z57 := Tryz.sizeOf328
  v57 := Tryz.zeroValue328
  t63 := Tryz.underlying371
  a63 := Tryz.isAgg371
  z63 := Tryz.sizeOf371
  v63 := Tryz.zeroValue371
  t64 := Tryz.underlying372
  a64 := Tryz.isAgg372
  z64 := Tryz.sizeOf372
  v64 := Tryz.zeroValue372
end Go.Proofs
