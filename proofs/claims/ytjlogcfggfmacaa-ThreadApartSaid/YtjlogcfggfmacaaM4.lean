/- Own texts, merged: Types, VcK, VcR, VcG, VcQ, CdMath, CdGood. -/
import Derived.Test.YtjlogcfggfmacaaM3
import Derived.Test.YtjlogcfggfmacaaProg
set_option linter.unusedVariables false
set_option linter.unusedSimpArgs false
open Nat (reduceEqDiff reduceAdd reduceLeDiff)
section
set_option maxRecDepth 100000
namespace Go.Proofs.Ytjlogcfggfmacaa
open Go.Abs
structure z0a where
 Kind:Int
 Rec:Int
 Once:Bool
 deriving DecidableEq,Inhabited
def z0a.cells (x:z0a):List AV:=[.int .i64 x.Kind,.int .i64 x.Rec,.bool x.Once]
def z0a.ok (x:z0a):Prop:=okI x.Kind∧okI x.Rec∧okT x.Once
theorem z0a.of {cs:List AV} (h:TyA Try.prog 105 cs):∃ x:z0a,cs=x.cells∧x.ok:=by
 obtain ⟨parts,rfl,hp⟩:=h.z4n Try.underlying105
 simp only [List.map_cons,List.map_nil] at hp
 obtain ⟨p0,r0,rfl,t0,hp⟩:=hp.cons_inv
 obtain ⟨p1,r1,rfl,t1,hp⟩:=hp.cons_inv
 obtain ⟨p2,r2,rfl,t2,hp⟩:=hp.cons_inv
 obtain rfl:=hp.z7j
 obtain ⟨x0,rfl,k0⟩:=((fun _ h=>h.z2t Try.underlying3:∀ cs,TyA Try.prog 3 cs→∃ x:Int,cs=(encI) x∧(okI) x)) _ t0
 obtain ⟨x1,rfl,k1⟩:=((fun _ h=>h.z2t Try.underlying3:∀ cs,TyA Try.prog 3 cs→∃ x:Int,cs=(encI) x∧(okI) x)) _ t1
 obtain ⟨x2,rfl,k2⟩:=((fun _ h=>h.zt3 Try.underlying4:∀ cs,TyA Try.prog 4 cs→∃ x:Bool,cs=(encT) x∧(okT) x)) _ t2
 exact ⟨⟨x0,x1,x2⟩,rfl,⟨k0,k1,k2⟩⟩
theorem z0a.c0 (x:z0a) (K:AV→Prop):z03 none x.cells 0 K=K (.int .i64 x.Kind):=by simp [z03,z0a.cells]
theorem z0a.c1 (x:z0a) (K:AV→Prop):z03 none x.cells 1 K=K (.int .i64 x.Rec):=by simp [z03,z0a.cells]
theorem z0a.c2 (x:z0a) (K:AV→Prop):z03 none x.cells 2 K=K (.bool x.Once):=by simp [z03,z0a.cells]
theorem z0a.call (x:z0a) (K:AV→Prop):z03 (some 3) x.cells 0 K=K (.agg x.cells):=by simp [z03,z0a.cells]
theorem z0a.put (x:z0a) (h:z00) (ty:TypeId) (K:z00→Prop):z1f 3 (.ptr h.next 0) (.agg x.cells) (h.push (.row ty [.int .i64 0,.int .i64 0,.bool false])) K=K (h.push (.row ty x.cells)):=z1a (by rfl) (by rfl) K
theorem z0a.r:(type_of% @z0a.c0)∧(type_of% @z0a.c1)∧(type_of% @z0a.c2)∧(type_of% @z0a.call)∧(type_of% @z0a.put):=⟨@z0a.c0,@z0a.c1,@z0a.c2,@z0a.call,@z0a.put⟩
structure z09 where
 Op:Int
 Bin:Int
 N:Nat
 deriving DecidableEq,Inhabited
def z09.cells (x:z09):List AV:=[.int .i64 x.Op,.int .i64 x.Bin,.int .u64 (x.N:Nat)]
def z09.ok (x:z09):Prop:=okI x.Op∧okI x.Bin∧okN x.N
theorem z09.of {cs:List AV} (h:TyA Try.prog 58 cs):∃ x:z09,cs=x.cells∧x.ok:=by
 obtain ⟨parts,rfl,hp⟩:=h.z4n Try.underlying58
 simp only [List.map_cons,List.map_nil] at hp
 obtain ⟨p0,r0,rfl,t0,hp⟩:=hp.cons_inv
 obtain ⟨p1,r1,rfl,t1,hp⟩:=hp.cons_inv
 obtain ⟨p2,r2,rfl,t2,hp⟩:=hp.cons_inv
 obtain rfl:=hp.z7j
 obtain ⟨x0,rfl,k0⟩:=((fun _ h=>h.z2t Try.underlying3:∀ cs,TyA Try.prog 3 cs→∃ x:Int,cs=(encI) x∧(okI) x)) _ t0
 obtain ⟨x1,rfl,k1⟩:=((fun _ h=>h.z2t Try.underlying3:∀ cs,TyA Try.prog 3 cs→∃ x:Int,cs=(encI) x∧(okI) x)) _ t1
 obtain ⟨x2,rfl,k2⟩:=((fun _ h=>h.u64_of Try.underlying56:∀ cs,TyA Try.prog 56 cs→∃ x:Nat,cs=(encN) x∧(okN) x)) _ t2
 exact ⟨⟨x0,x1,x2⟩,rfl,⟨k0,k1,k2⟩⟩
theorem z09.c0 (x:z09) (K:AV→Prop):z03 none x.cells 0 K=K (.int .i64 x.Op):=by simp [z03,z09.cells]
theorem z09.c1 (x:z09) (K:AV→Prop):z03 none x.cells 1 K=K (.int .i64 x.Bin):=by simp [z03,z09.cells]
theorem z09.c2 (x:z09) (K:AV→Prop):z03 none x.cells 2 K=K (.int .u64 (x.N:Nat)):=by simp [z03,z09.cells]
theorem z09.call (x:z09) (K:AV→Prop):z03 (some 3) x.cells 0 K=K (.agg x.cells):=by simp [z03,z09.cells]
theorem z09.put (x:z09) (h:z00) (ty:TypeId) (K:z00→Prop):z1f 3 (.ptr h.next 0) (.agg x.cells) (h.push (.row ty [.int .i64 0,.int .i64 0,.int .u64 0])) K=K (h.push (.row ty x.cells)):=z1a (by rfl) (by rfl) K
theorem z09.r:(type_of% @z09.c0)∧(type_of% @z09.c1)∧(type_of% @z09.c2)∧(type_of% @z09.call)∧(type_of% @z09.put):=⟨@z09.c0,@z09.c1,@z09.c2,@z09.call,@z09.put⟩
structure z07 where
 Op:Int
 Dst:Int
 Src:Int
 Rec:Int
 N:Int
 To:Int
 Items:Option (List z09)
 Index:Option (List z09)
 deriving DecidableEq,Inhabited
def z07.cells (x:z07):List AV:=[.int .i64 x.Op,.int .i64 x.Dst,.int .i64 x.Src,.int .i64 x.Rec,.int .i64 x.N,.int .i64 x.To,slAV 3 (z09.cells) x.Items,slAV 3 (z09.cells) x.Index]
def z07.ok (x:z07):Prop:=okI x.Op∧okI x.Dst∧okI x.Src∧okI x.Rec∧okI x.N∧okI x.To∧(okSl (z09.ok)) x.Items∧(okSl (z09.ok)) x.Index
theorem z07.of {cs:List AV} (h:TyA Try.prog 40 cs):∃ x:z07,cs=x.cells∧x.ok:=by
 obtain ⟨parts,rfl,hp⟩:=h.z4n Try.underlying40
 simp only [List.map_cons,List.map_nil] at hp
 obtain ⟨p0,r0,rfl,t0,hp⟩:=hp.cons_inv
 obtain ⟨p1,r1,rfl,t1,hp⟩:=hp.cons_inv
 obtain ⟨p2,r2,rfl,t2,hp⟩:=hp.cons_inv
 obtain ⟨p3,r3,rfl,t3,hp⟩:=hp.cons_inv
 obtain ⟨p4,r4,rfl,t4,hp⟩:=hp.cons_inv
 obtain ⟨p5,r5,rfl,t5,hp⟩:=hp.cons_inv
 obtain ⟨p6,r6,rfl,t6,hp⟩:=hp.cons_inv
 obtain ⟨p7,r7,rfl,t7,hp⟩:=hp.cons_inv
 obtain rfl:=hp.z7j
 obtain ⟨x0,rfl,k0⟩:=((fun _ h=>h.z2t Try.underlying3:∀ cs,TyA Try.prog 3 cs→∃ x:Int,cs=(encI) x∧(okI) x)) _ t0
 obtain ⟨x1,rfl,k1⟩:=((fun _ h=>h.z2t Try.underlying3:∀ cs,TyA Try.prog 3 cs→∃ x:Int,cs=(encI) x∧(okI) x)) _ t1
 obtain ⟨x2,rfl,k2⟩:=((fun _ h=>h.z2t Try.underlying3:∀ cs,TyA Try.prog 3 cs→∃ x:Int,cs=(encI) x∧(okI) x)) _ t2
 obtain ⟨x3,rfl,k3⟩:=((fun _ h=>h.z2t Try.underlying3:∀ cs,TyA Try.prog 3 cs→∃ x:Int,cs=(encI) x∧(okI) x)) _ t3
 obtain ⟨x4,rfl,k4⟩:=((fun _ h=>h.z2t Try.underlying3:∀ cs,TyA Try.prog 3 cs→∃ x:Int,cs=(encI) x∧(okI) x)) _ t4
 obtain ⟨x5,rfl,k5⟩:=((fun _ h=>h.z2t Try.underlying3:∀ cs,TyA Try.prog 3 cs→∃ x:Int,cs=(encI) x∧(okI) x)) _ t5
 obtain ⟨x6,rfl,k6⟩:=((fun _ h=>h.zfp Try.underlying38 (show Try.prog.cellsOf 58=3 by kernel_rfl) (by omega) (fun _ h=>z09.of h):∀ cs,TyA Try.prog 38 cs→∃ x:Option (List z09),cs=(fun o=>[slAV 3 (z09.cells) o]) x∧(okSl (z09.ok)) x)) _ t6
 obtain ⟨x7,rfl,k7⟩:=((fun _ h=>h.zfp Try.underlying38 (show Try.prog.cellsOf 58=3 by kernel_rfl) (by omega) (fun _ h=>z09.of h):∀ cs,TyA Try.prog 38 cs→∃ x:Option (List z09),cs=(fun o=>[slAV 3 (z09.cells) o]) x∧(okSl (z09.ok)) x)) _ t7
 exact ⟨⟨x0,x1,x2,x3,x4,x5,x6,x7⟩,rfl,⟨k0,k1,k2,k3,k4,k5,k6,k7⟩⟩
theorem z07.c0 (x:z07) (K:AV→Prop):z03 none x.cells 0 K=K (.int .i64 x.Op):=by simp [z03,z07.cells]
theorem z07.c1 (x:z07) (K:AV→Prop):z03 none x.cells 1 K=K (.int .i64 x.Dst):=by simp [z03,z07.cells]
theorem z07.c2 (x:z07) (K:AV→Prop):z03 none x.cells 2 K=K (.int .i64 x.Src):=by simp [z03,z07.cells]
theorem z07.c3 (x:z07) (K:AV→Prop):z03 none x.cells 3 K=K (.int .i64 x.Rec):=by simp [z03,z07.cells]
theorem z07.c4 (x:z07) (K:AV→Prop):z03 none x.cells 4 K=K (.int .i64 x.N):=by simp [z03,z07.cells]
theorem z07.c5 (x:z07) (K:AV→Prop):z03 none x.cells 5 K=K (.int .i64 x.To):=by simp [z03,z07.cells]
theorem z07.c6 (x:z07) (K:AV→Prop):z03 none x.cells 6 K=K (slAV 3 (z09.cells) x.Items):=by simp [z03,z07.cells]
theorem z07.c7 (x:z07) (K:AV→Prop):z03 none x.cells 7 K=K (slAV 3 (z09.cells) x.Index):=by simp [z03,z07.cells]
theorem z07.call (x:z07) (K:AV→Prop):z03 (some 8) x.cells 0 K=K (.agg x.cells):=by simp [z03,z07.cells]
theorem z07.put (x:z07) (h:z00) (ty:TypeId) (K:z00→Prop):z1f 8 (.ptr h.next 0) (.agg x.cells) (h.push (.row ty [.int .i64 0,.int .i64 0,.int .i64 0,.int .i64 0,.int .i64 0,.int .i64 0,.nils,.nils])) K=K (h.push (.row ty x.cells)):=z1a (by rfl) (by rfl) K
theorem z07.r:(type_of% @z07.c0)∧(type_of% @z07.c1)∧(type_of% @z07.c2)∧(type_of% @z07.c3)∧(type_of% @z07.c4)∧(type_of% @z07.c5)∧(type_of% @z07.c6)∧(type_of% @z07.c7)∧(type_of% @z07.call)∧(type_of% @z07.put):=⟨@z07.c0,@z07.c1,@z07.c2,@z07.c3,@z07.c4,@z07.c5,@z07.c6,@z07.c7,@z07.call,@z07.put⟩
structure z0q where
 Slots:Option (List z0a)
 Code:Option (List z07)
 Most:Int
 deriving DecidableEq,Inhabited
def z0q.cells (x:z0q):List AV:=[slAV 3 (z0a.cells) x.Slots,slAV 8 (z07.cells) x.Code,.int .i64 x.Most]
def z0q.ok (x:z0q):Prop:=(okSl (z0a.ok)) x.Slots∧(okSl (z07.ok)) x.Code∧okI x.Most
theorem z0q.of {cs:List AV} (h:TyA Try.prog 37 cs):∃ x:z0q,cs=x.cells∧x.ok:=by
 obtain ⟨parts,rfl,hp⟩:=h.z4n Try.underlying37
 simp only [List.map_cons,List.map_nil] at hp
 obtain ⟨p0,r0,rfl,t0,hp⟩:=hp.cons_inv
 obtain ⟨p1,r1,rfl,t1,hp⟩:=hp.cons_inv
 obtain ⟨p2,r2,rfl,t2,hp⟩:=hp.cons_inv
 obtain rfl:=hp.z7j
 obtain ⟨x0,rfl,k0⟩:=((fun _ h=>h.zfp Try.underlying23 (show Try.prog.cellsOf 105=3 by kernel_rfl) (by omega) (fun _ h=>z0a.of h):∀ cs,TyA Try.prog 23 cs→∃ x:Option (List z0a),cs=(fun o=>[slAV 3 (z0a.cells) o]) x∧(okSl (z0a.ok)) x)) _ t0
 obtain ⟨x1,rfl,k1⟩:=((fun _ h=>h.zfp Try.underlying35 (show Try.prog.cellsOf 40=8 by kernel_rfl) (by omega) (fun _ h=>z07.of h):∀ cs,TyA Try.prog 35 cs→∃ x:Option (List z07),cs=(fun o=>[slAV 8 (z07.cells) o]) x∧(okSl (z07.ok)) x)) _ t1
 obtain ⟨x2,rfl,k2⟩:=((fun _ h=>h.z2t Try.underlying3:∀ cs,TyA Try.prog 3 cs→∃ x:Int,cs=(encI) x∧(okI) x)) _ t2
 exact ⟨⟨x0,x1,x2⟩,rfl,⟨k0,k1,k2⟩⟩
theorem z0q.c0 (x:z0q) (K:AV→Prop):z03 none x.cells 0 K=K (slAV 3 (z0a.cells) x.Slots):=by simp [z03,z0q.cells]
theorem z0q.c1 (x:z0q) (K:AV→Prop):z03 none x.cells 1 K=K (slAV 8 (z07.cells) x.Code):=by simp [z03,z0q.cells]
theorem z0q.c2 (x:z0q) (K:AV→Prop):z03 none x.cells 2 K=K (.int .i64 x.Most):=by simp [z03,z0q.cells]
theorem z0q.call (x:z0q) (K:AV→Prop):z03 (some 3) x.cells 0 K=K (.agg x.cells):=by simp [z03,z0q.cells]
theorem z0q.put (x:z0q) (h:z00) (ty:TypeId) (K:z00→Prop):z1f 3 (.ptr h.next 0) (.agg x.cells) (h.push (.row ty [.nils,.nils,.int .i64 0])) K=K (h.push (.row ty x.cells)):=z1a (by rfl) (by rfl) K
theorem z0q.r:(type_of% @z0q.c0)∧(type_of% @z0q.c1)∧(type_of% @z0q.c2)∧(type_of% @z0q.call)∧(type_of% @z0q.put):=⟨@z0q.c0,@z0q.c1,@z0q.c2,@z0q.call,@z0q.put⟩
structure z0s where
 Thread:Int
 At:Int
 Rec:Int
 deriving DecidableEq,Inhabited
def z0s.cells (x:z0s):List AV:=[.int .i64 x.Thread,.int .i64 x.At,.int .i64 x.Rec]
def z0s.ok (x:z0s):Prop:=okI x.Thread∧okI x.At∧okI x.Rec
theorem z0s.of {cs:List AV} (h:TyA Try.prog 109 cs):∃ x:z0s,cs=x.cells∧x.ok:=by
 obtain ⟨parts,rfl,hp⟩:=h.z4n Try.underlying109
 simp only [List.map_cons,List.map_nil] at hp
 obtain ⟨p0,r0,rfl,t0,hp⟩:=hp.cons_inv
 obtain ⟨p1,r1,rfl,t1,hp⟩:=hp.cons_inv
 obtain ⟨p2,r2,rfl,t2,hp⟩:=hp.cons_inv
 obtain rfl:=hp.z7j
 obtain ⟨x0,rfl,k0⟩:=((fun _ h=>h.z2t Try.underlying3:∀ cs,TyA Try.prog 3 cs→∃ x:Int,cs=(encI) x∧(okI) x)) _ t0
 obtain ⟨x1,rfl,k1⟩:=((fun _ h=>h.z2t Try.underlying3:∀ cs,TyA Try.prog 3 cs→∃ x:Int,cs=(encI) x∧(okI) x)) _ t1
 obtain ⟨x2,rfl,k2⟩:=((fun _ h=>h.z2t Try.underlying3:∀ cs,TyA Try.prog 3 cs→∃ x:Int,cs=(encI) x∧(okI) x)) _ t2
 exact ⟨⟨x0,x1,x2⟩,rfl,⟨k0,k1,k2⟩⟩
theorem z0s.c0 (x:z0s) (K:AV→Prop):z03 none x.cells 0 K=K (.int .i64 x.Thread):=by simp [z03,z0s.cells]
theorem z0s.c1 (x:z0s) (K:AV→Prop):z03 none x.cells 1 K=K (.int .i64 x.At):=by simp [z03,z0s.cells]
theorem z0s.c2 (x:z0s) (K:AV→Prop):z03 none x.cells 2 K=K (.int .i64 x.Rec):=by simp [z03,z0s.cells]
theorem z0s.call (x:z0s) (K:AV→Prop):z03 (some 3) x.cells 0 K=K (.agg x.cells):=by simp [z03,z0s.cells]
theorem z0s.put (x:z0s) (h:z00) (ty:TypeId) (K:z00→Prop):z1f 3 (.ptr h.next 0) (.agg x.cells) (h.push (.row ty [.int .i64 0,.int .i64 0,.int .i64 0])) K=K (h.push (.row ty x.cells)):=z1a (by rfl) (by rfl) K
theorem z0s.r:(type_of% @z0s.c0)∧(type_of% @z0s.c1)∧(type_of% @z0s.c2)∧(type_of% @z0s.call)∧(type_of% @z0s.put):=⟨@z0s.c0,@z0s.c1,@z0s.c2,@z0s.call,@z0s.put⟩
structure z0b where
 Thread:Int
 From:Int
 To:Int
 deriving DecidableEq,Inhabited
def z0b.cells (x:z0b):List AV:=[.int .i64 x.Thread,.int .i64 x.From,.int .i64 x.To]
def z0b.ok (x:z0b):Prop:=okI x.Thread∧okI x.From∧okI x.To
theorem z0b.of {cs:List AV} (h:TyA Try.prog 88 cs):∃ x:z0b,cs=x.cells∧x.ok:=by
 obtain ⟨parts,rfl,hp⟩:=h.z4n Try.underlying88
 simp only [List.map_cons,List.map_nil] at hp
 obtain ⟨p0,r0,rfl,t0,hp⟩:=hp.cons_inv
 obtain ⟨p1,r1,rfl,t1,hp⟩:=hp.cons_inv
 obtain ⟨p2,r2,rfl,t2,hp⟩:=hp.cons_inv
 obtain rfl:=hp.z7j
 obtain ⟨x0,rfl,k0⟩:=((fun _ h=>h.z2t Try.underlying3:∀ cs,TyA Try.prog 3 cs→∃ x:Int,cs=(encI) x∧(okI) x)) _ t0
 obtain ⟨x1,rfl,k1⟩:=((fun _ h=>h.z2t Try.underlying3:∀ cs,TyA Try.prog 3 cs→∃ x:Int,cs=(encI) x∧(okI) x)) _ t1
 obtain ⟨x2,rfl,k2⟩:=((fun _ h=>h.z2t Try.underlying3:∀ cs,TyA Try.prog 3 cs→∃ x:Int,cs=(encI) x∧(okI) x)) _ t2
 exact ⟨⟨x0,x1,x2⟩,rfl,⟨k0,k1,k2⟩⟩
theorem z0b.c0 (x:z0b) (K:AV→Prop):z03 none x.cells 0 K=K (.int .i64 x.Thread):=by simp [z03,z0b.cells]
theorem z0b.c1 (x:z0b) (K:AV→Prop):z03 none x.cells 1 K=K (.int .i64 x.From):=by simp [z03,z0b.cells]
theorem z0b.c2 (x:z0b) (K:AV→Prop):z03 none x.cells 2 K=K (.int .i64 x.To):=by simp [z03,z0b.cells]
theorem z0b.call (x:z0b) (K:AV→Prop):z03 (some 3) x.cells 0 K=K (.agg x.cells):=by simp [z03,z0b.cells]
theorem z0b.put (x:z0b) (h:z00) (ty:TypeId) (K:z00→Prop):z1f 3 (.ptr h.next 0) (.agg x.cells) (h.push (.row ty [.int .i64 0,.int .i64 0,.int .i64 0])) K=K (h.push (.row ty x.cells)):=z1a (by rfl) (by rfl) K
theorem z0b.r:(type_of% @z0b.c0)∧(type_of% @z0b.c1)∧(type_of% @z0b.c2)∧(type_of% @z0b.call)∧(type_of% @z0b.put):=⟨@z0b.c0,@z0b.c1,@z0b.c2,@z0b.call,@z0b.put⟩
structure z0l where
 Records:Option (List (Option (List z0a)))
 Globals:Option (List z0a)
 Threads:Option (List z0q)
 Sites:Option (List z0s)
 Sections:Option (List z0b)
 deriving DecidableEq,Inhabited
def z0l.cells (x:z0l):List AV:=[slAV 1 (fun o=>[slAV 3 (z0a.cells) o]) x.Records,slAV 3 (z0a.cells) x.Globals,slAV 3 (z0q.cells) x.Threads,slAV 3 (z0s.cells) x.Sites,slAV 3 (z0b.cells) x.Sections]
def z0l.ok (x:z0l):Prop:=(okSl (okSl (z0a.ok))) x.Records∧(okSl (z0a.ok)) x.Globals∧(okSl (z0q.ok)) x.Threads∧(okSl (z0s.ok)) x.Sites∧(okSl (z0b.ok)) x.Sections
theorem z0l.of {cs:List AV} (h:TyA Try.prog 28 cs):∃ x:z0l,cs=x.cells∧x.ok:=by
 obtain ⟨parts,rfl,hp⟩:=h.z4n Try.underlying28
 simp only [List.map_cons,List.map_nil] at hp
 obtain ⟨p0,r0,rfl,t0,hp⟩:=hp.cons_inv
 obtain ⟨p1,r1,rfl,t1,hp⟩:=hp.cons_inv
 obtain ⟨p2,r2,rfl,t2,hp⟩:=hp.cons_inv
 obtain ⟨p3,r3,rfl,t3,hp⟩:=hp.cons_inv
 obtain ⟨p4,r4,rfl,t4,hp⟩:=hp.cons_inv
 obtain rfl:=hp.z7j
 obtain ⟨x0,rfl,k0⟩:=((fun _ h=>h.zfp Try.underlying22 (show Try.prog.cellsOf 23=1 by kernel_rfl) (by omega) (fun _ h=>h.zfp Try.underlying23 (show Try.prog.cellsOf 105=3 by kernel_rfl) (by omega) (fun _ h=>z0a.of h)):∀ cs,TyA Try.prog 22 cs→∃ x:Option (List (Option (List z0a))),cs=(fun o=>[slAV 1 (fun o=>[slAV 3 (z0a.cells) o]) o]) x∧(okSl (okSl (z0a.ok))) x)) _ t0
 obtain ⟨x1,rfl,k1⟩:=((fun _ h=>h.zfp Try.underlying23 (show Try.prog.cellsOf 105=3 by kernel_rfl) (by omega) (fun _ h=>z0a.of h):∀ cs,TyA Try.prog 23 cs→∃ x:Option (List z0a),cs=(fun o=>[slAV 3 (z0a.cells) o]) x∧(okSl (z0a.ok)) x)) _ t1
 obtain ⟨x2,rfl,k2⟩:=((fun _ h=>h.zfp Try.underlying24 (show Try.prog.cellsOf 37=3 by kernel_rfl) (by omega) (fun _ h=>z0q.of h):∀ cs,TyA Try.prog 24 cs→∃ x:Option (List z0q),cs=(fun o=>[slAV 3 (z0q.cells) o]) x∧(okSl (z0q.ok)) x)) _ t2
 obtain ⟨x3,rfl,k3⟩:=((fun _ h=>h.zfp Try.underlying25 (show Try.prog.cellsOf 109=3 by kernel_rfl) (by omega) (fun _ h=>z0s.of h):∀ cs,TyA Try.prog 25 cs→∃ x:Option (List z0s),cs=(fun o=>[slAV 3 (z0s.cells) o]) x∧(okSl (z0s.ok)) x)) _ t3
 obtain ⟨x4,rfl,k4⟩:=((fun _ h=>h.zfp Try.underlying26 (show Try.prog.cellsOf 88=3 by kernel_rfl) (by omega) (fun _ h=>z0b.of h):∀ cs,TyA Try.prog 26 cs→∃ x:Option (List z0b),cs=(fun o=>[slAV 3 (z0b.cells) o]) x∧(okSl (z0b.ok)) x)) _ t4
 exact ⟨⟨x0,x1,x2,x3,x4⟩,rfl,⟨k0,k1,k2,k3,k4⟩⟩
theorem z0l.c0 (x:z0l) (K:AV→Prop):z03 none x.cells 0 K=K (slAV 1 (fun o=>[slAV 3 (z0a.cells) o]) x.Records):=by simp [z03,z0l.cells]
theorem z0l.c1 (x:z0l) (K:AV→Prop):z03 none x.cells 1 K=K (slAV 3 (z0a.cells) x.Globals):=by simp [z03,z0l.cells]
theorem z0l.c2 (x:z0l) (K:AV→Prop):z03 none x.cells 2 K=K (slAV 3 (z0q.cells) x.Threads):=by simp [z03,z0l.cells]
theorem z0l.c3 (x:z0l) (K:AV→Prop):z03 none x.cells 3 K=K (slAV 3 (z0s.cells) x.Sites):=by simp [z03,z0l.cells]
theorem z0l.c4 (x:z0l) (K:AV→Prop):z03 none x.cells 4 K=K (slAV 3 (z0b.cells) x.Sections):=by simp [z03,z0l.cells]
theorem z0l.call (x:z0l) (K:AV→Prop):z03 (some 5) x.cells 0 K=K (.agg x.cells):=by simp [z03,z0l.cells]
theorem z0l.put (x:z0l) (h:z00) (ty:TypeId) (K:z00→Prop):z1f 5 (.ptr h.next 0) (.agg x.cells) (h.push (.row ty [.nils,.nils,.nils,.nils,.nils])) K=K (h.push (.row ty x.cells)):=z1a (by rfl) (by rfl) K
theorem z0l.r:(type_of% @z0l.c0)∧(type_of% @z0l.c1)∧(type_of% @z0l.c2)∧(type_of% @z0l.c3)∧(type_of% @z0l.c4)∧(type_of% @z0l.call)∧(type_of% @z0l.put):=⟨@z0l.c0,@z0l.c1,@z0l.c2,@z0l.c3,@z0l.c4,@z0l.call,@z0l.put⟩
structure z0e where
 Global:Bool
 N:Int
 Fields:Option (List Int)
 deriving DecidableEq,Inhabited
def z0e.cells (x:z0e):List AV:=[.bool x.Global,.int .i64 x.N,slAV 1 (encI) x.Fields]
def z0e.ok (x:z0e):Prop:=okT x.Global∧okI x.N∧(okSl (okI)) x.Fields
theorem z0e.of {cs:List AV} (h:TyA Try.prog 78 cs):∃ x:z0e,cs=x.cells∧x.ok:=by
 obtain ⟨parts,rfl,hp⟩:=h.z4n Try.underlying78
 simp only [List.map_cons,List.map_nil] at hp
 obtain ⟨p0,r0,rfl,t0,hp⟩:=hp.cons_inv
 obtain ⟨p1,r1,rfl,t1,hp⟩:=hp.cons_inv
 obtain ⟨p2,r2,rfl,t2,hp⟩:=hp.cons_inv
 obtain rfl:=hp.z7j
 obtain ⟨x0,rfl,k0⟩:=((fun _ h=>h.zt3 Try.underlying4:∀ cs,TyA Try.prog 4 cs→∃ x:Bool,cs=(encT) x∧(okT) x)) _ t0
 obtain ⟨x1,rfl,k1⟩:=((fun _ h=>h.z2t Try.underlying3:∀ cs,TyA Try.prog 3 cs→∃ x:Int,cs=(encI) x∧(okI) x)) _ t1
 obtain ⟨x2,rfl,k2⟩:=((fun _ h=>h.zfp Try.underlying29 (show Try.prog.cellsOf 3=1 by kernel_rfl) (by omega) (fun _ h=>h.z2t Try.underlying3):∀ cs,TyA Try.prog 29 cs→∃ x:Option (List Int),cs=(fun o=>[slAV 1 (encI) o]) x∧(okSl (okI)) x)) _ t2
 exact ⟨⟨x0,x1,x2⟩,rfl,⟨k0,k1,k2⟩⟩
theorem z0e.c0 (x:z0e) (K:AV→Prop):z03 none x.cells 0 K=K (.bool x.Global):=by simp [z03,z0e.cells]
theorem z0e.c1 (x:z0e) (K:AV→Prop):z03 none x.cells 1 K=K (.int .i64 x.N):=by simp [z03,z0e.cells]
theorem z0e.c2 (x:z0e) (K:AV→Prop):z03 none x.cells 2 K=K (slAV 1 (encI) x.Fields):=by simp [z03,z0e.cells]
theorem z0e.call (x:z0e) (K:AV→Prop):z03 (some 3) x.cells 0 K=K (.agg x.cells):=by simp [z03,z0e.cells]
theorem z0e.put (x:z0e) (h:z00) (ty:TypeId) (K:z00→Prop):z1f 3 (.ptr h.next 0) (.agg x.cells) (h.push (.row ty [.bool false,.int .i64 0,.nils])) K=K (h.push (.row ty x.cells)):=z1a (by rfl) (by rfl) K
theorem z0e.r:(type_of% @z0e.c0)∧(type_of% @z0e.c1)∧(type_of% @z0e.c2)∧(type_of% @z0e.call)∧(type_of% @z0e.put):=⟨@z0e.c0,@z0e.c1,@z0e.c2,@z0e.call,@z0e.put⟩
structure z05 where
 Op:Int
 Path:z0e
 N:Int
 Const:Bool
 At:Int
 Index:z0e
 Class:Int
 Mode:Int
 deriving DecidableEq,Inhabited
def z05.cells (x:z05):List AV:=[.int .i64 x.Op,.bool x.Path.Global,.int .i64 x.Path.N,slAV 1 (encI) x.Path.Fields,.int .i64 x.N,.bool x.Const,.int .i64 x.At,.bool x.Index.Global,.int .i64 x.Index.N,slAV 1 (encI) x.Index.Fields,.int .i64 x.Class,.int .i64 x.Mode]
def z05.ok (x:z05):Prop:=okI x.Op∧z0e.ok x.Path∧okI x.N∧okT x.Const∧okI x.At∧z0e.ok x.Index∧okI x.Class∧okI x.Mode
theorem z05.of {cs:List AV} (h:TyA Try.prog 80 cs):∃ x:z05,cs=x.cells∧x.ok:=by
 obtain ⟨parts,rfl,hp⟩:=h.z4n Try.underlying80
 simp only [List.map_cons,List.map_nil] at hp
 obtain ⟨p0,r0,rfl,t0,hp⟩:=hp.cons_inv
 obtain ⟨p1,r1,rfl,t1,hp⟩:=hp.cons_inv
 obtain ⟨p2,r2,rfl,t2,hp⟩:=hp.cons_inv
 obtain ⟨p3,r3,rfl,t3,hp⟩:=hp.cons_inv
 obtain ⟨p4,r4,rfl,t4,hp⟩:=hp.cons_inv
 obtain ⟨p5,r5,rfl,t5,hp⟩:=hp.cons_inv
 obtain ⟨p6,r6,rfl,t6,hp⟩:=hp.cons_inv
 obtain ⟨p7,r7,rfl,t7,hp⟩:=hp.cons_inv
 obtain rfl:=hp.z7j
 obtain ⟨x0,rfl,k0⟩:=((fun _ h=>h.z2t Try.underlying3:∀ cs,TyA Try.prog 3 cs→∃ x:Int,cs=(encI) x∧(okI) x)) _ t0
 obtain ⟨x1,rfl,k1⟩:=((fun _ h=>z0e.of h:∀ cs,TyA Try.prog 78 cs→∃ x:z0e,cs=(z0e.cells) x∧(z0e.ok) x)) _ t1
 obtain ⟨x2,rfl,k2⟩:=((fun _ h=>h.z2t Try.underlying3:∀ cs,TyA Try.prog 3 cs→∃ x:Int,cs=(encI) x∧(okI) x)) _ t2
 obtain ⟨x3,rfl,k3⟩:=((fun _ h=>h.zt3 Try.underlying4:∀ cs,TyA Try.prog 4 cs→∃ x:Bool,cs=(encT) x∧(okT) x)) _ t3
 obtain ⟨x4,rfl,k4⟩:=((fun _ h=>h.z2t Try.underlying3:∀ cs,TyA Try.prog 3 cs→∃ x:Int,cs=(encI) x∧(okI) x)) _ t4
 obtain ⟨x5,rfl,k5⟩:=((fun _ h=>z0e.of h:∀ cs,TyA Try.prog 78 cs→∃ x:z0e,cs=(z0e.cells) x∧(z0e.ok) x)) _ t5
 obtain ⟨x6,rfl,k6⟩:=((fun _ h=>h.z2t Try.underlying3:∀ cs,TyA Try.prog 3 cs→∃ x:Int,cs=(encI) x∧(okI) x)) _ t6
 obtain ⟨x7,rfl,k7⟩:=((fun _ h=>h.z2t Try.underlying3:∀ cs,TyA Try.prog 3 cs→∃ x:Int,cs=(encI) x∧(okI) x)) _ t7
 exact ⟨⟨x0,x1,x2,x3,x4,x5,x6,x7⟩,rfl,⟨k0,k1,k2,k3,k4,k5,k6,k7⟩⟩
theorem z05.c0 (x:z05) (K:AV→Prop):z03 none x.cells 0 K=K (.int .i64 x.Op):=by simp [z03,z05.cells,z0e.cells,z0e.cells]
theorem z05.c1 (x:z05) (K:AV→Prop):z03 none x.cells 1 K=K (.bool x.Path.Global):=by simp [z03,z05.cells,z0e.cells,z0e.cells]
theorem z05.c2 (x:z05) (K:AV→Prop):z03 none x.cells 2 K=K (.int .i64 x.Path.N):=by simp [z03,z05.cells,z0e.cells,z0e.cells]
theorem z05.c3 (x:z05) (K:AV→Prop):z03 none x.cells 3 K=K (slAV 1 (encI) x.Path.Fields):=by simp [z03,z05.cells,z0e.cells,z0e.cells]
theorem z05.c4 (x:z05) (K:AV→Prop):z03 none x.cells 4 K=K (.int .i64 x.N):=by simp [z03,z05.cells,z0e.cells,z0e.cells]
theorem z05.c5 (x:z05) (K:AV→Prop):z03 none x.cells 5 K=K (.bool x.Const):=by simp [z03,z05.cells,z0e.cells,z0e.cells]
theorem z05.c6 (x:z05) (K:AV→Prop):z03 none x.cells 6 K=K (.int .i64 x.At):=by simp [z03,z05.cells,z0e.cells,z0e.cells]
theorem z05.c7 (x:z05) (K:AV→Prop):z03 none x.cells 7 K=K (.bool x.Index.Global):=by simp [z03,z05.cells,z0e.cells,z0e.cells]
theorem z05.c8 (x:z05) (K:AV→Prop):z03 none x.cells 8 K=K (.int .i64 x.Index.N):=by simp [z03,z05.cells,z0e.cells,z0e.cells]
theorem z05.c9 (x:z05) (K:AV→Prop):z03 none x.cells 9 K=K (slAV 1 (encI) x.Index.Fields):=by simp [z03,z05.cells,z0e.cells,z0e.cells]
theorem z05.c10 (x:z05) (K:AV→Prop):z03 none x.cells 10 K=K (.int .i64 x.Class):=by simp [z03,z05.cells,z0e.cells,z0e.cells]
theorem z05.c11 (x:z05) (K:AV→Prop):z03 none x.cells 11 K=K (.int .i64 x.Mode):=by simp [z03,z05.cells,z0e.cells,z0e.cells]
theorem z05.call (x:z05) (K:AV→Prop):z03 (some 12) x.cells 0 K=K (.agg x.cells):=by simp [z03,z05.cells,z0e.cells,z0e.cells]
theorem z05.cs1_3 (x:z05) (K:AV→Prop):z03 (some 3) x.cells 1 K=K (.agg x.Path.cells):=by simp [z03,z05.cells,z0e.cells,z0e.cells]
theorem z05.cs7_3 (x:z05) (K:AV→Prop):z03 (some 3) x.cells 7 K=K (.agg x.Index.cells):=by simp [z03,z05.cells,z0e.cells,z0e.cells]
theorem z05.put (x:z05) (h:z00) (ty:TypeId) (K:z00→Prop):z1f 12 (.ptr h.next 0) (.agg x.cells) (h.push (.row ty [.int .i64 0,.bool false,.int .i64 0,.nils,.int .i64 0,.bool false,.int .i64 0,.bool false,.int .i64 0,.nils,.int .i64 0,.int .i64 0])) K=K (h.push (.row ty x.cells)):=z1a (by rfl) (by rfl) K
theorem z05.r:(type_of% @z05.c0)∧(type_of% @z05.c1)∧(type_of% @z05.c2)∧(type_of% @z05.c3)∧(type_of% @z05.c4)∧(type_of% @z05.c5)∧(type_of% @z05.c6)∧(type_of% @z05.c7)∧(type_of% @z05.c8)∧(type_of% @z05.c9)∧(type_of% @z05.c10)∧(type_of% @z05.c11)∧(type_of% @z05.call)∧(type_of% @z05.cs1_3)∧(type_of% @z05.cs7_3)∧(type_of% @z05.put):=⟨@z05.c0,@z05.c1,@z05.c2,@z05.c3,@z05.c4,@z05.c5,@z05.c6,@z05.c7,@z05.c8,@z05.c9,@z05.c10,@z05.c11,@z05.call,@z05.cs1_3,@z05.cs7_3,@z05.put⟩
structure z0d where
 Code:z0l
 Classes:Option (List Int)
 Plans:Option (List (Option (List z05)))
 Tries:Int
 deriving DecidableEq,Inhabited
def z0d.cells (x:z0d):List AV:=[slAV 1 (fun o=>[slAV 3 (z0a.cells) o]) x.Code.Records,slAV 3 (z0a.cells) x.Code.Globals,slAV 3 (z0q.cells) x.Code.Threads,slAV 3 (z0s.cells) x.Code.Sites,slAV 3 (z0b.cells) x.Code.Sections,slAV 1 (encI) x.Classes,slAV 1 (fun o=>[slAV 12 (z05.cells) o]) x.Plans,.int .i64 x.Tries]
def z0d.ok (x:z0d):Prop:=z0l.ok x.Code∧(okSl (okI)) x.Classes∧(okSl (okSl (z05.ok))) x.Plans∧okI x.Tries
theorem z0d.of {cs:List AV} (h:TyA Try.prog 32 cs):∃ x:z0d,cs=x.cells∧x.ok:=by
 obtain ⟨parts,rfl,hp⟩:=h.z4n Try.underlying32
 simp only [List.map_cons,List.map_nil] at hp
 obtain ⟨p0,r0,rfl,t0,hp⟩:=hp.cons_inv
 obtain ⟨p1,r1,rfl,t1,hp⟩:=hp.cons_inv
 obtain ⟨p2,r2,rfl,t2,hp⟩:=hp.cons_inv
 obtain ⟨p3,r3,rfl,t3,hp⟩:=hp.cons_inv
 obtain rfl:=hp.z7j
 obtain ⟨x0,rfl,k0⟩:=((fun _ h=>z0l.of h:∀ cs,TyA Try.prog 28 cs→∃ x:z0l,cs=(z0l.cells) x∧(z0l.ok) x)) _ t0
 obtain ⟨x1,rfl,k1⟩:=((fun _ h=>h.zfp Try.underlying29 (show Try.prog.cellsOf 3=1 by kernel_rfl) (by omega) (fun _ h=>h.z2t Try.underlying3):∀ cs,TyA Try.prog 29 cs→∃ x:Option (List Int),cs=(fun o=>[slAV 1 (encI) o]) x∧(okSl (okI)) x)) _ t1
 obtain ⟨x2,rfl,k2⟩:=((fun _ h=>h.zfp Try.underlying30 (show Try.prog.cellsOf 76=1 by kernel_rfl) (by omega) (fun _ h=>h.zfp Try.underlying76 (show Try.prog.cellsOf 80=12 by kernel_rfl) (by omega) (fun _ h=>z05.of h)):∀ cs,TyA Try.prog 30 cs→∃ x:Option (List (Option (List z05))),cs=(fun o=>[slAV 1 (fun o=>[slAV 12 (z05.cells) o]) o]) x∧(okSl (okSl (z05.ok))) x)) _ t2
 obtain ⟨x3,rfl,k3⟩:=((fun _ h=>h.z2t Try.underlying3:∀ cs,TyA Try.prog 3 cs→∃ x:Int,cs=(encI) x∧(okI) x)) _ t3
 exact ⟨⟨x0,x1,x2,x3⟩,rfl,⟨k0,k1,k2,k3⟩⟩
theorem z0d.c0 (x:z0d) (K:AV→Prop):z03 none x.cells 0 K=K (slAV 1 (fun o=>[slAV 3 (z0a.cells) o]) x.Code.Records):=by simp [z03,z0d.cells,z0l.cells]
theorem z0d.c1 (x:z0d) (K:AV→Prop):z03 none x.cells 1 K=K (slAV 3 (z0a.cells) x.Code.Globals):=by simp [z03,z0d.cells,z0l.cells]
theorem z0d.c2 (x:z0d) (K:AV→Prop):z03 none x.cells 2 K=K (slAV 3 (z0q.cells) x.Code.Threads):=by simp [z03,z0d.cells,z0l.cells]
theorem z0d.c3 (x:z0d) (K:AV→Prop):z03 none x.cells 3 K=K (slAV 3 (z0s.cells) x.Code.Sites):=by simp [z03,z0d.cells,z0l.cells]
theorem z0d.c4 (x:z0d) (K:AV→Prop):z03 none x.cells 4 K=K (slAV 3 (z0b.cells) x.Code.Sections):=by simp [z03,z0d.cells,z0l.cells]
theorem z0d.c5 (x:z0d) (K:AV→Prop):z03 none x.cells 5 K=K (slAV 1 (encI) x.Classes):=by simp [z03,z0d.cells,z0l.cells]
theorem z0d.c6 (x:z0d) (K:AV→Prop):z03 none x.cells 6 K=K (slAV 1 (fun o=>[slAV 12 (z05.cells) o]) x.Plans):=by simp [z03,z0d.cells,z0l.cells]
theorem z0d.c7 (x:z0d) (K:AV→Prop):z03 none x.cells 7 K=K (.int .i64 x.Tries):=by simp [z03,z0d.cells,z0l.cells]
theorem z0d.call (x:z0d) (K:AV→Prop):z03 (some 8) x.cells 0 K=K (.agg x.cells):=by simp [z03,z0d.cells,z0l.cells]
theorem z0d.cs0_5 (x:z0d) (K:AV→Prop):z03 (some 5) x.cells 0 K=K (.agg x.Code.cells):=by simp [z03,z0d.cells,z0l.cells]
theorem z0d.put (x:z0d) (h:z00) (ty:TypeId) (K:z00→Prop):z1f 8 (.ptr h.next 0) (.agg x.cells) (h.push (.row ty [.nils,.nils,.nils,.nils,.nils,.nils,.nils,.int .i64 0])) K=K (h.push (.row ty x.cells)):=z1a (by rfl) (by rfl) K
theorem z0d.r:(type_of% @z0d.c0)∧(type_of% @z0d.c1)∧(type_of% @z0d.c2)∧(type_of% @z0d.c3)∧(type_of% @z0d.c4)∧(type_of% @z0d.c5)∧(type_of% @z0d.c6)∧(type_of% @z0d.c7)∧(type_of% @z0d.call)∧(type_of% @z0d.cs0_5)∧(type_of% @z0d.put):=⟨@z0d.c0,@z0d.c1,@z0d.c2,@z0d.c3,@z0d.c4,@z0d.c5,@z0d.c6,@z0d.c7,@z0d.call,@z0d.cs0_5,@z0d.put⟩
theorem ThreadEnds_args {xs:List AV} (h:TyVs Try.prog Try.f4.params.toList xs):∃ (x0:z0d) (x1:Int) (x2:Option (List Int)),xs=[.agg x0.cells,.int .i64 x1,slAV 1 (encI) x2]∧(z0d.ok) x0∧(okI) x1∧(okSl (okI)) x2:=by
 rw [Try.params4] at h
 obtain ⟨a0,b0,rfl,h0,h⟩:=h.cons_inv
 obtain ⟨a1,b1,rfl,h1,h⟩:=h.cons_inv
 obtain ⟨a2,b2,rfl,h2,h⟩:=h.cons_inv
 obtain rfl:=h.z7j
 obtain ⟨x0,rfl,k0⟩:=h0.agg_of (by kernel_rfl) (fun _ h=>z0d.of h:∀ cs,TyA Try.prog 32 cs→∃ x:z0d,cs=(z0d.cells) x∧(z0d.ok) x)
 obtain ⟨x1,rfl,k1⟩:=h1.zrp (enc:=fun x=>.int .i64 x) (by kernel_rfl) (fun _ h=>h.z2t Try.underlying3:∀ cs,TyA Try.prog 3 cs→∃ x:Int,cs=(encI) x∧(okI) x)
 obtain ⟨x2,rfl,k2⟩:=h2.zrp (enc:=fun x=>slAV 1 (encI) x) (by kernel_rfl) (fun _ h=>h.zfp Try.underlying29 (show Try.prog.cellsOf 3=1 by kernel_rfl) (by omega) (fun _ h=>h.z2t Try.underlying3):∀ cs,TyA Try.prog 29 cs→∃ x:Option (List Int),cs=(fun o=>[slAV 1 (encI) o]) x∧(okSl (okI)) x)
 exact ⟨x0,x1,x2,rfl,k0,k1,k2⟩
theorem ThreadApart_args {xs:List AV} (h:TyVs Try.prog Try.f3.params.toList xs):∃ (x0:z0d) (x1:Int) (x2:Int) (x3:Option (List Int)),xs=[.agg x0.cells,.int .i64 x1,.int .i64 x2,slAV 1 (encI) x3]∧(z0d.ok) x0∧(okI) x1∧(okI) x2∧(okSl (okI)) x3:=by
 rw [Try.params3] at h
 obtain ⟨a0,b0,rfl,h0,h⟩:=h.cons_inv
 obtain ⟨a1,b1,rfl,h1,h⟩:=h.cons_inv
 obtain ⟨a2,b2,rfl,h2,h⟩:=h.cons_inv
 obtain ⟨a3,b3,rfl,h3,h⟩:=h.cons_inv
 obtain rfl:=h.z7j
 obtain ⟨x0,rfl,k0⟩:=h0.agg_of (by kernel_rfl) (fun _ h=>z0d.of h:∀ cs,TyA Try.prog 32 cs→∃ x:z0d,cs=(z0d.cells) x∧(z0d.ok) x)
 obtain ⟨x1,rfl,k1⟩:=h1.zrp (enc:=fun x=>.int .i64 x) (by kernel_rfl) (fun _ h=>h.z2t Try.underlying3:∀ cs,TyA Try.prog 3 cs→∃ x:Int,cs=(encI) x∧(okI) x)
 obtain ⟨x2,rfl,k2⟩:=h2.zrp (enc:=fun x=>.int .i64 x) (by kernel_rfl) (fun _ h=>h.z2t Try.underlying3:∀ cs,TyA Try.prog 3 cs→∃ x:Int,cs=(encI) x∧(okI) x)
 obtain ⟨x3,rfl,k3⟩:=h3.zrp (enc:=fun x=>slAV 1 (encI) x) (by kernel_rfl) (fun _ h=>h.zfp Try.underlying29 (show Try.prog.cellsOf 3=1 by kernel_rfl) (by omega) (fun _ h=>h.z2t Try.underlying3):∀ cs,TyA Try.prog 29 cs→∃ x:Option (List Int),cs=(fun o=>[slAV 1 (encI) o]) x∧(okSl (okI)) x)
 exact ⟨x0,x1,x2,x3,rfl,k0,k1,k2,k3⟩
structure z0n where
 Kind:Int
 Path:z0e
 deriving DecidableEq,Inhabited
def z0n.cells (x:z0n):List AV:=[.int .i64 x.Kind,.bool x.Path.Global,.int .i64 x.Path.N,slAV 1 (encI) x.Path.Fields]
theorem z0n.c0 (x:z0n) (K:AV→Prop):z03 none x.cells 0 K=K (.int .i64 x.Kind):=by simp [z03,z0n.cells,z0e.cells]
theorem z0n.c1 (x:z0n) (K:AV→Prop):z03 none x.cells 1 K=K (.bool x.Path.Global):=by simp [z03,z0n.cells,z0e.cells]
theorem z0n.c2 (x:z0n) (K:AV→Prop):z03 none x.cells 2 K=K (.int .i64 x.Path.N):=by simp [z03,z0n.cells,z0e.cells]
theorem z0n.c3 (x:z0n) (K:AV→Prop):z03 none x.cells 3 K=K (slAV 1 (encI) x.Path.Fields):=by simp [z03,z0n.cells,z0e.cells]
theorem z0n.call (x:z0n) (K:AV→Prop):z03 (some 4) x.cells 0 K=K (.agg x.cells):=by simp [z03,z0n.cells,z0e.cells]
theorem z0n.cs1_3 (x:z0n) (K:AV→Prop):z03 (some 3) x.cells 1 K=K (.agg x.Path.cells):=by simp [z03,z0n.cells,z0e.cells]
theorem z0n.put (x:z0n) (h:z00) (ty:TypeId) (K:z00→Prop):z1f 4 (.ptr h.next 0) (.agg x.cells) (h.push (.row ty [.int .i64 0,.bool false,.int .i64 0,.nils])) K=K (h.push (.row ty x.cells)):=z1a (by rfl) (by rfl) K
theorem z0n.r:(type_of% @z0n.c0)∧(type_of% @z0n.c1)∧(type_of% @z0n.c2)∧(type_of% @z0n.c3)∧(type_of% @z0n.call)∧(type_of% @z0n.cs1_3)∧(type_of% @z0n.put):=⟨@z0n.c0,@z0n.c1,@z0n.c2,@z0n.c3,@z0n.call,@z0n.cs1_3,@z0n.put⟩
structure z15 where
 Slots:Option (List (Option (List Nat)))
 Globals:Option (List Nat)
 Fields:Option (List (Option (List Nat)))
 deriving DecidableEq,Inhabited
def z15.cells (x:z15):List AV:=[slAV 1 (fun o=>[slAV 1 (encN) o]) x.Slots,slAV 1 (encN) x.Globals,slAV 1 (fun o=>[slAV 1 (encN) o]) x.Fields]
theorem z15.c0 (x:z15) (K:AV→Prop):z03 none x.cells 0 K=K (slAV 1 (fun o=>[slAV 1 (encN) o]) x.Slots):=by simp [z03,z15.cells]
theorem z15.c1 (x:z15) (K:AV→Prop):z03 none x.cells 1 K=K (slAV 1 (encN) x.Globals):=by simp [z03,z15.cells]
theorem z15.c2 (x:z15) (K:AV→Prop):z03 none x.cells 2 K=K (slAV 1 (fun o=>[slAV 1 (encN) o]) x.Fields):=by simp [z03,z15.cells]
theorem z15.call (x:z15) (K:AV→Prop):z03 (some 3) x.cells 0 K=K (.agg x.cells):=by simp [z03,z15.cells]
theorem z15.put (x:z15) (h:z00) (ty:TypeId) (K:z00→Prop):z1f 3 (.ptr h.next 0) (.agg x.cells) (h.push (.row ty [.nils,.nils,.nils])) K=K (h.push (.row ty x.cells)):=z1a (by rfl) (by rfl) K
theorem z15.r:(type_of% @z15.c0)∧(type_of% @z15.c1)∧(type_of% @z15.c2)∧(type_of% @z15.call)∧(type_of% @z15.put):=⟨@z15.c0,@z15.c1,@z15.c2,@z15.call,@z15.put⟩
structure z0y where
 Thread:Int
 Real:Bool
 Bits:Nat
 deriving DecidableEq,Inhabited
def z0y.cells (x:z0y):List AV:=[.int .i64 x.Thread,.bool x.Real,.int .u64 (x.Bits:Nat)]
theorem z0y.c0 (x:z0y) (K:AV→Prop):z03 none x.cells 0 K=K (.int .i64 x.Thread):=by simp [z03,z0y.cells]
theorem z0y.c1 (x:z0y) (K:AV→Prop):z03 none x.cells 1 K=K (.bool x.Real):=by simp [z03,z0y.cells]
theorem z0y.c2 (x:z0y) (K:AV→Prop):z03 none x.cells 2 K=K (.int .u64 (x.Bits:Nat)):=by simp [z03,z0y.cells]
theorem z0y.call (x:z0y) (K:AV→Prop):z03 (some 3) x.cells 0 K=K (.agg x.cells):=by simp [z03,z0y.cells]
theorem z0y.put (x:z0y) (h:z00) (ty:TypeId) (K:z00→Prop):z1f 3 (.ptr h.next 0) (.agg x.cells) (h.push (.row ty [.int .i64 0,.bool false,.int .u64 0])) K=K (h.push (.row ty x.cells)):=z1a (by rfl) (by rfl) K
theorem z0y.r:(type_of% @z0y.c0)∧(type_of% @z0y.c1)∧(type_of% @z0y.c2)∧(type_of% @z0y.call)∧(type_of% @z0y.put):=⟨@z0y.c0,@z0y.c1,@z0y.c2,@z0y.call,@z0y.put⟩
theorem tyr:(type_of% @z0a.r)∧(type_of% @z09.r)∧(type_of% @z07.r)∧(type_of% @z0q.r)∧(type_of% @z0s.r)∧(type_of% @z0b.r)∧(type_of% @z0l.r)∧(type_of% @z0e.r)∧(type_of% @z05.r)∧(type_of% @z0d.r)∧(type_of% @z0n.r)∧(type_of% @z15.r)∧(type_of% @z0y.r):=⟨@z0a.r,@z09.r,@z07.r,@z0q.r,@z0s.r,@z0b.r,@z0l.r,@z0e.r,@z05.r,@z0d.r,@z0n.r,@z15.r,@z0y.r⟩
end Go.Proofs.Ytjlogcfggfmacaa
end

section
set_option maxRecDepth 100000
namespace Go.Proofs.Ytjlogcfggfmacaa
open Go.Abs
theorem z08:Try.prog.follows .mixedOrders=true:=by kernel_rfl
noncomputable abbrev P_:=Try.prog
section
variable (a0 a1 a2 s0 s1 s2 s5 s6 s7 s8 s9 s10 s11 s12 s20 s21 s22 s38 s39 s40 s49 s50 s51 s66 s67 s68:AV) (h:z00) (R:AV→z00→Prop) (Q:z1k→Fr→z00→Prop)
def zr3:=mkG [1] [(5,[4,5]),(10,[4,9])] [5,10] []
theorem zon (H:qM true 58 a0 h fun a b=>qG 0 a b fun a=>qQ (fun c=>qE a (n6 1) fun d=>qI d (c (frOf [(4,a),(5,d)]) b) (qE a (n6 2) fun d=>qI d (c (frOf
 [(4,a),(5,d)]) b) (qE a (n6 3) fun d=>c (frOf [(4,a),(5,d)]) b))) fun a b=>qI (a 5) (R n0 b) (qQ (fun c=>qE (a 4) (n6 4) fun d=>qI d (c (frOf [(4,a 4),(9,d)]) b)
 (qE (a 4) (n6 5) fun d=>qI d (c (frOf [(4,a 4),(9,d)]) b) (qE (a 4) (n6 6) fun d=>qI d (c (frOf [(4,a 4),(9,d)]) b) (qE (a 4) (n6 7) fun d=>c (frOf [(4,a 4),(9,d)])
 b)))) fun a b=>qI (a 9) (R (n6 1) b) (qE (a 4) (n6 8) fun c=>qI c (qI c (R (n6 2) b) (R (n6 (-1)) b)) (qE (a 4) (n6 9) fun c=>qI c (qI c (R (n6 2) b) (R (n6 (-1))
 b)) (qC .eql (a 4) (n6 10) (R (n6 2) b) (R (n6 (-1)) b)))))):z01 P_ 75 [a0] h R:=cI zr3 z08 Try.func75 Try.ntmps75 Try.call75 (by kernel_rfl) (by kernel_rfl)
 H
def ztc:=mkG [2,21,86] [] [] []
theorem zqi (H:qM true 58 a0 h fun a b=>qG 0 a b fun c=>qC .eql c (n6 1) (qG 1 a b fun a=>qE a n0 fun a=>R a b) (qC .eql c (n6 2) (qG 1 a b fun c=>qE c n0
 fun c=>qU c true 6 b (fun c=>qH 2 a b fun a d=>z9c (maxA [a1,n0]) (later (fun e=>z2e (.int .u64) e b (later (fun f=>qB .lss d f fun g=>c [a,d,a1,e,f,g] b) ()))
 ())) fun a b=>qP c (nth a 5) bF fun a=>R a b) (qC .eql c (n6 3) (qG 1 a b fun c=>qE c n0 fun c=>qU c true 3 b (fun c=>qH 2 a b fun a d=>qB .lss d (nU 16) fun e=>c
 [a,d,e] b) fun a b=>qP c (nth a 2) bF fun a=>R a b) (qC .eql c (n6 8) (qG 2 a b fun c=>qE c (nU 0) fun c=>qU c true 3 b (fun c=>qH 1 a b fun a d=>qB .geq d n0 fun
 e=>c [a,d,e] b) fun b d=>qP c (nth b 2) bF fun b=>qU b true 3 d (fun b=>qH 1 a d fun a c=>qB .leq c (n6 8) fun e=>b [a,c,e] d) fun a c=>qP b (nth a 2) bF fun a=>R
 a c) (qC .eql c (n6 9) (qG 2 a b fun c=>qE c (nU 0) fun c=>qU c true 3 b (fun c=>qH 1 a b fun a d=>qB .geq d n0 fun e=>c [a,d,e] b) fun b d=>qP c (nth b 2) bF fun
 b=>qU b true 3 d (fun b=>qH 1 a d fun a c=>qB .leq c (n6 8) fun e=>b [a,c,e] d) fun c d=>qP b (nth c 2) bF fun b=>qU b true 3 d (fun b=>qH 1 a d fun a c=>qB .neq
 c (n6 4) fun e=>b [a,c,e] d) fun a c=>qP b (nth a 2) bF fun a=>R a c) (qC .eql c (n6 10) (qG 2 a b fun c=>qE c (nU 0) fun c=>qU c true 4 b (fun c=>qH 1 a b fun a
 d=>qE d (n6 5) fun e=>c [a,d,e,e] b) fun b d=>qU (nth b 3) false 3 d (fun b=>qH 1 a d fun a c=>qE c (n6 6) fun e=>b [a,c,e] d) fun a d=>qU c true 1 d (fun c=>qP (nth
 b 3) bT (nth a 2) fun a=>c [a] d) fun a b=>qP c (nth a 0) bF fun a=>R a b) (qK 3 a b fun c=>qS P_ 75 [c] b fun b c=>qE b (n6 1) fun b=>qU b true 3 c (fun b=>qH 1
 a c fun a d=>qE d n0 fun e=>b [a,d,e] c) fun c d=>qP b (nth c 2) bF fun b=>qU b true 3 d (fun b=>qH 2 a d fun a c=>qE c (nU 0) fun e=>b [a,c,e] d) fun a c=>qP b (nth
 a 2) bF fun a=>R a c))))))):z01 P_ 74 [a0,a1] h R:=cI ztc z08 Try.func74 Try.ntmps74 Try.call74 (by kernel_rfl) (by kernel_rfl) H
def zl8:=mkG [9,16,21,26,34] [(3,[0,1,5,8,9,10])] [] []
noncomputable def zgx:=lpOf 3 Try.f59
theorem zqh (H:qn a1 fun a=>qw P_ 37 zgx [(0,a0),(1,a1),(5,n0),(8,a1),(9,a),(10,n0)] h (fun a b c=>q5 a (qE (b 5) (n6 1) fun a=>qU a true 3 c (fun
 a=>qn (b 1) fun d=>qB .leq d (n6 64) fun e=>a [b 1,d,e] c) fun b c=>qP a (nth b 2) bF fun a=>R a c)) fun a b=>R (a 4) b):z01 P_ 59 [a0,a1] h R:=cI zl8
 z08 Try.func59 Try.ntmps59 Try.call59 (by kernel_rfl) (by kernel_rfl) H
theorem zkx (H:qC .lss s10 s9 (qY 3 s8 s10 h fun a=>qA 58 [n0,n0,nU 0] h fun b c=>qT 3 b a c fun a=>qK 3 b a fun c=>qS P_ 74 [c,s0] a fun a c=>qN a fun
 a=>qU a false 4 c (fun a=>qK 3 b c fun b=>qS P_ 75 [b] c fun c d=>qB .lss s5 c fun e=>a [s5,b,c,e] d) fun c d=>qP a bT (nth c 3) fun a=>qI a (Q .ret (frOf [(4,bF)])
 d) (qK 3 b d fun a=>qS P_ 75 [a] d fun a b=>qB .sub (n6 1) a fun a=>qB .add s5 a fun a=>qB .add s10 (n6 1) fun c=>Q .normal (frOf [(0,s0),(1,s1),(5,a),(8,s8),(9,s9),(10,c)])
 b)) (Q (.exit 0) (frOf [(1,s1),(5,s5)]) h)):WP P_ 37 zgx (frOf [(0,s0),(1,s1),(5,s5),(8,s8),(9,s9),(10,s10)]) h Q:=z0u zl8 [0] [0,1,5,8,9,10]
 [1,5] [4] z08 (by kernel_rfl) (Eq.mpr (by kernel_rfl) H)
def zot:=mkG [3,17,25] [] [] []
theorem zmn (H:qM true 58 a0 h fun a b=>qG 0 a b fun c=>qC .eql c (n6 9) (qG 1 a b fun a=>qS P_ 76 [a,a1,a2] b fun a b=>R (.tup [a,bT]) b) (qG 1 a b fun
 a=>z2e (.int .i64) a1 b (later (fun c=>z2e (.int .i64) a2 b (later (fun d=>qS P_ 77 [a,c,d] b fun a b=>qx 0 a fun c=>qx 1 a fun a=>z2e (.int .u64) c b (later
 (fun c=>R (.tup [c,a]) b) ())) ())) ()))):z01 P_ 60 [a0,a1,a2] h R:=cI zot z08 Try.func60 Try.ntmps60 Try.call60 (by kernel_rfl) (by kernel_rfl) H
def zr4:=mkG [13,18,20] [] [] []
theorem zoo (H:qC .eql a0 (n6 4) (z9c (unA .neg a1) (later (fun a=>R a h) ())) (qC .eql a0 (n6 5) (qS P_ 78 [a1] h fun a b=>R a b) (qC .eql a0 (n6 6)
 (z2e (.int .i64) a1 h (later (fun a=>qS P_ 79 [a] h fun a b=>R a b) ())) (qS P_ 80 [a1] h fun a b=>z2e (.int .u64) a b (later (fun a=>R a b) ()))))):z01 P_
 61 [a0,a1] h R:=cI zr4 z08 Try.func61 Try.ntmps61 Try.call61 (by kernel_rfl) (by kernel_rfl) H
def zl7:=mkG [16,18,21,27,40,47,57,65,75,93,103] [(5,[0,1,8,20,21,22]),(22,[0,1,8,10,11,20,21,22,77])] [22] []
noncomputable def zc4:=lpOf 5 Try.f41
theorem zqg (H:qn a0 fun a=>qS P_ 59 [a,a2] h fun a b=>qN a fun a=>qI a (R (.tup [nU 0,n0]) b) (qn a2 fun a=>qw P_ 109 zc4 [(0,a0),(1,a1),(8,.nils),(20,a2),(21,a),(22,n0)]
 b (fun a b c=>q5 a (qZ 1 (b 8) n0 c fun a=>R (.tup [a,n0]) c)) fun a b=>R (.tup [a 6,a 7]) b)):z01 P_ 41 [a0,a1,a2] h R:=cI zl7 z08 Try.func41 Try.ntmps41
 Try.call41 (by kernel_rfl) (by kernel_rfl) H
theorem zdf (H:qC .lss s22 s21 (qY 3 s20 s22 h fun a=>qA 58 [n0,n0,nU 0] h fun b c=>qT 3 b a c fun a=>qn s8 fun c=>qG 0 b a fun d=>qC .eql d (n6 1) (qG
 2 b a fun b=>(1=0→[(0,Operand.tmp 46)]=[])∧z0m true ⟨56,1,8⟩ [nU 0] 1 [(0,b)] a (later (fun a b=>q1 (q7 false ⟨56,1,8⟩ s8 a b fun a b=>qB .add s22 (n6 1) fun
 c=>Q .normal (frOf [(0,s0),(1,s1),(8,a),(20,s20),(21,s21),(22,c)]) b)) ())) (qC .eql d (n6 2) (qG 2 b a fun b=>qZ 1 s0 b a fun b=>(1=0→[(0,Operand.tmp 56)]=[])∧z0m
 true ⟨56,1,8⟩ [nU 0] 1 [(0,b)] a (later (fun a b=>q1 (q7 false ⟨56,1,8⟩ s8 a b fun a b=>qB .add s22 (n6 1) fun c=>Q .normal (frOf [(0,s0),(1,s1),(8,a),(20,s20),(21,s21),(22,c)])
 b)) ())) (qC .eql d (n6 3) (qG 2 b a fun c=>z2e (.int .i64) c a (later (fun c=>qn s1 fun d=>qC .lss c d (qG 2 b a fun b=>qZ 1 s1 b a fun b=>z2e (.int .u64) b
 a (later (fun b=>(1=0→[(0,Operand.tmp 74)]=[])∧z0m true ⟨56,1,8⟩ [nU 0] 1 [(0,b)] a (later (fun a b=>q1 (q7 false ⟨56,1,8⟩ s8 a b fun a b=>qB .add s22 (n6 1)
 fun c=>Q .normal (frOf [(0,s0),(1,s1),(8,a),(20,s20),(21,s21),(22,c)]) b)) ())) ())) (z2e (.int .u64) n0 a (later (fun b=>(1=0→[(0,Operand.tmp 74)]=[])∧z0m
 true ⟨56,1,8⟩ [nU 0] 1 [(0,b)] a (later (fun a b=>q1 (q7 false ⟨56,1,8⟩ s8 a b fun a b=>qB .add s22 (n6 1) fun c=>Q .normal (frOf [(0,s0),(1,s1),(8,a),(20,s20),(21,s21),(22,c)])
 b)) ())) ()))) ())) (qQ (fun e=>qE d (n6 8) fun f=>qI f (e (frOf [(0,s0),(1,s1),(8,s8),(10,b),(11,c),(20,s20),(21,s21),(22,s22),(77,f)]) a) (qE d (n6 9) fun f=>qI
 f (e (frOf [(0,s0),(1,s1),(8,s8),(10,b),(11,c),(20,s20),(21,s21),(22,s22),(77,f)]) a) (qE d (n6 10) fun d=>e (frOf [(0,s0),(1,s1),(8,s8),(10,b),(11,c),(20,s20),(21,s21),(22,s22),(77,d)])
 a))) fun a b=>qI (a 77) (q1 (qK 3 (a 10) b fun c=>qB .sub (a 11) (n6 2) fun d=>qZ 1 (a 8) d b fun d=>qB .sub (a 11) (n6 1) fun e=>qZ 1 (a 8) e b fun e=>qS P_ 60 [c,d,e]
 b fun b c=>q2 (qx 0 b fun d=>qx 1 b fun b=>qN b fun b=>qI b (Q .ret (frOf [(6,nU 0),(7,n6 1)]) c) (qB .sub (a 11) (n6 2) fun b=>qs 1 (a 8) none (some b) fun b=>(1=0→[(0,Operand.tmp
 102)]=[])∧z0m true ⟨56,1,8⟩ [nU 0] 1 [(0,d)] c (later (fun c d=>q1 (q7 false ⟨56,1,8⟩ b c d fun b c=>qB .add (a 22) (n6 1) fun d=>Q .normal (frOf (kq a [0,1]
 [(8,b),(20,a 20),(21,a 21),(22,d)])) c)) ()))))) (q1 (qB .sub (a 11) (n6 1) fun c=>qG 0 (a 10) b fun d=>qB .sub (a 11) (n6 1) fun e=>qZ 1 (a 8) e b fun e=>qS P_ 61
 [d,e] b fun b d=>q2 (qX 1 (a 8) c fun c=>qT 1 c b d fun b=>q2 (qB .add (a 22) (n6 1) fun c=>Q .normal (frOf (kq a [0,1,8,20,21] [(22,c)])) b)))))))) (Q (.exit 0)
 (frOf [(8,s8)]) h)):WP P_ 109 zc4 (frOf [(0,s0),(1,s1),(8,s8),(20,s20),(21,s21),(22,s22)]) h Q:=z0u zl7 [0] [0,1,8,20,21,22] [8] [6,7] z08
 (by kernel_rfl) (Eq.mpr (by kernel_rfl) H)
def zou:=mkG [1] [(9,[1,5])] [9] []
theorem zmp (H:qM true 40 a0 h fun a b=>qG 0 a b fun c=>qQ (fun d=>qE c (n6 1) fun e=>qI e (d (frOf [(1,a),(5,e)]) b) (qE c (n6 2) fun e=>qI e (d (frOf
 [(1,a),(5,e)]) b) (qE c (n6 3) fun e=>qI e (d (frOf [(1,a),(5,e)]) b) (qE c (n6 4) fun e=>qI e (d (frOf [(1,a),(5,e)]) b) (qE c (n6 8) fun e=>qI e (d (frOf [(1,a),(5,e)])
 b) (qE c (n6 9) fun e=>qI e (d (frOf [(1,a),(5,e)]) b) (qE c (n6 10) fun c=>d (frOf [(1,a),(5,c)]) b))))))) fun a b=>qI (a 5) (qG 1 (a 1) b fun a=>R a b) (R (n6 (-1))
 b)):z01 P_ 30 [a0] h R:=cI zou z08 Try.func30 Try.ntmps30 Try.call30 (by kernel_rfl) (by kernel_rfl) H
def z3l:=mkG [1,11,16,22,28,34,39,45,50,57,62,67,74,79] [(4,[1,38,39,40]),(10,[49,50,51]),(15,[49,50,51,66,67,68])] [] [(1,[(14,[1,31,35])])]
noncomputable def z7d:=lpOf 4 Try.f26
noncomputable def z6u:=lpOf 10 Try.f26
noncomputable def z3y:=lpOf 15 Try.f26
theorem ze0 (H:qM true 28 a0 h fun a b=>qG 0 a b fun c=>qn c fun c=>qB .gtr c (n6 20) fun c=>qU c false 4 b (fun c=>qH 1 a b fun a d=>qn d fun e=>qB
 .gtr e (n6 100) fun f=>c [a,d,e,f] b) fun b d=>qP c bT (nth b 3) fun b=>qU b false 4 d (fun b=>qH 2 a d fun a c=>qn c fun e=>qB .gtr e (n6 8) fun f=>b [a,c,e,f] d)
 fun c d=>qP b bT (nth c 3) fun b=>qU b false 4 d (fun b=>qH 3 a d fun a c=>qn c fun e=>qB .gtr e (n6 100) fun f=>b [a,c,e,f] d) fun c d=>qP b bT (nth c 3) fun b=>qU
 b false 4 d (fun b=>qH 4 a d fun a c=>qn c fun e=>qB .gtr e (n6 100) fun f=>b [a,c,e,f] d) fun c d=>z5z [a,b,nth c 3] (later (fun a=>qP (nth a 1) bT (nth a 2)
 fun b=>qI b (R bT d) (qG 0 (nth a 0) d fun b=>qn b fun c=>qw P_ 84 z7d [(1,nth a 0),(38,b),(39,c),(40,n0)] d (fun a b c=>q5 a (qG 2 (b 1) c fun
 a=>qn a fun b=>qw P_ 84 z6u [(49,a),(50,b),(51,n0)] c (fun a _ b=>pIdx a 2 (pIdx 2 2 (R bF b) False) False) fun a b=>R (a 2) b)) fun a b=>R (a
 2) b)) ())):z01 P_ 26 [a0] h R:=cI z3l z08 Try.func26 Try.ntmps26 Try.call26 (by kernel_rfl) (by kernel_rfl) H
theorem zbl (H:qC .lss s40 s39 (qZ 1 s38 s40 h fun a=>qn a fun a=>qC .gtr a (n6 100) (Q .ret (frOf [(2,bT)]) h) (qB .add s40 (n6 1) fun a=>Q
 .normal (frOf [(1,s1),(38,s38),(39,s39),(40,a)]) h)) (Q (.exit 0) (frOf [(1,s1)]) h)):WP P_ 84 z7d (frOf [(1,s1),(38,s38),(39,s39),(40,s40)]) h
 Q:=z0u z3l [0] [1,38,39,40] [1] [2] z08 (by kernel_rfl) (Eq.mpr (by kernel_rfl) H)
theorem zal (H:qC .lss s51 s50 (qY 3 s49 s51 h fun a=>qA 37 [.nils,.nils,n0] h fun b c=>qT 3 b a c fun a=>qG 0 b a fun c=>qn c fun c=>qB .gtr
 c (n6 300) fun c=>qU c false 4 a (fun c=>qH 1 b a fun b d=>qn d fun e=>qB .gtr e (n6 600) fun f=>c [b,d,e,f] a) fun a d=>qP c bT (nth a 3) fun a=>qI a (Q .ret (frOf
 [(2,bT)]) d) (qG 1 b d fun a=>qn a fun b=>qw P_ 84 z3y [(49,s49),(50,s50),(51,s51),(66,a),(67,b),(68,n0)] d (fun a b c=>pIdx a 4 (pIdx 4 4 (qB
 .add (b 51) (n6 1) fun a=>Q .normal (frOf (kq b [49,50] [(51,a)])) c) (pIdx 4 3 (qB .add (b 51) (n6 1) fun a=>Q .normal (frOf (kq b [49,50] [(51,a)])) c) (Q (.exit
 4) (frOf []) c))) False) fun a b=>Q .ret (frOf [(2,a 2)]) b)) (Q (.exit 2) (frOf []) h)):WP P_ 84 z6u (frOf [(49,s49),(50,s50),(51,s51)]) h Q:=z0u
 z3l [2] [49,50,51] [] [2] z08 (by kernel_rfl) (Eq.mpr (by kernel_rfl) H)
theorem zam (H:qC .lss s68 s67 (qY 8 s66 s68 h fun a=>qA 40 [n0,n0,n0,n0,n0,n0,.nils,.nils] h fun b c=>qT 8 b a c fun a=>qG 6 b a fun c=>qn
 c fun c=>qB .gtr c (n6 200) fun c=>qU c false 4 a (fun c=>qH 7 b a fun b d=>qn d fun e=>qB .gtr e (n6 200) fun f=>c [b,d,e,f] a) fun a b=>qP c bT (nth a 3) fun a=>qI
 a (Q .ret (frOf [(2,bT)]) b) (qB .add s68 (n6 1) fun a=>Q .normal (frOf [(49,s49),(50,s50),(51,s51),(66,s66),(67,s67),(68,a)]) b)) (Q (.exit 4) (frOf [(49,s49),(50,s50),(51,s51)])
 h)):WP P_ 84 z3y (frOf [(49,s49),(50,s50),(51,s51),(66,s66),(67,s67),(68,s68)]) h Q:=z0u z3l [4,3,2] [49,50,51,66,67,68]
 [49,50,51] [2] z08 (by kernel_rfl) (Eq.mpr (by kernel_rfl) H)
def zis:=mkG [] [] [] []
theorem zhw (H:qB .geq a0 n0 fun a=>qU a true 3 h (fun a=>qB .lss a0 a1 fun b=>a [a0,a1,b] h) fun b c=>qP a (nth b 2) bF fun a=>R a c):z01 P_ 48
 [a0,a1] h R:=cI zis z08 Try.func48 Try.ntmps48 Try.call48 (by kernel_rfl) (by kernel_rfl) H
def zf7:=mkG [2,3,12,13] [] [] []
theorem ze1 (H:qM true 28 a0 h fun a b=>qM true 105 a1 b fun b c=>qG 0 b c fun d=>qC .eql d (n6 4) (qG 1 b c fun b=>qG 0 a c fun a=>qn a fun a=>qS
 P_ 48 [b,a] c fun a b=>R a b) (qG 0 b c fun a=>qE a (n6 1) fun a=>qU a false 3 c (fun a=>qH 0 b c fun b d=>qE d (n6 2) fun e=>a [b,d,e] c) fun c d=>qP a bT (nth c
 2) fun a=>qU a false 3 d (fun a=>qH 0 b d fun b c=>qE c (n6 3) fun e=>a [b,c,e] d) fun c d=>qP a bT (nth c 2) fun a=>qU a true 3 d (fun a=>qH 1 b d fun b c=>qE c
 n0 fun e=>a [b,c,e] d) fun b c=>qP a (nth b 2) bF fun a=>R a c)):z01 P_ 47 [a0,a1] h R:=cI zf7 z08 Try.func47 Try.ntmps47 Try.call47 (by kernel_rfl)
 (by kernel_rfl) H
def zh6:=mkG [4,10] [] [] []
theorem zgl (H:(18=0→[(0,Operand.const (Value.string ⟨⟨[]⟩⟩)),(1,Operand.const (Value.string ⟨⟨[100,105]⟩⟩)),(2,Operand.const (Value.string ⟨⟨[100,110]⟩⟩)),(3,Operand.const
 (Value.string ⟨⟨[100,115,114,110]⟩⟩)),(4,Operand.const (Value.string ⟨⟨[100,115,120]⟩⟩)),(5,Operand.const (Value.string ⟨⟨[110,105]⟩⟩)),(6,Operand.const (Value.string
 ⟨⟨[115,114,110,105]⟩⟩)),(7,Operand.const (Value.string ⟨⟨[115,120,105]⟩⟩)),(8,Operand.const (Value.string ⟨⟨[100,114,110]⟩⟩)),(9,Operand.const (Value.string ⟨⟨[100,105,110]⟩⟩)),(10,Operand.const
 (Value.string ⟨⟨[100,115]⟩⟩)),(11,Operand.const (Value.string ⟨⟨[105]⟩⟩)),(12,Operand.const (Value.string ⟨⟨[105]⟩⟩)),(13,Operand.const (Value.string ⟨⟨[116]⟩⟩)),(14,Operand.const
 (Value.string ⟨⟨[116,105]⟩⟩)),(15,Operand.const (Value.string ⟨⟨[110]⟩⟩)),(16,Operand.const (Value.string ⟨⟨[110]⟩⟩)),(17,Operand.const (Value.string ⟨⟨[]⟩⟩))]=[])∧z0m
 true ⟨9,1,16⟩ [.str []] 18 [(0,.str []),(1,.str [100,105]),(2,.str [100,110]),(3,.str [100,115,114,110]),(4,.str [100,115,120]),(5,.str [110,105]),(6,.str [115,114,110,105]),(7,.str
 [115,120,105]),(8,.str [100,114,110]),(9,.str [100,105,110]),(10,.str [100,115]),(11,.str [105]),(12,.str [105]),(13,.str [116]),(14,.str [116,105]),(15,.str [110]),(16,.str
 [110]),(17,.str [])] h (later (fun a b=>qB .lss a0 (n6 1) fun c=>qU c false 4 b (fun c=>qn a fun d=>qB .geq a0 d fun e=>c [a0,a,d,e] b) fun b d=>qP c bT (nth b 3)
 fun b=>qI b (R (.str [63]) d) (qZ 1 a a0 d fun a=>R a d)) ())):z01 P_ 63 [a0] h R:=cI zh6 z08 Try.func63 Try.ntmps63 Try.call63 (by kernel_rfl)
 (by kernel_rfl) H
def z9z:=mkG [8] [(2,[0,1,5])] [] []
noncomputable def z8n:=lpOf 2 Try.f64
theorem zgm (H:qw P_ 17 z8n [(0,a0),(1,a1),(5,n0)] h (fun a _ b=>q5 a (R bF b)) fun a b=>R (a 4) b):z01 P_ 64 [a0,a1] h R:=cI
 z9z z08 Try.func64 Try.ntmps64 Try.call64 (by kernel_rfl) (by kernel_rfl) H
theorem zd5 (H:q9 .str s0 fun a=>qC .lss s5 a (z9g s0 s5 (later (fun a=>qC .eql a s1 (Q .ret (frOf [(4,bT)]) h) (qB .add s5 (n6 1) fun a=>Q
 .normal (frOf [(0,s0),(1,s1),(5,a)]) h)) ())) (Q (.exit 0) (frOf []) h)):WP P_ 17 z8n (frOf [(0,s0),(1,s1),(5,s5)]) h Q:=z0u z9z
 [0] [0,1,5] [] [4] z08 (by kernel_rfl) (Eq.mpr (by kernel_rfl) H)
def zf5:=mkG [2] [] [] [(2,[(11,[2,32,36])]),(9,[(15,[2,81])])]
theorem zdy (H:qM true 58 a0 h fun a b=>qG 0 a b fun c=>qB .geq c (n6 1) fun c=>qU c true 3 b (fun c=>qH 0 a b fun a d=>qB .leq d (n6 3) fun e=>c
 [a,d,e] b) fun b d=>qP c (nth b 2) bF fun b=>qI b (qG 1 a d fun b=>qB .neq b n0 fun b=>qU b false 4 d (fun b=>qH 0 a d fun a c=>qE c (n6 2) fun e=>b [a,c,e,e] d)
 fun c d=>qU (nth c 3) true 3 d (fun a=>qB .leq a1 n0 fun b=>a [a1,b,b] d) fun d e=>qU (nth d 2) false 5 e (fun b=>qH 2 a e fun a c=>z2e (.int .u64) a1 e (later
 (fun d=>qB .geq c d fun f=>b [a,c,a1,d,f] e) ())) fun e f=>qU (nth c 3) true 1 f (fun a=>qP (nth d 2) bT (nth e 4) fun b=>a [b] f) fun d e=>qU b false 1 e (fun a=>qP
 (nth c 3) (nth d 0) bF fun b=>a [b] e) fun c d=>qP b bT (nth c 0) fun b=>qU b false 4 d (fun b=>qH 0 a d fun a c=>qE c (n6 3) fun e=>b [a,c,e,e] d) fun c d=>z5z
 [a,b,nth c 3] (later (fun a=>qU (nth a 2) true 3 d (fun b=>qH 2 (nth a 0) d fun a c=>qB .geq c (nU 16) fun e=>b [a,c,e] d) fun b c=>qU (nth a 1) false 1 c (fun d=>qP
 (nth a 2) (nth b 2) bF fun a=>d [a] c) fun b c=>qP (nth a 1) bT (nth b 0) fun a=>qI a (R (n6 (-1)) c) (R n0 c)) ())) (qG 0 a d fun b=>qB .geq b (n6 4) fun b=>qU b
 true 3 d (fun b=>qH 0 a d fun a c=>qB .leq c (n6 7) fun e=>b [a,c,e] d) fun c d=>qP b (nth c 2) bF fun b=>qI b (qG 1 a d fun b=>qB .neq b n0 fun b=>qU b false 3 d
 (fun b=>qH 2 a d fun a c=>qB .neq c (nU 0) fun e=>b [a,c,e] d) fun a c=>qP b bT (nth a 2) fun a=>qI a (R (n6 (-1)) c) (R (n6 1) c)) (qG 0 a d fun b=>qB .lss b (n6
 8) fun b=>qU b false 3 d (fun b=>qH 0 a d fun a c=>qB .gtr c (n6 10) fun e=>b [a,c,e] d) fun c d=>qP b bT (nth c 2) fun b=>qU b false 3 d (fun b=>qH 2 a d fun a c=>qB
 .neq c (nU 0) fun e=>b [a,c,e] d) fun c d=>qP b bT (nth c 2) fun b=>qU b false 3 d (fun b=>qH 1 a d fun a c=>qB .lss c n0 fun e=>b [a,c,e] d) fun c d=>qP b bT (nth
 c 2) fun b=>qU b false 3 d (fun b=>qH 1 a d fun a c=>qB .gtr c (n6 8) fun e=>b [a,c,e] d) fun c d=>qP b bT (nth c 2) fun b=>z5z [a,b] (later (fun a=>qU (nth a
 1) false 4 d (fun b=>qH 0 (nth a 0) d fun a c=>qE c (n6 9) fun e=>b [a,c,e,e] d) fun b c=>qU (nth b 3) true 3 c (fun b=>qH 1 (nth a 0) c fun a d=>qE d (n6 4) fun
 e=>b [a,d,e] c) fun c d=>qU (nth a 1) false 1 d (fun a=>qP (nth b 3) (nth c 2) bF fun b=>a [b] d) fun b c=>qP (nth a 1) bT (nth b 0) fun b=>qU b false 4 c (fun b=>qH
 0 (nth a 0) c fun a d=>qE d (n6 10) fun e=>b [a,d,e,e] c) fun c d=>qU (nth c 3) true 3 d (fun b=>qH 1 (nth a 0) d fun a c=>qB .neq c (n6 5) fun e=>b [a,c,e] d) fun
 d e=>qU b false 2 e (fun a=>qP (nth c 3) (nth d 2) bF fun b=>a [b,b] e) fun c d=>qU (nth c 1) true 3 d (fun b=>qH 1 (nth a 0) d fun a c=>qB .neq c (n6 6) fun e=>b
 [a,c,e] d) fun a d=>qU b false 1 d (fun b=>qP (nth c 1) (nth a 2) bF fun a=>b [a] d) fun a c=>qP b bT (nth a 0) fun a=>qI a (R (n6 (-1)) c) (R (n6 2) c)) ())))):z01
 P_ 81 [a0,a1] h R:=cI zf5 z08 Try.func81 Try.ntmps81 Try.call81 (by kernel_rfl) (by kernel_rfl) H
def z98:=mkG [9,20,35] [(3,[0,1,5,6])] [] []
noncomputable def z7t:=lpOf 3 Try.f65
theorem zfi (H:qn a0 fun a=>qB .sub a (n6 1) fun a=>qw P_ 38 z7t [(0,a0),(1,a1),(5,n6 1),(6,a)] h (fun a b c=>q5 a (qE (b 5) n0
 fun a=>qU a true 3 c (fun a=>qn (b 0) fun d=>qB .leq d (n6 64) fun e=>a [b 0,d,e] c) fun b c=>qP a (nth b 2) bF fun a=>R a c)) fun a b=>R (a 4) b):z01 P_ 65 [a0,a1]
 h R:=cI z98 z08 Try.func65 Try.ntmps65 Try.call65 (by kernel_rfl) (by kernel_rfl) H
theorem zce (H:qC .geq s6 n0 (qY 3 s0 s6 h fun a=>qS P_ 81 [a,s1] h fun a b=>qB .lss a n0 fun c=>qU c false 2 b (fun a=>qE s5 n0 fun c=>a [s5,c]
 b) fun b d=>qP c bT (nth b 1) fun b=>qI b (Q .ret (frOf [(4,bF)]) d) (qB .sub s5 (n6 1) fun b=>qB .add b a fun a=>qB .sub s6 (n6 1) fun b=>Q .normal (frOf [(0,s0),(1,s1),(5,a),(6,b)])
 d)) (Q (.exit 0) (frOf [(0,s0),(5,s5)]) h)):WP P_ 38 z7t (frOf [(0,s0),(1,s1),(5,s5),(6,s6)]) h Q:=z0u z98 [0] [0,1,5,6] [0,5]
 [4] z08 (by kernel_rfl) (Eq.mpr (by kernel_rfl) H)
def z7z:=mkG [3,11] [(2,[1,2,10,11,12])] [] []
noncomputable def z6v:=lpOf 2 Try.f66
theorem zd4 (H:qM true 28 a0 h fun a b=>qG 4 a b fun a=>qn a fun c=>qw P_ 35 z6v [(1,a1),(2,a2),(10,a),(11,c),(12,n0)] b (fun
 a _ b=>q5 a (R (n6 (-1)) b)) fun a b=>R (a 6) b):z01 P_ 66 [a0,a1,a2] h R:=cI z7z z08 Try.func66 Try.ntmps66 Try.call66 (by kernel_rfl) (by
 kernel_rfl) H
theorem zan (H:qC .lss s12 s11 (qY 3 s10 s12 h fun a=>qA 88 [n0,n0,n0] h fun b c=>qT 3 b a c fun a=>qG 0 b a fun c=>qE c s1 fun c=>qU c true
 4 a (fun c=>qH 1 b a fun b d=>qB .lss d s2 fun e=>c [b,d,s2,e] a) fun a d=>qP c (nth a 3) bF fun a=>qU a true 4 d (fun a=>qH 2 b d fun b c=>qB .leq s2 c fun e=>a
 [s2,b,c,e] d) fun b c=>qP a (nth b 3) bF fun a=>qI a (Q .ret (frOf [(6,s12)]) c) (qB .add s12 (n6 1) fun a=>Q .normal (frOf [(1,s1),(2,s2),(10,s10),(11,s11),(12,a)])
 c)) (Q (.exit 0) (frOf []) h)):WP P_ 35 z6v (frOf [(1,s1),(2,s2),(10,s10),(11,s11),(12,s12)]) h Q:=z0u z7z [0] [1,2,10,11,12]
 [] [6] z08 (by kernel_rfl) (Eq.mpr (by kernel_rfl) H)
end
end Go.Proofs.Ytjlogcfggfmacaa
end

section
set_option maxRecDepth 100000
namespace Go.Proofs.Ytjlogcfggfmacaa
open Go.Abs
section
variable (a0 a1 a2:AV) (h:z00) (R:AV→z00→Prop) (Q:z1k→Fr→z00→Prop)
def zf6:=mkG [3,26,31,41,51,61,71,81,86,92,97,103,105,110,115,120,126,131,137,142,148,154,155,160,166,167,173,178,194,203,208,216,231,232,263,264,287,288,351,352,378,379,399,400,429,430]
 [(4,[1,2,3,7,8,9]),(6,[1,2,3,7,8,9]),(9,[1,2,3,7,8,9]),(11,[1,2,3,7,8,9]),(15,[1,2,3,7,8,9]),(18,[1,2,3,7,8,9,11,12]),(20,[1,2,3,8,11,12]),(27,[1,2,3,8,11,12,224,265]),(33,[1,2,3,8,11,12,224,318]),(29,[3,8,11])]
 [4,6,9,11,15,18,20,27,29,33] [(4,[(25,[1,2,3,7,8,9,69,77]),(13,[1,2,3,7,8,9,49,53])]),(7,[(22,[1,2,3,7,8,9,146,149,156]),(11,[1,2,3,7,8,9,10,124,127])]),(41,[(10,[412,421])]),(43,[(10,[442,451])])]
def z0g (R:AV→z00→Prop) (fr':Fr) (v651:AV) (x658:List AV) (x666:List AV) (h667:z00):Prop :=qV v651 true 1 h667 (fun a=>qX
 3 (nth x658 0) (nth x666 0) fun b=>a [b] h667) fun a b=>qV v651 true 1 b (fun c=>qK 3 (nth a 0) b fun a=>c [a] b) fun a b=>qV v651 true 1 b (fun a=>a [fr' 1] b) fun
 b c=>qV v651 true 1 c (fun a=>a [fr' 2] c) fun c d=>qV v651 true 1 d (fun a=>qF 3 (fr' 8) fun b=>a [b] d) fun d e=>qV v651 true 1 e (fun a=>qL (nth d 0) e fun b=>a
 [b] e) fun d e=>qV v651 true 1 e (fun a=>q8 [(0,1),(1,1),(2,1)] [n0,n0,n0] [(0,nth b 0),(1,nth c 0),(2,nth d 0)] fun b=>a [b] e) fun b c=>qV v651 true 1 c (fun d=>qD
 (.flat [.int,.int,.int]) .eql (nth a 0) (nth b 0) fun a=>d [a] c) fun a b=>qP v651 (nth a 0) bF fun a=>R a b
def z0h (R:AV→z00→Prop) (J:Fr→z00→Prop) (x62:List AV) (v73:AV) (x78:List AV) (h79:z00):Prop :=qU (nth x78 3) true
 3 h79 (fun a=>qH 4 (nth x62 4) h79 fun b c=>qB .neq c n0 fun d=>a [b,c,d] h79) fun a b=>qU v73 false 1 b (fun c=>qP (nth x78 3) (nth a 2) bF fun a=>c [a] b) fun a
 b=>qP v73 bT (nth a 0) fun a=>qU a false 4 b (fun a=>qS P_ 64 [nth x62 5,n8 116] b fun b c=>qN b fun d=>a [nth x62 5,b,d,d] c) fun b c=>qU (nth b 3) true 3 c (fun
 a=>qH 5 (nth x62 4) c fun b d=>qB .neq d n0 fun e=>a [b,d,e] c) fun c d=>qU a false 1 d (fun a=>qP (nth b 3) (nth c 2) bF fun b=>a [b] d) fun b c=>z5z [nth x62
 0,nth x62 1,nth x62 2,nth x62 3,nth x62 4,nth x62 5,a,nth b 0] (later (fun a=>qP (nth a 6) bT (nth a 7) fun b=>qU b false 4 c (fun b=>qS P_ 64 [nth a 5,n8 105] c
 fun c d=>qN c fun e=>b [nth a 5,c,e,e] d) fun c d=>qU (nth c 3) true 4 d (fun b=>qH 6 (nth a 4) d fun a c=>qn c fun e=>qB .gtr e n0 fun f=>b [a,c,e,f] d) fun d e=>qU
 b false 1 e (fun a=>qP (nth c 3) (nth d 3) bF fun b=>a [b] e) fun c d=>qP b bT (nth c 0) fun b=>qU b false 4 d (fun b=>qS P_ 64 [nth a 5,n8 120] d fun c d=>qN c fun
 e=>b [nth a 5,c,e,e] d) fun c d=>qU (nth c 3) true 4 d (fun b=>qH 7 (nth a 4) d fun a c=>qn c fun e=>qB .gtr e n0 fun f=>b [a,c,e,f] d) fun d e=>qU b false 1 e (fun
 a=>qP (nth c 3) (nth d 3) bF fun b=>a [b] e) fun c d=>qP b bT (nth c 0) fun b=>qI b (R bF d) (J (frOf [(1,nth a 0),(2,nth a 1),(3,nth a 2),(7,nth a 3),(8,nth a 4),(9,nth
 a 5)]) d)) ())
def z0i (R:AV→z00→Prop) (J:Fr→z00→Prop) (x182:List AV) (x193:List AV) (h194:z00):Prop :=qP (nth x182 7) bT (nth x193
 0) fun a=>qU a false 3 h194 (fun a=>qS P_ 64 [nth x182 5,n8 120] h194 fun b c=>a [nth x182 5,b,b] c) fun b c=>qU (nth b 2) true 5 c (fun a=>qH 7 (nth x182 4) c fun
 b d=>qS P_ 65 [d,nth x182 6] c fun c e=>qN c fun f=>a [b,d,nth x182 6,c,f] e) fun c d=>qU a false 1 d (fun a=>qP (nth b 2) (nth c 4) bF fun b=>a [b] d) fun b c=>qP
 a bT (nth b 0) fun a=>qU a false 3 c (fun a=>qS P_ 64 [nth x182 5,n8 114] c fun b c=>a [nth x182 5,b,b] c) fun b c=>qU (nth b 2) true 7 c (fun a=>qH 3 (nth x182 4)
 c fun b d=>qH 0 (nth x182 2) c fun e f=>qn f fun g=>qS P_ 48 [d,g] c fun c i=>qN c fun j=>a [b,d,e,f,g,c,j] i) fun c d=>z5z [nth x182 0,nth x182 1,nth x182 2,nth
 x182 3,nth x182 4,nth x182 5,a,nth b 2,nth c 6] (later (fun a=>qU (nth a 6) false 1 d (fun b=>qP (nth a 7) (nth a 8) bF fun a=>b [a] d) fun b c=>qP (nth a 6) bT (nth
 b 0) fun b=>qI b (R bF c) (J (frOf [(1,nth a 0),(2,nth a 1),(3,nth a 2),(7,nth a 3),(8,nth a 4),(9,nth a 5)]) c)) ())
def z0j (R:AV→z00→Prop) (fr':Fr) (J:Fr→z00→Prop) (v236:AV) (x268:List AV) (x272:List AV) (h273:z00):Prop :=qV (nth
 x268 0) false 1 h273 (fun a=>a [fr' 1] h273) fun a b=>qV (nth x268 0) false 1 b (fun a=>a [fr' 2] b) fun b c=>qV (nth x268 0) false 1 c (fun a=>qK 5 (fr' 3) c fun
 b=>a [b] c) fun c d=>qV (nth x268 0) false 1 d (fun a=>a [fr' 1] d) fun d e=>qV (nth x268 0) false 1 e (fun a=>qF 5 (fr' 8) fun b=>a [b] e) fun e f=>qV (nth x268
 0) false 1 f (fun a=>qL (nth e 0) f fun b=>a [b] f) fun f g=>qV (nth x268 0) false 1 g (fun c=>qS P_ 66 [nth x272 0,nth a 0,nth b 0] g fun a b=>c [a] b) fun a b=>(qV
 (nth x268 0) false 1 b (fun a=>qL (nth e 0) b fun c=>a [c] b) (fun a c=>nth a 0=nth f 0∧c=b)∧qV (nth x268 0) false 1 b (fun a=>qK 5 (fr' 3) b fun c=>a [c] b) fun
 a d=>nth a 0=nth c 0∧d=b)∧qV (nth x268 0) false 1 b (fun a=>qS P_ 66 [nth c 0,nth d 0,nth f 0] b fun b c=>a [b] c) fun b c=>q2 (qV (nth x268 0) false 1 c (fun d=>qB
 .neq (nth a 0) (nth b 0) fun a=>d [a] c) fun a b=>qV v236 true 1 b (fun c=>qP (nth x268 0) bT (nth a 0) fun a=>c [a] b) fun a b=>qP v236 (nth a 0) bF fun a=>qI a
 (R bF b) (J (frOf (kq fr' [1,2,3,7,8,9] [])) b))
def z0k (R:AV→z00→Prop) (fr':Fr) (h':z00) (v349:AV) (v351:AV) (h352:z00):Prop :=qQ (fun a=>qS P_ 64 [fr' 9,n8 100] h352
 fun b c=>qI b (qG 0 (fr' 7) c fun b=>qG 1 (fr' 8) c fun d=>qY 3 b d c fun b=>qT 3 v349 b c fun b=>a (frOf (kq fr' [1,2,3,7,8,9] [(11,v349),(12,v351)])) b) (a (frOf
 (kq fr' [1,2,3,7,8,9] [(11,v349),(12,v351)])) c)) fun a b=>qQ (fun c=>qS P_ 64 [a 9,n8 115] b fun b d=>qI b (qG 0 (a 7) d fun b=>qG 2 (a 8) d fun e=>qY 3 b e d fun
 b=>qT 3 (a 12) b d fun b=>c (frOf (kq a [1,2,3,8,11,12] [])) b) (c (frOf (kq a [1,2,3,8,11,12] [])) d)) fun a b=>qG 0 (a 8) b fun c=>qC .eql c (n6 2) (q1 (qG 4 (a
 8) b fun c=>qG 1 (a 3) b fun d=>qn d fun d=>qS P_ 48 [c,d] b fun b c=>q2 (qV b true 1 c (fun b=>qF 1 (a 3) fun a=>b [a] c) fun c d=>qV b true 1 d (fun a=>qL (nth
 c 0) d fun b=>a [b] d) fun c d=>qV b true 1 d (fun b=>qF 4 (a 8) fun a=>b [a] d) fun d e=>qV b true 1 e (fun a=>qL (nth d 0) e fun b=>a [b] e) fun d e=>qV b true
 1 e (fun a=>qX 3 (nth c 0) (nth d 0) fun b=>a [b] e) fun c d=>qV b true 1 d (fun a=>qF 0 (nth c 0) fun b=>a [b] d) fun c d=>qV b true 1 d (fun a=>qL (nth c 0) d fun
 b=>a [b] d) fun c d=>qV b true 1 d (fun b=>qF 0 (a 11) fun a=>b [a] d) fun d e=>qV b true 1 e (fun a=>qL (nth d 0) e fun b=>a [b] e) fun d e=>qV b true 1 e (fun a=>qE
 (nth c 0) (nth d 0) fun b=>a [b] e) fun c d=>qP b (nth c 0) bF fun b=>qV b true 1 d (fun b=>qF 1 (a 3) fun a=>b [a] d) fun c d=>qV b true 1 d (fun a=>qL (nth c 0)
 d fun b=>a [b] d) fun c d=>qV b true 1 d (fun b=>qF 4 (a 8) fun a=>b [a] d) fun d e=>qV b true 1 e (fun a=>qL (nth d 0) e fun b=>a [b] e) fun d e=>qV b true 1 e (fun
 a=>qX 3 (nth c 0) (nth d 0) fun b=>a [b] e) fun c d=>qV b true 1 d (fun a=>qF 1 (nth c 0) fun b=>a [b] d) fun c d=>qV b true 1 d (fun a=>qL (nth c 0) d fun b=>a [b]
 d) fun c d=>qV b true 1 d (fun b=>qF 1 (a 11) fun a=>b [a] d) fun a d=>qV b true 1 d (fun b=>qL (nth a 0) d fun a=>b [a] d) fun a d=>qV b true 1 d (fun b=>qE (nth
 c 0) (nth a 0) fun a=>b [a] d) fun a c=>qP b (nth a 0) bF fun a=>R a c))) (qC .eql c (n6 5) (qG 4 (a 8) b fun c=>qG 1 (a 3) b fun a=>qn a fun a=>qS P_ 48 [c,a] b
 fun a b=>R a b) (qQ (fun d=>qE c (n6 3) fun e=>qI e (d (frOf (kq a [1,2,3,8,11,12] [(224,c),(265,e)])) b) (qE c (n6 6) fun e=>d (frOf (kq a [1,2,3,8,11,12] [(224,c),(265,e)]))
 b)) fun a b=>qI (a 265) (qQ (fun c=>q1 (qG 0 (a 12) b fun d=>qB .neq d (n6 4) fun d=>qV d false 1 b (fun c=>qF 1 (a 12) fun a=>c [a] b) fun b e=>qV d false 1 e (fun
 a=>qL (nth b 0) e fun b=>a [b] e) fun b e=>qV d false 1 e (fun b=>qF 3 (a 8) fun a=>b [a] e) fun e f=>qV d false 1 f (fun a=>qL (nth e 0) f fun b=>a [b] f) fun e
 f=>qV d false 1 f (fun a=>qB .neq (nth b 0) (nth e 0) fun b=>a [b] f) fun b e=>qP d bT (nth b 0) fun b=>qV b false 1 e (fun b=>qF 4 (a 8) fun a=>b [a] e) fun d e=>qV
 b false 1 e (fun a=>qL (nth d 0) e fun b=>a [b] e) fun d e=>qV b false 1 e (fun b=>qF 0 (a 3) fun a=>b [a] e) fun e f=>qV b false 1 f (fun a=>qL (nth e 0) f fun b=>a
 [b] f) fun e f=>qV b false 1 f (fun b=>qF 3 (a 8) fun a=>b [a] f) fun f g=>qV b false 1 g (fun a=>qL (nth f 0) g fun b=>a [b] g) fun f g=>qV b false 1 g (fun a=>qX
 1 (nth e 0) (nth f 0) fun b=>a [b] g) fun e f=>qV b false 1 f (fun a=>qL (nth e 0) f fun b=>a [b] f) fun e f=>qV b false 1 f (fun a=>qn (nth e 0) fun b=>a [b] f)
 fun e f=>qV b false 1 f (fun a=>qS P_ 48 [nth d 0,nth e 0] f fun b c=>a [b] c) fun d e=>q2 (qV b false 1 e (fun a=>qN (nth d 0) fun b=>a [b] e) fun d e=>qP b bT (nth
 d 0) fun b=>qI b (R bF e) (c (frOf (kq a [3,8,11] [])) e)))) fun a b=>q1 (qH 0 (a 3) b fun c d=>qH 3 (a 8) b fun e f=>qX 1 d f fun g=>qL g b fun i=>qH 4 (a 8) b fun
 j k=>qX 3 i k fun l=>qK 3 l b fun m=>qA 105 [n0,n0,bF] b fun b n=>(q4 3 l m n∧q3 j k n∧q3 g i n∧q3 e f n∧q3 c d n)∧qT 3 b m n fun c=>q2 (qG 0 (a 8) c fun d=>qE d
 (n6 6) fun d=>qU d false 6 c (fun d=>qH 0 b c fun b e=>qH 0 (a 11) c fun a f=>qE e f fun g=>d [b,e,a,f,g,g] c) fun c e=>qU (nth c 5) true 5 e (fun c=>qH 1 b e fun
 b d=>qH 1 (a 11) e fun a f=>qE d f fun g=>c [b,d,a,f,g] e) fun a b=>qU d false 1 b (fun d=>qP (nth c 5) (nth a 4) bF fun a=>d [a] b) fun a b=>qP d bT (nth a 0) fun
 a=>R a b))) (qQ (fun c=>qE (a 224) (n6 4) fun d=>qI d (c (frOf (kq a [1,2,3,8,11,12,224] [(318,d)])) b) (qE (a 224) (n6 10) fun d=>c (frOf (kq a [1,2,3,8,11,12,224]
 [(318,d)])) b)) fun a b=>qI (a 318) (qG 0 (a 11) b fun c=>qE c (n6 1) fun c=>qU c true 3 b (fun c=>qH 0 (a 12) b fun a d=>qE d (n6 3) fun e=>c [a,d,e] b) fun a b=>qP
 c (nth a 2) bF fun a=>R a b) (qC .eql (a 224) (n6 7) (qG 0 (a 12) b fun a=>qE a (n6 3) fun a=>R a b) (qC .eql (a 224) (n6 8) (q1 (qG 0 (a 11) b fun c=>qE c (n6 4)
 fun c=>qV c true 1 b (fun c=>qF 1 (a 11) fun a=>c [a] b) fun b d=>qV c true 1 d (fun a=>qL (nth b 0) d fun b=>a [b] d) fun b d=>qV c true 1 d (fun b=>qF 3 (a 8) fun
 a=>b [a] d) fun d e=>qV c true 1 e (fun a=>qL (nth d 0) e fun b=>a [b] e) fun d e=>qV c true 1 e (fun a=>qE (nth b 0) (nth d 0) fun b=>a [b] e) fun b d=>qP c (nth
 b 0) bF fun b=>qV b true 1 d (fun b=>qF 4 (a 8) fun a=>b [a] d) fun c d=>qV b true 1 d (fun a=>qL (nth c 0) d fun b=>a [b] d) fun c d=>qV b true 1 d (fun b=>qF 3
 (a 3) fun a=>b [a] d) fun d e=>qV b true 1 e (fun a=>qL (nth d 0) e fun b=>a [b] e) fun d e=>qV b true 1 e (fun a=>qn (nth d 0) fun b=>a [b] e) fun d e=>qV b true
 1 e (fun a=>qS P_ 48 [nth c 0,nth d 0] e fun b c=>a [b] c) fun c d=>q2 (qP b (nth c 0) bF fun b=>qV b true 1 d (fun b=>qF 3 (a 3) fun a=>b [a] d) fun c d=>qV b true
 1 d (fun a=>qL (nth c 0) d fun b=>a [b] d) fun c d=>qV b true 1 d (fun b=>qF 4 (a 8) fun a=>b [a] d) fun d e=>qV b true 1 e (fun a=>qL (nth d 0) e fun b=>a [b] e)
 fun d e=>z0g R a b c d e))) (qC .eql (a 224) (n6 9) (qG 0 (a 11) b fun c=>qE c (n6 3) fun c=>qU c true 6 b (fun c=>qH 4 (a 8) b fun d e=>qH 3
 (a 3) b fun a f=>qn f fun g=>qS P_ 48 [e,g] b fun b i=>c [d,e,a,f,g,b] i) fun b d=>qP c (nth b 5) bF fun b=>qU b true 10 d (fun b=>qH 3 (a 3) d fun c e=>qH 4 (a 8)
 d fun f g=>qX 3 e g fun i=>qK 3 i d fun j=>q8 [(0,1),(1,1),(2,1)] [n0,n0,n0] [(0,a 1),(1,a 2),(2,n6 (-1))] fun k=>qD (.flat [.int,.int,.int]) .eql j k fun l=>b [c,e,f,g,i,j,a
 1,a 2,k,l] d) fun a c=>qP b (nth a 9) bF fun a=>R a c) (qC .eql (a 224) (n6 15) (qG 4 (a 8) b fun c=>qG 4 (a 3) b fun d=>qn d fun d=>qS P_ 48 [c,d] b fun b c=>qU
 b true 9 c (fun b=>qH 4 (a 3) c fun d e=>qH 4 (a 8) c fun f g=>qX 3 e g fun i=>qH 0 i c fun j k=>qE k (a 1) fun l=>b [d,e,f,g,i,j,k,a 1,l] c) fun c d=>qP b (nth c
 8) bF fun b=>qU b true 9 d (fun b=>qH 4 (a 3) d fun c e=>qH 4 (a 8) d fun f g=>qX 3 e g fun i=>qH 1 i d fun j k=>qE k (a 2) fun l=>b [c,e,f,g,i,j,k,a 2,l] d) fun
 a c=>z5z [b,nth a 8] (later (fun a=>qP (nth a 0) (nth a 1) bF fun a=>R a c) ())) (qC .eql (a 224) (n6 16) (qG 4 (a 8) b fun c=>qG 4 (a 3) b fun d=>qn d fun d=>qS
 P_ 48 [c,d] b fun b c=>qU b true 9 c (fun b=>qH 4 (a 3) c fun d e=>qH 4 (a 8) c fun f g=>qX 3 e g fun i=>qH 0 i c fun j k=>qE k (a 1) fun l=>b [d,e,f,g,i,j,k,a 1,l]
 c) fun c d=>qP b (nth c 8) bF fun b=>qU b true 9 d (fun b=>qH 4 (a 3) d fun c e=>qH 4 (a 8) d fun f g=>qX 3 e g fun i=>qH 2 i d fun j k=>qE k (a 2) fun l=>b [c,e,f,g,i,j,k,a
 2,l] d) fun a c=>z5z [b,nth a 8] (later (fun a=>qP (nth a 0) (nth a 1) bF fun a=>R a c) ())) (R bT b)))))))))
theorem z0p (H:qM true 28 a0 h fun a b=>qG 2 a b fun c=>qY 3 c a1 b fun c=>qA 37 [.nils,.nils,n0] b fun b d=>qT 3 b c d fun c=>qG 1 b c fun d=>qY
 8 d a2 c fun d=>qA 40 [n0,n0,n0,n0,n0,n0,.nils,.nils] c fun c e=>qT 8 c d e fun d=>qQ (fun e=>qG 0 c d fun f=>qS P_ 63 [f] d fun d f=>e (frOf [(1,a1),(2,a2),(3,a),(7,b),(8,c),(9,d)])
 f) fun a b=>qQ (fun c=>qE (a 9) (.str [63]) fun d=>qU d false 4 b (fun c=>qS P_ 64 [a 9,n8 100] b fun b d=>qN b fun e=>c [a 9,b,e,e] d) fun b e=>qU (nth b 3) true
 3 e (fun b=>qH 1 (a 8) e fun a c=>qB .neq c n0 fun d=>b [a,c,d] e) fun e f=>qU d false 1 f (fun a=>qP (nth b 3) (nth e 2) bF fun b=>a [b] f) fun b e=>qP d bT (nth
 b 0) fun b=>qU b false 4 e (fun b=>qS P_ 64 [a 9,n8 115] e fun c d=>qN c fun e=>b [a 9,c,e,e] d) fun d e=>qU (nth d 3) true 3 e (fun b=>qH 2 (a 8) e fun a c=>qB .neq
 c n0 fun d=>b [a,c,d] e) fun e f=>qU b false 1 f (fun a=>qP (nth d 3) (nth e 2) bF fun b=>a [b] f) fun d e=>qP b bT (nth d 0) fun b=>qU b false 4 e (fun b=>qS P_
 64 [a 9,n8 114] e fun c d=>qN c fun e=>b [a 9,c,e,e] d) fun d e=>z5z [a 1,a 2,a 3,a 7,a 8,a 9,b,nth d 3] (later (fun a=>qU (nth a 7) true 3 e (fun b=>qH 3 (nth
 a 4) e fun a c=>qB .neq c n0 fun d=>b [a,c,d] e) fun b d=>qU (nth a 6) false 1 d (fun c=>qP (nth a 7) (nth b 2) bF fun a=>c [a] d) fun b d=>qP (nth a 6) bT (nth b
 0) fun b=>qU b false 4 d (fun b=>qS P_ 64 [nth a 5,n8 110] d fun c d=>qN c fun e=>b [nth a 5,c,e,e] d) fun d e=>z0h R c a b d e) ())) fun a b=>qG
 0 (a 7) b fun c=>qn c fun c=>qQ (fun d=>qS P_ 64 [a 9,n8 100] b fun b e=>qU b true 5 e (fun b=>qH 1 (a 8) e fun a d=>qS P_ 48 [d,c] e fun e f=>qN e fun g=>b [a,d,c,e,g]
 f) fun e f=>qP b (nth e 4) bF fun b=>qU b false 3 f (fun b=>qS P_ 64 [a 9,n8 115] f fun c d=>b [a 9,c,c] d) fun e f=>qU (nth e 2) true 5 f (fun b=>qH 2 (a 8) f fun
 a d=>qS P_ 48 [d,c] f fun e f=>qN e fun g=>b [a,d,c,e,g] f) fun f g=>qU b false 1 g (fun a=>qP (nth e 2) (nth f 4) bF fun b=>a [b] g) fun e f=>qP b bT (nth e 0) fun
 b=>qU b false 3 f (fun b=>qS P_ 64 [a 9,n8 105] f fun c d=>b [a 9,c,c] d) fun e f=>z5z [a 1,a 2,a 3,a 7,a 8,a 9,c,b,nth e 2] (later (fun a=>qU (nth a 8) true 5
 f (fun b=>qH 6 (nth a 4) f fun c d=>qS P_ 65 [d,nth a 6] f fun e f=>qN e fun g=>b [c,d,nth a 6,e,g] f) fun b c=>qU (nth a 7) false 1 c (fun d=>qP (nth a 8) (nth b
 4) bF fun a=>d [a] c) fun b c=>z0i R d a b c) ())) fun a b=>qQ (fun c=>q1 (qS P_ 64 [a 9,n8 116] b fun b d=>q2 (qV b true 1 d (fun b=>qF 5 (a
 8) fun a=>b [a] d) fun d e=>qV b true 1 e (fun a=>qL (nth d 0) e fun b=>a [b] e) fun d e=>qV b true 1 e (fun b=>qF 1 (a 7) fun a=>b [a] e) fun e f=>qV b true 1 f
 (fun a=>qL (nth e 0) f fun b=>a [b] f) fun e f=>qV b true 1 f (fun a=>qn (nth e 0) fun b=>a [b] f) fun e f=>qV b true 1 f (fun a=>qS P_ 48 [nth d 0,nth e 0] f fun
 b c=>a [b] c) fun d e=>q2 (qV b true 1 e (fun a=>qN (nth d 0) fun b=>a [b] e) fun d e=>qV b true 1 e (fun a=>a [nth d 0] e) fun d e=>qV (nth d 0) false 1 e (fun b=>qK
 5 (a 3) e fun a=>b [a] e) fun e f=>z0j R a c b d e f)))) fun a b=>qG 0 (a 8) b fun c=>qB .geq c (n6 2) fun c=>qU c true 3 b (fun c=>qH 0 (a 8)
 b fun a d=>qB .leq d (n6 9) fun e=>c [a,d,e] b) fun b d=>qP c (nth b 2) bF fun b=>qU b true 5 d (fun b=>qK 5 (a 3) d fun c=>qS P_ 66 [c,a 1,a 2] d fun d e=>qB .lss
 d n0 fun f=>b [c,a 1,a 2,d,f] e) fun c d=>qP b (nth c 4) bF fun b=>qI b (R bF d) (qQ (fun b=>qG 0 (a 8) d fun c=>qE c (n6 17) fun c=>qG 1 (a 7) d fun e=>qn e fun
 e=>qB .sub e (n6 1) fun e=>qE (a 2) e fun e=>qD .bool .neq c e fun c=>qI c (R bF d) (b (frOf (kq a [1,2,3,7,8,9] [])) d)) fun a b=>qA 105 [n0,n0,bF] b fun c d=>qA
 105 [n0,n0,bF] d fun d e=>z0k R a b c d e)):z01 P_ 49 [a0,a1,a2] h R:=cI zf6 z08 Try.func49 Try.ntmps49 Try.call49 (by
 kernel_rfl) (by kernel_rfl) H
end
end Go.Proofs.Ytjlogcfggfmacaa
end

section
set_option maxRecDepth 100000
namespace Go.Proofs.Ytjlogcfggfmacaa
open Go.Abs
section
variable (a0 s1 s12 s13 s20 s57 s58 s59 s71 s72 s73 s88 s89 s90 s121 s122 s123 s134 s135 s136 s214 s215 s216 s249 s250 s251 s304 s305 s306 s313 s314:AV) (h:z00) (R:AV→z00→Prop) (Q:z1k→Fr→z00→Prop)
def z19:=mkG [1,25,30,36,42,48,58,68,72,82,89,96,101,107,122,129,135,145,146,153,166,167,215,250,260,261,273,274,305,313,320] [(3,[1]),(5,[1,57,58,59]),(10,[1,57,58,59,71,72,73]),(17,[1,88,89,90]),(22,[1,88,89,90,121,122,123]),(29,[1,134,135,136]),(33,[1,12,13,134,135,136]),(37,[1,12,13,134,135,136,214,215,216]),(44,[1,249,250,251]),(49,[1,17,19,249,250,251]),(53,[1,304,305,306]),(56,[1,20,304,305,306,313,314])]
 [3,33,49] [(1,[(14,[1,45,49])]),(19,[(14,[1,9,88,89,90,115,118])]),(34,[(11,[1,12,13,14,134,135,136,194,201])]),(39,[(9,[1,12,13,134,135,136,214,215,216,231,244])])]
noncomputable def z4o:=lpOf 5 Try.f34
noncomputable def z2q:=lpOf 10 Try.f34
noncomputable def z3r:=lpOf 17 Try.f34
noncomputable def z3s:=lpOf 22 Try.f34
noncomputable def z3t:=lpOf 29 Try.f34
noncomputable def z3u:=lpOf 37 Try.f34
noncomputable def z3v:=lpOf 44 Try.f34
noncomputable def z3w:=lpOf 53 Try.f34
noncomputable def z3x:=lpOf 56 Try.f34
theorem zdz (H:qM true 28 a0 h fun a b=>qQ (fun c=>qG 0 a b fun d=>qn d fun d=>qB .gtr d (n6 6) fun d=>qU d false 4 b (fun c=>qH 1 a b fun a d=>qn
 d fun e=>qB .gtr e (n6 8) fun f=>c [a,d,e,f] b) fun b e=>qP d bT (nth b 3) fun b=>qU b false 4 e (fun b=>qH 2 a e fun a c=>qn c fun d=>qB .gtr d (n6 4) fun f=>b [a,c,d,f]
 e) fun d e=>qP b bT (nth d 3) fun b=>qU b false 4 e (fun b=>qH 3 a e fun a c=>qn c fun d=>qB .gtr d (n6 32) fun f=>b [a,c,d,f] e) fun d e=>qP b bT (nth d 3) fun b=>qU
 b false 4 e (fun b=>qH 4 a e fun a c=>qn c fun d=>qB .gtr d (n6 32) fun f=>b [a,c,d,f] e) fun d e=>z5z [a,b,nth d 3] (later (fun a=>qP (nth a 1) bT (nth a 2) fun
 b=>qI b (R bF e) (c (frOf [(1,nth a 0)]) e)) ())) fun a b=>qG 1 (a 1) b fun c=>(1=0→[(0,Operand.tmp 52)]=[])∧z0m false ⟨23,1,24⟩ [.nils] 1 [(0,c)] b (later (fun
 b c=>qG 0 (a 1) c fun d=>q1 (q7 false ⟨23,1,24⟩ b d c fun b c=>qn b fun d=>qw P_ 324 z4o [(1,a 1),(57,b),(58,d),(59,n0)] c (fun a b c=>q5 a (qG
 2 (b 1) c fun a=>qn a fun d=>qw P_ 324 z3r [(1,b 1),(88,a),(89,d),(90,n0)] c (fun a b c=>pIdx a 4 (pIdx 4 4 (qG 4 (b 1) c fun a=>qn a fun d=>qw
 P_ 324 z3t [(1,b 1),(134,a),(135,d),(136,n0)] c (fun a b c=>pIdx a 8 (pIdx 8 8 (qG 3 (b 1) c fun a=>qn a fun d=>qw P_ 324 z3v
 [(1,b 1),(249,a),(250,d),(251,n0)] c (fun a b c=>pIdx a 12 (pIdx 12 12 (qG 2 (b 1) c fun a=>qn a fun d=>qw P_ 324 z3w [(1,b 1),(304,a),(305,d),(306,n0)]
 c (fun a _ b=>pIdx a 14 (pIdx 14 14 (R bT b) False) False) fun a b=>R (a 2) b) False) False) fun a b=>R (a 2) b) False) False) fun a b=>R (a 2) b) False) False) fun
 a b=>R (a 2) b)) fun a b=>R (a 2) b)) ())):z01 P_ 34 [a0] h R:=cI z19 z08 Try.func34 Try.ntmps34 Try.call34 (by kernel_rfl) (by kernel_rfl)
 H
theorem zbk (H:qC .lss s59 s58 (qZ 1 s57 s59 h fun a=>qB .gtr s59 n0 fun b=>qU b true 3 h (fun b=>qn a fun c=>qB .gtr c (n6 6) fun d=>b [a,c,d]
 h) fun c d=>qP b (nth c 2) bF fun b=>qI b (Q .ret (frOf [(2,bF)]) d) (qn a fun b=>qw P_ 324 z2q [(1,s1),(57,s57),(58,s58),(59,s59),(71,a),(72,b),(73,n0)]
 d (fun a b c=>pIdx a 2 (pIdx 2 2 (qB .add (b 59) (n6 1) fun a=>Q .normal (frOf (kq b [1,57,58] [(59,a)])) c) (pIdx 2 1 (qB .add (b 59) (n6 1) fun a=>Q .normal (frOf
 (kq b [1,57,58] [(59,a)])) c) (Q (.exit 2) (frOf [(1,b 1)]) c))) False) fun a b=>Q .ret (frOf [(2,a 2)]) b)) (Q (.exit 0) (frOf [(1,s1)]) h)):WP P_ 324 z4o
 (frOf [(1,s1),(57,s57),(58,s58),(59,s59)]) h Q:=z0u z19 [0] [1,57,58,59] [1] [2] z08 (by kernel_rfl) (Eq.mpr (by kernel_rfl) H)
theorem zac (H:qC .lss s73 s72 (qY 3 s71 s73 h fun a=>qA 105 [n0,n0,bF] h fun b c=>qT 3 b a c fun a=>qG 2 b a fun c=>qU c false 4 a (fun c=>qK
 5 s1 a fun d=>qK 3 b a fun b=>qS P_ 47 [d,b] a fun a e=>qN a fun f=>c [d,b,a,f] e) fun a b=>qP c bT (nth a 3) fun a=>qI a (Q .ret (frOf [(2,bF)]) b) (qB .add s73
 (n6 1) fun a=>Q .normal (frOf [(1,s1),(57,s57),(58,s58),(59,s59),(71,s71),(72,s72),(73,a)]) b)) (Q (.exit 2) (frOf [(1,s1),(57,s57),(58,s58),(59,s59)]) h)):WP P_
 324 z2q (frOf [(1,s1),(57,s57),(58,s58),(59,s59),(71,s71),(72,s72),(73,s73)]) h Q:=z0u z19 [2,1,0] [1,57,58,59,71,72,73]
 [1,57,58,59] [2] z08 (by kernel_rfl) (Eq.mpr (by kernel_rfl) H)
theorem zad (H:qC .lss s90 s89 (qY 3 s88 s90 h fun a=>qA 37 [.nils,.nils,n0] h fun b c=>qT 3 b a c fun a=>qG 0 b a fun c=>qn c fun c=>qB .gtr
 c (n6 64) fun c=>qU c false 4 a (fun c=>qH 1 b a fun b d=>qn d fun e=>qB .lss e (n6 1) fun f=>c [b,d,e,f] a) fun a d=>qP c bT (nth a 3) fun a=>qU a false 4 d (fun
 a=>qH 1 b d fun b c=>qn c fun e=>qB .gtr e (n6 256) fun f=>a [b,c,e,f] d) fun c d=>qP a bT (nth c 3) fun a=>qU a false 3 d (fun a=>qH 2 b d fun b c=>qB .lss c n0
 fun e=>a [b,c,e] d) fun c d=>qP a bT (nth c 2) fun a=>qU a false 3 d (fun a=>qH 2 b d fun b c=>qB .gtr c (n6 4096) fun e=>a [b,c,e] d) fun c d=>z5z [s1,b,s88,s89,s90,a,nth
 c 2] (later (fun a=>qP (nth a 5) bT (nth a 6) fun b=>qI b (Q .ret (frOf [(2,bF)]) d) (qG 0 (nth a 1) d fun b=>qn b fun c=>qw P_ 324 z3s [(1,nth
 a 0),(88,nth a 2),(89,nth a 3),(90,nth a 4),(121,b),(122,c),(123,n0)] d (fun a b c=>pIdx a 6 (pIdx 6 6 (qB .add (b 90) (n6 1) fun a=>Q .normal (frOf (kq b [1,88,89]
 [(90,a)])) c) (pIdx 6 5 (qB .add (b 90) (n6 1) fun a=>Q .normal (frOf (kq b [1,88,89] [(90,a)])) c) (Q (.exit 6) (frOf [(1,b 1)]) c))) False) fun a b=>Q .ret (frOf
 [(2,a 2)]) b)) ())) (Q (.exit 4) (frOf [(1,s1)]) h)):WP P_ 324 z3r (frOf [(1,s1),(88,s88),(89,s89),(90,s90)]) h Q:=z0u z19
 [4] [1,88,89,90] [1] [2] z08 (by kernel_rfl) (Eq.mpr (by kernel_rfl) H)
theorem zae (H:qC .lss s123 s122 (qY 3 s121 s123 h fun a=>qA 105 [n0,n0,bF] h fun b c=>qT 3 b a c fun a=>qK 5 s1 a fun c=>qK 3 b a fun b=>qS
 P_ 47 [c,b] a fun a b=>qN a fun a=>qI a (Q .ret (frOf [(2,bF)]) b) (qB .add s123 (n6 1) fun a=>Q .normal (frOf [(1,s1),(88,s88),(89,s89),(90,s90),(121,s121),(122,s122),(123,a)])
 b)) (Q (.exit 6) (frOf [(1,s1),(88,s88),(89,s89),(90,s90)]) h)):WP P_ 324 z3s (frOf [(1,s1),(88,s88),(89,s89),(90,s90),(121,s121),(122,s122),(123,s123)])
 h Q:=z0u z19 [6,5,4] [1,88,89,90,121,122,123] [1,88,89,90] [2] z08 (by kernel_rfl) (Eq.mpr (by kernel_rfl) H)
theorem zaf (H:qC .lss s136 s135 (qY 3 s134 s136 h fun a=>qA 88 [n0,n0,n0] h fun b c=>qT 3 b a c fun a=>qQ (fun c=>q1 (qG 0 b a fun d=>qG 2
 s1 a fun e=>qn e fun e=>qS P_ 48 [d,e] a fun a d=>q2 (qN a fun a=>qV a false 1 d (fun a=>qF 1 b fun b=>a [b] d) fun d e=>qV a false 1 e (fun a=>qL (nth d 0) e fun
 b=>a [b] e) fun d e=>qV a false 1 e (fun a=>qF 2 b fun b=>a [b] e) fun e f=>qV a false 1 f (fun a=>qL (nth e 0) f fun b=>a [b] f) fun e f=>qV a false 1 f (fun a=>qS
 P_ 48 [nth d 0,nth e 0] f fun b c=>a [b] c) fun d e=>q2 (qV a false 1 e (fun a=>qN (nth d 0) fun b=>a [b] e) fun d e=>qP a bT (nth d 0) fun a=>qV a false 1 e (fun
 a=>qF 2 b fun b=>a [b] e) fun d e=>qV a false 1 e (fun a=>qL (nth d 0) e fun b=>a [b] e) fun d e=>qV a false 1 e (fun a=>qF 2 s1 fun b=>a [b] e) fun e f=>qV a false
 1 f (fun a=>qL (nth e 0) f fun b=>a [b] f) fun e f=>qV a false 1 f (fun a=>qF 0 b fun b=>a [b] f) fun f g=>qV a false 1 g (fun a=>qL (nth f 0) g fun b=>a [b] g) fun
 f g=>qV a false 1 g (fun a=>qX 3 (nth e 0) (nth f 0) fun b=>a [b] g) fun e f=>qV a false 1 f (fun a=>qF 1 (nth e 0) fun b=>a [b] f) fun e f=>qV a false 1 f (fun a=>qL
 (nth e 0) f fun b=>a [b] f) fun e f=>qV a false 1 f (fun a=>qn (nth e 0) fun b=>a [b] f) fun e f=>qV a false 1 f (fun a=>qS P_ 48 [nth d 0,nth e 0] f fun b c=>a [b]
 c) fun d e=>q2 (qV a false 1 e (fun a=>qN (nth d 0) fun b=>a [b] e) fun d e=>qP a bT (nth d 0) fun a=>qI a (Q .ret (frOf [(2,bF)]) e) (c (frOf [(1,s1),(12,s136),(13,b),(134,s134),(135,s135),(136,s136)])
 e)))))) fun a b=>qG 2 (a 1) b fun c=>qG 0 (a 13) b fun d=>qX 3 c d fun c=>qG 1 c b fun c=>qG 1 (a 13) b fun d=>qX 8 c d fun d=>qG 0 d b fun d=>qB .neq d (n6 15) fun
 d=>qU d false 8 b (fun d=>qH 1 (a 13) b fun e f=>qX 8 c f fun g=>qH 4 g b fun i j=>qB .neq j (a 12) fun k=>d [c,e,f,g,i,j,a 12,k] b) fun b e=>qP d bT (nth b 7) fun
 b=>qU b false 7 e (fun b=>qH 2 (a 13) e fun a d=>qX 8 c d fun f=>qH 0 f e fun g i=>qB .neq i (n6 16) fun j=>b [c,a,d,f,g,i,j] e) fun d e=>z5z [a 1,a 12,a 13,c,a
 134,a 135,a 136,b,nth d 6] (later (fun a=>qP (nth a 7) bT (nth a 8) fun b=>qU b false 8 e (fun b=>qH 2 (nth a 2) e fun c d=>qX 8 (nth a 3) d fun f=>qH 4 f e fun g
 i=>qB .neq i (nth a 1) fun j=>b [nth a 3,c,d,f,g,i,nth a 1,j] e) fun c d=>qP b bT (nth c 7) fun b=>qI b (Q .ret (frOf [(2,bF)]) d) (qG 4 (nth a 0) d fun b=>qn b fun
 c=>qw P_ 324 z3u [(1,nth a 0),(12,nth a 1),(13,nth a 2),(134,nth a 4),(135,nth a 5),(136,nth a 6),(214,b),(215,c),(216,n0)] d (fun a b c=>pIdx
 a 10 (pIdx 10 10 (qB .add (b 136) (n6 1) fun a=>Q .normal (frOf (kq b [1,134,135] [(136,a)])) c) (pIdx 10 9 (qB .add (b 136) (n6 1) fun a=>Q .normal (frOf (kq b [1,134,135]
 [(136,a)])) c) (Q (.exit 10) (frOf [(1,b 1)]) c))) False) fun a b=>Q .ret (frOf [(2,a 2)]) b)) ())) (Q (.exit 8) (frOf [(1,s1)]) h)):WP P_ 324 z3t
 (frOf [(1,s1),(134,s134),(135,s135),(136,s136)]) h Q:=z0u z19 [8] [1,134,135,136] [1] [2] z08 (by kernel_rfl) (Eq.mpr (by kernel_rfl) H)
theorem zah (H:qC .lss s216 s215 (qY 3 s214 s216 h fun a=>qA 88 [n0,n0,n0] h fun b c=>qT 3 b a c fun a=>qB .neq s216 s12 fun c=>qU c true 5
 a (fun c=>qH 0 b a fun b d=>qH 0 s13 a fun e f=>qE d f fun g=>c [b,d,e,f,g] a) fun a d=>qP c (nth a 4) bF fun a=>qU a true 6 d (fun a=>qH 2 b d fun b c=>qH 1 s13
 d fun e f=>qB .lss c f fun g=>a [b,c,e,f,g,g] d) fun c d=>qU (nth c 5) false 5 d (fun a=>qH 2 s13 d fun c e=>qH 1 b d fun b f=>qB .lss e f fun g=>a [c,e,b,f,g] d)
 fun b d=>qU a true 2 d (fun a=>qP (nth c 5) bT (nth b 4) fun b=>qN b fun c=>a [b,c] d) fun b c=>z5z [s1,s12,s13,s134,s135,s136,s214,s215,s216,a,nth b 1] (later
 (fun a=>qP (nth a 9) (nth a 10) bF fun b=>qI b (Q .ret (frOf [(2,bF)]) c) (qB .add (nth a 8) (n6 1) fun b=>Q .normal (frOf [(1,nth a 0),(12,nth a 1),(13,nth a 2),(134,nth
 a 3),(135,nth a 4),(136,nth a 5),(214,nth a 6),(215,nth a 7),(216,b)]) c)) ())) (Q (.exit 10) (frOf [(1,s1),(134,s134),(135,s135),(136,s136)]) h)):WP P_ 324 z3u
 (frOf [(1,s1),(12,s12),(13,s13),(134,s134),(135,s135),(136,s136),(214,s214),(215,s215),(216,s216)]) h Q:=z0u z19 [10,9,8] [1,12,13,134,135,136,214,215,216]
 [1,134,135,136] [2] z08 (by kernel_rfl) (Eq.mpr (by kernel_rfl) H)
theorem zai (H:qC .lss s251 s250 (qY 3 s249 s251 h fun a=>qA 109 [n0,n0,n0] h fun b c=>qT 3 b a c fun a=>q1 (qG 0 b a fun c=>qG 2 s1 a fun d=>qn
 d fun d=>qS P_ 48 [c,d] a fun a c=>q2 (qN a fun a=>qV a false 1 c (fun a=>qF 1 b fun b=>a [b] c) fun c d=>qV a false 1 d (fun a=>qL (nth c 0) d fun b=>a [b] d) fun
 c d=>qV a false 1 d (fun a=>qF 2 s1 fun b=>a [b] d) fun d e=>qV a false 1 e (fun a=>qL (nth d 0) e fun b=>a [b] e) fun d e=>qV a false 1 e (fun a=>qF 0 b fun b=>a
 [b] e) fun e f=>qV a false 1 f (fun a=>qL (nth e 0) f fun b=>a [b] f) fun e f=>qV a false 1 f (fun a=>qX 3 (nth d 0) (nth e 0) fun b=>a [b] f) fun d e=>qV a false
 1 e (fun a=>qF 1 (nth d 0) fun b=>a [b] e) fun d e=>qV a false 1 e (fun a=>qL (nth d 0) e fun b=>a [b] e) fun d e=>qV a false 1 e (fun a=>qn (nth d 0) fun b=>a [b]
 e) fun d e=>qV a false 1 e (fun a=>qS P_ 48 [nth c 0,nth d 0] e fun b c=>a [b] c) fun c d=>q2 (qV a false 1 d (fun a=>qN (nth c 0) fun b=>a [b] d) fun c d=>qP a bT
 (nth c 0) fun a=>qI a (Q .ret (frOf [(2,bF)]) d) (qQ (fun a=>q1 (qH 2 s1 d fun c e=>qH 0 b d fun f g=>qX 3 e g fun i=>qH 1 i d fun i j=>qH 1 b d fun b k=>qX 8 j k
 fun l=>qK 8 l d fun m=>qA 40 [n0,n0,n0,n0,n0,n0,.nils,.nils] d fun d n=>(q4 8 l m n∧q3 b k n∧q3 i j n∧q3 f g n∧q3 c e n)∧qT 8 d m n fun b=>q2 (a (frOf [(1,s1),(17,s251),(19,d),(249,s249),(250,s250),(251,s251)])
 b))) fun a b=>qG 4 (a 19) b fun c=>qB .neq c (a 17) fun c=>qU c false 4 b (fun c=>qH 0 (a 19) b fun a d=>qB .neq d (n6 8) fun e=>c [a,d,e,e] b) fun b d=>qU (nth b
 3) true 3 d (fun b=>qH 0 (a 19) d fun a c=>qB .neq c (n6 9) fun e=>b [a,c,e] d) fun d e=>qU c false 1 e (fun a=>qP (nth b 3) (nth d 2) bF fun b=>a [b] e) fun b d=>qP
 c bT (nth b 0) fun b=>qI b (Q .ret (frOf [(2,bF)]) d) (qB .add (a 251) (n6 1) fun b=>Q .normal (frOf (kq a [1,249,250] [(251,b)])) d)))))) (Q (.exit 12) (frOf [(1,s1)])
 h)):WP P_ 324 z3v (frOf [(1,s1),(249,s249),(250,s250),(251,s251)]) h Q:=z0u z19 [12] [1,249,250,251] [1] [2] z08 (by kernel_rfl)
 (Eq.mpr (by kernel_rfl) H)
theorem zaj (H:qC .lss s306 s305 (qY 3 s304 s306 h fun a=>qA 37 [.nils,.nils,n0] h fun b c=>qT 3 b a c fun a=>qG 1 b a fun b=>qn b fun b=>qw
 P_ 324 z3x [(1,s1),(20,s306),(304,s304),(305,s305),(306,s306),(313,b),(314,n0)] a (fun a b c=>pIdx a 16 (pIdx 16 16 (qB .add (b 306) (n6 1) fun
 a=>Q .normal (frOf (kq b [1,304,305] [(306,a)])) c) (pIdx 16 15 (qB .add (b 306) (n6 1) fun a=>Q .normal (frOf (kq b [1,304,305] [(306,a)])) c) (Q (.exit 16) (frOf
 []) c))) False) fun a b=>Q .ret (frOf [(2,a 2)]) b) (Q (.exit 14) (frOf []) h)):WP P_ 324 z3w (frOf [(1,s1),(304,s304),(305,s305),(306,s306)])
 h Q:=z0u z19 [14] [1,304,305,306] [] [2] z08 (by kernel_rfl) (Eq.mpr (by kernel_rfl) H)
theorem zak (H:qC .lss s314 s313 (qK 5 s1 h fun a=>qS P_ 49 [a,s20,s314] h fun a b=>qN a fun a=>qI a (Q .ret (frOf [(2,bF)]) b) (qB .add s314
 (n6 1) fun a=>Q .normal (frOf [(1,s1),(20,s20),(304,s304),(305,s305),(306,s306),(313,s313),(314,a)]) b)) (Q (.exit 16) (frOf [(1,s1),(304,s304),(305,s305),(306,s306)])
 h)):WP P_ 324 z3x (frOf [(1,s1),(20,s20),(304,s304),(305,s305),(306,s306),(313,s313),(314,s314)]) h Q:=z0u z19 [16,15,14]
 [1,20,304,305,306,313,314] [1,304,305,306] [2] z08 (by kernel_rfl) (Eq.mpr (by kernel_rfl) H)
end
end Go.Proofs.Ytjlogcfggfmacaa
end

section
set_option maxRecDepth 100000
namespace Go.Proofs.Ytjlogcfggfmacaa
open Go.Abs
section
variable (a0 a1 a2 a3 s0 s1 s2 s3 s4 s5 s6 s7 s8 s9 s10 s11 s12 s13 s14 s15 s16 s17 s18 s19 s20 s21 s22 s23 s24 s25 s26 s27 s28 s29 s30 s31 s32 s33 s34 s36 s37 s38 s39 s40 s42 s43 s44 s46 s47 s50 s51 s52 s59 s60 s61 s65 s66 s67 s69 s70 s77 s78 s79 s100 s101 s102 s107 s108 s109 s110 s187 s188 s189:AV) (h:z00) (R:AV→z00→Prop) (Q:z1k→Fr→z00→Prop)
def zcz:=mkG [7] [] [] []
theorem zcm (H:qD .slice .eql a0 .nils fun a=>qI a (R .nils h) ((0=0→([]:List (Nat×Operand))=[])∧z0m false ⟨3,1,8⟩ [n0] 0 [] h (later (fun
 a b=>q1 (q7 true ⟨3,1,8⟩ a a0 b fun a b=>R a b)) ()))):z01 P_ 20 [a0] h R:=cI zcz z08 Try.func20 Try.ntmps20 Try.call20 (by kernel_rfl) (by
 kernel_rfl) H
def zf4:=mkG [7,10,12,16,17,20,22,27,39,43] [] [] []
theorem zdw (H:q8 [(0,1),(1,1),(2,1)] [n0,n0,nU 0] [(0,n6 1),(2,nU 1)] fun a=>(1=0→[(0,Operand.tmp 6)]=[])∧z0m true ⟨58,3,24⟩ [n0,n0,nU 0]
 1 [(0,a)] h (later (fun a b=>q8 [(0,1),(1,1),(2,1),(3,1),(4,1),(5,1),(6,1),(7,1)] [n0,n0,n0,n0,n0,n0,.nils,.nils] [(0,n6 11),(6,a)] fun a=>q8 [(0,1),(1,1),(2,1),(3,1),(4,1),(5,1),(6,1),(7,1)]
 [n0,n0,n0,n0,n0,n0,.nils,.nils] [(0,n6 17)] fun c=>(2=0→[(0,Operand.tmp 8),(1,Operand.tmp 9)]=[])∧z0m true ⟨40,8,96⟩ [n0,n0,n0,n0,n0,n0,.nils,.nils] 2 [(0,a),(1,c)]
 b (later (fun a b=>q8 [(0,1),(1,1),(2,1)] [.nils,.nils,n0] [(2,n6 9),(1,a)] fun a=>(1=0→[(0,Operand.tmp 11)]=[])∧z0m true ⟨37,3,56⟩ [.nils,.nils,n0] 1 [(0,a)]
 b (later (fun a b=>q8 [(0,1),(1,1),(2,1),(3,1),(4,1)] [.nils,.nils,.nils,.nils,.nils] [(2,a)] fun a=>q8 [(0,5),(5,1),(6,1),(7,1)] [.nils,.nils,.nils,.nils,.nils,.nils,.nils,n0]
 [(0,a)] fun a=>qA 32 [.nils,.nils,.nils,.nils,.nils,.nils,.nils,n0] b fun b c=>qT 8 b a c fun a=>qK 8 b a fun b=>qS P_ 8 [b,n0,.nils] a fun a b=>qS P_ 7 [n0] b fun
 b c=>qS P_ 9 [a,b] c fun b c=>qS P_ 14 [a] c fun c d=>qE b n0 fun b=>qU b true 3 d (fun a=>qn c fun b=>qE b (n6 1) fun e=>a [c,b,e] d) fun d e=>qP b (nth d 2) bF
 fun b=>qU b true 5 e (fun a=>qX 3 c n0 fun b=>qH 2 b e fun d f=>qE f (nU 1) fun g=>a [c,b,d,f,g] e) fun c d=>qP b (nth c 4) bF fun b=>qU b true 2 d (fun b=>qS P_
 15 [a] d fun c d=>b [a,c] d) fun c d=>qP b (nth c 1) bF fun b=>qU b true 3 d (fun b=>qS P_ 10 [a] d fun c d=>qE c (n6 1) fun e=>b [a,c,e] d) fun a c=>qP b (nth a
 2) bF fun a=>R a c) ())) ())) ())):z01 P_ 5 [] h R:=cI zf4 z08 Try.func5 Try.ntmps5 Try.call5 (by kernel_rfl) (by kernel_rfl) H
def z6d:=mkG [1,9,13,19,24,30,33,41,47] [(4,[23,24,25]),(9,[23,24,25,32,33,34])] [] []
noncomputable def z4y:=lpOf 4 Try.f18
noncomputable def z4z:=lpOf 9 Try.f18
theorem zed (H:qM true 32 a0 h fun a b=>qF 0 a fun c=>qK 5 c b fun c=>qS P_ 26 [c] b fun b c=>qU b false 4 c (fun b=>qH 5 a c fun a d=>qn d fun
 e=>qB .gtr e (n6 100) fun f=>b [a,d,e,f] c) fun c d=>qP b bT (nth c 3) fun b=>qU b false 4 d (fun b=>qH 6 a d fun a c=>qn c fun e=>qB .gtr e (n6 100) fun f=>b [a,c,e,f]
 d) fun c d=>qP b bT (nth c 3) fun b=>qI b (R bT d) (qG 6 a d fun a=>qn a fun b=>qw P_ 52 z4y [(23,a),(24,b),(25,n0)] d (fun a _ b=>q5 a (R bF b))
 fun a b=>R (a 2) b)):z01 P_ 18 [a0] h R:=cI z6d z08 Try.func18 Try.ntmps18 Try.call18 (by kernel_rfl) (by kernel_rfl) H
theorem zby (H:qC .lss s25 s24 (qZ 1 s23 s25 h fun a=>qn a fun b=>qC .gtr b (n6 300) (Q .ret (frOf [(2,bT)]) h) (qn a fun b=>qw P_ 52 z4z
 [(23,s23),(24,s24),(25,s25),(32,a),(33,b),(34,n0)] h (fun a b c=>pIdx a 2 (pIdx 2 2 (qB .add (b 25) (n6 1) fun a=>Q .normal (frOf (kq b [23,24] [(25,a)])) c) (pIdx
 2 1 (qB .add (b 25) (n6 1) fun a=>Q .normal (frOf (kq b [23,24] [(25,a)])) c) (Q (.exit 2) (frOf []) c))) False) fun a b=>Q .ret (frOf [(2,a 2)]) b)) (Q (.exit 0)
 (frOf []) h)):WP P_ 52 z4y (frOf [(23,s23),(24,s24),(25,s25)]) h Q:=z0u z6d [0] [23,24,25] [] [2] z08 (by kernel_rfl) (Eq.mpr
 (by kernel_rfl) H)
theorem zbz (H:qC .lss s34 s33 (qY 12 s32 s34 h fun a=>qA 80 [n0,bF,n0,.nils,n0,bF,n0,bF,n0,.nils,n0,n0] h fun b c=>qT 12 b a c fun a=>qF 1 b
 fun c=>qG 2 c a fun c=>qn c fun c=>qB .gtr c (n6 20) fun c=>qU c false 5 a (fun c=>qF 7 b fun b=>qH 2 b a fun d e=>qn e fun f=>qB .gtr f (n6 20) fun g=>c [b,d,e,f,g]
 a) fun a b=>qP c bT (nth a 4) fun a=>qI a (Q .ret (frOf [(2,bT)]) b) (qB .add s34 (n6 1) fun a=>Q .normal (frOf [(23,s23),(24,s24),(25,s25),(32,s32),(33,s33),(34,a)])
 b)) (Q (.exit 2) (frOf [(23,s23),(24,s24),(25,s25)]) h)):WP P_ 52 z4z (frOf [(23,s23),(24,s24),(25,s25),(32,s32),(33,s33),(34,s34)]) h Q:=z0u
 z6d [2,1,0] [23,24,25,32,33,34] [23,24,25] [2] z08 (by kernel_rfl) (Eq.mpr (by kernel_rfl) H)
def zh8:=mkG [] [] [] []
theorem z9j (H:qB .geq a1 n0 fun a=>qU a true 2 h (fun a=>qB .lss a1 (n6 64) fun b=>a [a1,b] h) fun b c=>qP a (nth b 1) bF fun a=>qU a true 6 c (fun
 a=>z2e (.int .u64) a1 c (later (fun b=>qB .shr a0 b fun d=>qB .rem d (nU 2) fun e=>qE e (nU 1) fun f=>a [a0,a1,b,d,e,f] c) ())) fun b c=>qP a (nth b 5) bF fun a=>R
 a c):z01 P_ 56 [a0,a1] h R:=cI zh8 z08 Try.func56 Try.ntmps56 Try.call56 (by kernel_rfl) (by kernel_rfl) H
def z6b:=mkG [5,19,22,24,30,37,41] [(3,[0,2,3,23,24,25]),(6,[0,2,3,23,24,25,29,30,31])] [] []
noncomputable def z4u:=lpOf 3 Try.f50
noncomputable def z4v:=lpOf 6 Try.f50
theorem ze7 (H:qM true 93 a1 h fun a b=>q1 (qG 1 a b fun c=>qH 0 a b fun d e=>qH 2 a b fun a f=>(1=0→[(0,Operand.tmp 15)]=[])∧z0m false ⟨49,1,24⟩
 [.nils] 1 [(0,c)] b (later (fun b c=>(q3 a f c∧q3 d e c)∧q1 (q7 true ⟨49,1,24⟩ b e c fun b c=>q3 a f c∧q1 (q7 true ⟨49,1,24⟩ b f c fun a b=>q2 (qn a fun c=>qw P_
 55 z4u [(0,a0),(2,a2),(3,a3),(23,a),(24,c),(25,n0)] b (fun a _ b=>q5 a (R bF b)) fun a b=>R (a 8) b)))) ()))):z01 P_ 50 [a0,a1,a2,a3] h R:=cI
 z6b z08 Try.func50 Try.ntmps50 Try.call50 (by kernel_rfl) (by kernel_rfl) H
theorem zbs (H:qC .lss s25 s24 (qZ 1 s23 s25 h fun a=>qn a fun b=>qw P_ 55 z4v [(0,s0),(2,s2),(3,s3),(23,s23),(24,s24),(25,s25),(29,a),(30,b),(31,n0)]
 h (fun a b c=>pIdx a 2 (pIdx 2 2 (qB .add (b 25) (n6 1) fun a=>Q .normal (frOf (kq b [0,2,3,23,24] [(25,a)])) c) (pIdx 2 1 (qB .add (b 25) (n6 1) fun a=>Q .normal
 (frOf (kq b [0,2,3,23,24] [(25,a)])) c) (Q (.exit 2) (frOf []) c))) False) fun a b=>Q .ret (frOf [(8,a 8)]) b) (Q (.exit 0) (frOf []) h)):WP P_ 55 z4u
 (frOf [(0,s0),(2,s2),(3,s3),(23,s23),(24,s24),(25,s25)]) h Q:=z0u z6b [0] [0,2,3,23,24,25] [] [8] z08 (by kernel_rfl) (Eq.mpr (by kernel_rfl)
 H)
theorem zbt (H:qC .lss s31 s30 (qZ 1 s29 s31 h fun a=>qS P_ 56 [a,s2] h fun b c=>qU b true 3 c (fun b=>qS P_ 56 [a,s3] c fun c d=>b [a,s3,c]
 d) fun a c=>qP b (nth a 2) bF fun a=>qU a true 3 c (fun a=>qB .lss s2 s0 fun b=>a [s2,s0,b] c) fun b c=>qP a (nth b 2) bF fun a=>qU a true 3 c (fun a=>qB .lss s3
 s0 fun b=>a [s3,s0,b] c) fun b c=>qP a (nth b 2) bF fun a=>qI a (Q .ret (frOf [(8,bT)]) c) (qB .add s31 (n6 1) fun a=>Q .normal (frOf [(0,s0),(2,s2),(3,s3),(23,s23),(24,s24),(25,s25),(29,s29),(30,s30),(31,a)])
 c)) (Q (.exit 2) (frOf [(0,s0),(2,s2),(3,s3),(23,s23),(24,s24),(25,s25)]) h)):WP P_ 55 z4v (frOf [(0,s0),(2,s2),(3,s3),(23,s23),(24,s24),(25,s25),(29,s29),(30,s30),(31,s31)])
 h Q:=z0u z6b [2,1,0] [0,2,3,23,24,25,29,30,31] [0,2,3,23,24,25] [8] z08 (by kernel_rfl) (Eq.mpr (by kernel_rfl) H)
def z1w:=mkG [3,18,69] [(4,[0,3,5,6,7]),(8,[0,3,5,6,8]),(14,[0,3,5,6,8,9]),(17,[0,3,5,6,8,9,10]),(20,[0,3,5,6,8,9,10,11])] [] []
noncomputable def z7f:=lpOf 4 Try.f35
noncomputable def z7g:=lpOf 8 Try.f35
noncomputable def z4e:=lpOf 14 Try.f35
noncomputable def z4f:=lpOf 17 Try.f35
noncomputable def z4g:=lpOf 20 Try.f35
theorem ze8 (H:qM true 93 a1 h fun a b=>qw P_ 76 z7f [(0,a0),(3,a),(5,.nils),(6,n0),(7,n0)] b (fun a b c=>q5 a (qw P_ 76 z7g
 (kq b [0,3,5,6] [(8,n0)]) c (fun a b c=>pIdx a 2 (pIdx 2 2 (R (b 5) c) False) False) fun a b=>R (a 4) b)) fun a b=>R (a 4) b):z01 P_ 35 [a0,a1] h R:=cI z1w
 z08 Try.func35 Try.ntmps35 Try.call35 (by kernel_rfl) (by kernel_rfl) H
theorem zbu (H:qC .lss s7 s0 ((1=0→[(0,Operand.const (Value.int .i64 0))]=[])∧z0m true ⟨3,1,8⟩ [n0] 1 [(0,n0)] h (later (fun a b=>q1 (q7
 false ⟨3,1,8⟩ s5 a b fun a b=>qB .add s7 (n6 1) fun c=>Q .normal (frOf [(0,s0),(3,s3),(5,a),(6,s6),(7,c)]) b)) ())) (Q (.exit 0) (frOf [(0,s0),(3,s3),(5,s5),(6,s6)])
 h)):WP P_ 76 z7f (frOf [(0,s0),(3,s3),(5,s5),(6,s6),(7,s7)]) h Q:=z0u z1w [0] [0,3,5,6,7] [0,3,5,6] [4] z08 (by kernel_rfl)
 (Eq.mpr (by kernel_rfl) H)
theorem z6q (H:qC .lss s8 s0 (qZ 1 s5 s8 h fun a=>qC .neq a n0 (pIdx 3 3 (qB .add s8 (n6 1) fun a=>Q .normal (frOf [(0,s0),(3,s3),(5,s5),(6,s6),(8,a)])
 h) (Q (.exit 3) (frOf [(5,s5)]) h)) (qB .add s6 (n6 1) fun a=>qX 1 s5 s8 fun b=>qT 1 b a h fun b=>qw P_ 76 z4e [(0,s0),(3,s3),(5,s5),(6,a),(8,s8),(9,n0)]
 b (fun a b c=>pIdx a 4 (pIdx 4 4 (qB .add (b 8) (n6 1) fun a=>Q .normal (frOf (kq b [0,3,5,6] [(8,a)])) c) (pIdx 4 3 (qB .add (b 8) (n6 1) fun a=>Q .normal (frOf
 (kq b [0,3,5,6] [(8,a)])) c) (Q (.exit 4) (frOf [(5,b 5)]) c))) False) fun a b=>Q .ret (frOf [(4,a 4)]) b)) (Q (.exit 2) (frOf [(5,s5)]) h)):WP P_ 76 z7g
 (frOf [(0,s0),(3,s3),(5,s5),(6,s6),(8,s8)]) h Q:=z0u z1w [2] [0,3,5,6,8] [5] [4] z08 (by kernel_rfl) (Eq.mpr (by kernel_rfl) H)
theorem zav (H:qC .lss s9 s0 (qw P_ 76 z4f [(0,s0),(3,s3),(5,s5),(6,s6),(8,s8),(9,s9),(10,n0)] h (fun a b c=>pIdx a 6 (pIdx
 6 6 (qB .add (b 9) (n6 1) fun a=>Q .normal (frOf (kq b [0,3,5,6,8] [(9,a)])) c) (pIdx 6 5 (qB .add (b 9) (n6 1) fun a=>Q .normal (frOf (kq b [0,3,5,6,8] [(9,a)]))
 c) (Q (.exit 6) (frOf (kq b [0,3,5,6,8] [])) c))) False) fun a b=>Q .ret (frOf [(4,a 4)]) b) (Q (.exit 4) (frOf [(0,s0),(3,s3),(5,s5),(6,s6),(8,s8)]) h)):WP P_ 76
 z4e (frOf [(0,s0),(3,s3),(5,s5),(6,s6),(8,s8),(9,s9)]) h Q:=z0u z1w [4,3,2] [0,3,5,6,8,9] [0,3,5,6,8] [4] z08 (by kernel_rfl)
 (Eq.mpr (by kernel_rfl) H)
theorem zaw (H:qC .lss s10 s0 (qw P_ 76 z4g [(0,s0),(3,s3),(5,s5),(6,s6),(8,s8),(9,s9),(10,s10),(11,n0)] h (fun a b c=>pIdx
 a 8 (pIdx 8 8 (qB .add (b 10) (n6 1) fun a=>Q .normal (frOf (kq b [0,3,5,6,8,9] [(10,a)])) c) (pIdx 8 7 (qB .add (b 10) (n6 1) fun a=>Q .normal (frOf (kq b [0,3,5,6,8,9]
 [(10,a)])) c) (Q (.exit 8) (frOf (kq b [0,3,5,6,8,9] [])) c))) False) fun a b=>Q .ret (frOf [(4,a 4)]) b) (Q (.exit 6) (frOf [(0,s0),(3,s3),(5,s5),(6,s6),(8,s8),(9,s9)])
 h)):WP P_ 76 z4f (frOf [(0,s0),(3,s3),(5,s5),(6,s6),(8,s8),(9,s9),(10,s10)]) h Q:=z0u z1w [6,5,4,3,2] [0,3,5,6,8,9,10] [0,3,5,6,8,9]
 [4] z08 (by kernel_rfl) (Eq.mpr (by kernel_rfl) H)
theorem zax (H:qC .lss s11 s0 (qZ 1 s5 s10 h fun a=>qE a s6 fun a=>qU a true 5 h (fun a=>qX 1 s5 s11 fun b=>qL b h fun c=>qE c n0 fun d=>a [s5,s11,b,c,d]
 h) fun b c=>qP a (nth b 4) bF fun a=>qU a true 5 c (fun a=>qK 3 s3 c fun b=>qS P_ 50 [s0,b,s10,s11] c fun c d=>a [s0,b,s10,s11,c] d) fun b c=>qP a (nth b 4) bF fun
 a=>qI a (qX 1 s5 s11 fun a=>qT 1 a s6 c fun a=>qB .add s11 (n6 1) fun b=>Q .normal (frOf [(0,s0),(3,s3),(5,s5),(6,s6),(8,s8),(9,s9),(10,s10),(11,b)]) a) (qB .add
 s11 (n6 1) fun a=>Q .normal (frOf [(0,s0),(3,s3),(5,s5),(6,s6),(8,s8),(9,s9),(10,s10),(11,a)]) c)) (Q (.exit 8) (frOf [(0,s0),(3,s3),(5,s5),(6,s6),(8,s8),(9,s9),(10,s10)])
 h)):WP P_ 76 z4g (frOf [(0,s0),(3,s3),(5,s5),(6,s6),(8,s8),(9,s9),(10,s10),(11,s11)]) h Q:=z0u z1w [8,7,6,5,4,3,2] [0,3,5,6,8,9,10,11]
 [0,3,5,6,8,9,10] [4] z08 (by kernel_rfl) (Eq.mpr (by kernel_rfl) H)
def z6a:=mkG [1,10,15,24,26,27,32,42,43,53,55,56] [(3,[1,2,3,14,15,16]),(8,[1,2,3,31,32,33])] [] []
noncomputable def z4p:=lpOf 3 Try.f51
noncomputable def z4q:=lpOf 8 Try.f51
theorem ze2 (H:qM true 28 a0 h fun a b=>qA 93 [.nils,.nils,.nils] b fun b c=>qG 1 a c fun d=>qn d fun d=>q6 ⟨56,1,8⟩ [nU 0] d d c fun c d=>q8 [(0,1),(1,1),(2,1)]
 [.nils,.nils,.nils] [(1,c)] fun c=>qA 93 [.nils,.nils,.nils] d fun d e=>qT 3 d c e fun c=>qG 2 a c fun e=>qn e fun f=>qw P_ 60 z4p [(1,a),(2,b),(3,d),(14,e),(15,f),(16,n0)]
 c (fun a b c=>q5 a (qG 3 (b 1) c fun a=>qn a fun d=>qw P_ 60 z4q (kq b [1,2,3] [(31,a),(32,d),(33,n0)]) c (fun a b c=>pIdx a 2 (pIdx 2 2 (qK 3
 (b 3) c fun a=>qT 3 (b 2) a c fun a=>qK 3 (b 2) a fun b=>R b a) False) False) fun a b=>qK 3 (a 2) b fun a=>R a b)) fun a b=>qK 3 (a 2) b fun a=>R a b):z01 P_ 51
 [a0] h R:=cI z6a z08 Try.func51 Try.ntmps51 Try.call51 (by kernel_rfl) (by kernel_rfl) H
theorem zbm (H:qC .lss s16 s15 (qY 3 s14 s16 h fun a=>qA 37 [.nils,.nils,n0] h fun b c=>qT 3 b a c fun a=>q1 (qH 0 s3 a fun c d=>qG 0 b a fun
 b=>qn b fun b=>q6 ⟨56,1,8⟩ [nU 0] b b a fun a b=>q3 c d b∧(1=0→[(0,Operand.tmp 25)]=[])∧z0m true ⟨49,1,24⟩ [.nils] 1 [(0,a)] b (later (fun a b=>q1 (q7 true ⟨49,1,24⟩
 d a b fun a b=>q2 (qF 0 s3 fun c=>qT 1 c a b fun a=>q2 (qB .add s16 (n6 1) fun b=>Q .normal (frOf [(1,s1),(2,s2),(3,s3),(14,s14),(15,s15),(16,b)]) a)))) ()))) (Q
 (.exit 0) (frOf [(1,s1),(2,s2),(3,s3)]) h)):WP P_ 60 z4p (frOf [(1,s1),(2,s2),(3,s3),(14,s14),(15,s15),(16,s16)]) h Q:=z0u z6a
 [0] [1,2,3,14,15,16] [1,2,3] [2] z08 (by kernel_rfl) (Eq.mpr (by kernel_rfl) H)
theorem zbn (H:qC .lss s33 s32 (qY 3 s31 s33 h fun a=>qA 109 [n0,n0,n0] h fun b c=>qT 3 b a c fun a=>qG 2 b a fun c=>qC .lss c n0 (qG 2 s3 a
 fun b=>(1=0→[(0,Operand.const (Value.slice none 0 0))]=[])∧z0m true ⟨49,1,24⟩ [.nils] 1 [(0,.nils)] a (later (fun a c=>q1 (q7 true ⟨49,1,24⟩ b a c fun a b=>qF
 2 s3 fun c=>qT 1 c a b fun a=>qB .add s33 (n6 1) fun b=>Q .normal (frOf [(1,s1),(2,s2),(3,s3),(31,s31),(32,s32),(33,b)]) a)) ())) (q1 (qH 2 s3 a fun c d=>qG 0 s1
 a fun e=>qG 2 b a fun b=>qZ 1 e b a fun b=>qn b fun b=>q6 ⟨56,1,8⟩ [nU 0] b b a fun a b=>q3 c d b∧(1=0→[(0,Operand.tmp 54)]=[])∧z0m true ⟨49,1,24⟩ [.nils] 1
 [(0,a)] b (later (fun a b=>q1 (q7 true ⟨49,1,24⟩ d a b fun a b=>q2 (qF 2 s3 fun c=>qT 1 c a b fun a=>q2 (qB .add s33 (n6 1) fun b=>Q .normal (frOf [(1,s1),(2,s2),(3,s3),(31,s31),(32,s32),(33,b)])
 a)))) ())))) (Q (.exit 2) (frOf [(2,s2),(3,s3)]) h)):WP P_ 60 z4q (frOf [(1,s1),(2,s2),(3,s3),(31,s31),(32,s32),(33,s33)]) h Q:=z0u z6a
 [2] [1,2,3,31,32,33] [2,3] [2] z08 (by kernel_rfl) (Eq.mpr (by kernel_rfl) H)
def zf8:=mkG [1] [] [] []
theorem ze4 (H:qM true 105 a0 h fun a b=>qG 0 a b fun c=>qE c (n6 3) fun c=>qU c false 3 b (fun c=>qH 0 a b fun a d=>qE d (n6 4) fun e=>c [a,d,e]
 b) fun a b=>qP c bT (nth a 2) fun a=>R a b):z01 P_ 69 [a0] h R:=cI zf8 z08 Try.func69 Try.ntmps69 Try.call69 (by kernel_rfl) (by kernel_rfl)
 H
def zh7:=mkG [3,5,25] [(7,[1,3,5,9])] [7] []
theorem zgn (H:qM true 28 a0 h fun a b=>qM true 40 a2 b fun b c=>qG 0 b c fun d=>qQ (fun e=>qE d (n6 1) fun f=>qI f (e (frOf [(1,a1),(3,a),(5,b),(9,f)])
 c) (qE d (n6 2) fun f=>qI f (e (frOf [(1,a1),(3,a),(5,b),(9,f)]) c) (qE d (n6 3) fun f=>qI f (e (frOf [(1,a1),(3,a),(5,b),(9,f)]) c) (qE d (n6 8) fun f=>qI f (e (frOf
 [(1,a1),(3,a),(5,b),(9,f)]) c) (qE d (n6 9) fun d=>e (frOf [(1,a1),(3,a),(5,b),(9,d)]) c))))) fun a b=>qI (a 9) (q1 (qG 2 (a 3) b fun c=>qX 3 c (a 1) fun c=>qG 0
 c b fun c=>qG 1 (a 5) b fun a=>qY 3 c a b fun a=>qS P_ 69 [a] b fun a b=>q2 (R a b))) (R bF b)):z01 P_ 67 [a0,a1,a2] h R:=cI zh7 z08 Try.func67
 Try.ntmps67 Try.call67 (by kernel_rfl) (by kernel_rfl) H
def z8q:=mkG [3,11] [(3,[1,3,7,10,11,12])] [] []
noncomputable def z7e:=lpOf 3 Try.f70
theorem ze3 (H:qM true 93 a0 h fun a b=>qn a2 fun c=>qw P_ 32 z7e [(1,a1),(3,a),(7,nU 0),(10,a2),(11,c),(12,n0)] b (fun a b c=>q5
 a (R (b 7) c)) fun a b=>R (a 6) b):z01 P_ 70 [a0,a1,a2] h R:=cI z8q z08 Try.func70 Try.ntmps70 Try.call70 (by kernel_rfl) (by kernel_rfl) H
theorem zbo (H:qC .lss s12 s11 (qY 3 s10 s12 h fun a=>qA 58 [n0,n0,nU 0] h fun b c=>qT 3 b a c fun a=>qG 0 b a fun c=>qC .eql c (n6 2) (q1 (qH
 0 s3 a fun c d=>qX 1 d s1 fun e=>qL e a fun f=>qH 2 b a fun b g=>qX 1 f g fun i=>qL i a fun j=>(q3 i j a∧q3 b g a∧q3 e f a∧q3 c d a)∧qB .or s7 j fun b=>q2 (qB .add
 s12 (n6 1) fun c=>Q .normal (frOf [(1,s1),(3,s3),(7,b),(10,s10),(11,s11),(12,c)]) a))) (qB .add s12 (n6 1) fun b=>Q .normal (frOf [(1,s1),(3,s3),(7,s7),(10,s10),(11,s11),(12,b)])
 a)) (Q (.exit 0) (frOf [(7,s7)]) h)):WP P_ 32 z7e (frOf [(1,s1),(3,s3),(7,s7),(10,s10),(11,s11),(12,s12)]) h Q:=z0u z8q [0]
 [1,3,7,10,11,12] [7] [6] z08 (by kernel_rfl) (Eq.mpr (by kernel_rfl) H)
def z81:=mkG [4,5,7,19,39,53,62] [(12,[2,5,7,9,39,40])] [] []
noncomputable def z2f:=lpOf 12 Try.f68
theorem zd6 (H:qM true 28 a0 h fun a b=>qM true 93 a1 b fun b c=>qM true 40 a3 c fun c d=>qG 0 c d fun e=>qC .eql e (n6 1) (qK 3 b d fun a=>qG
 6 c d fun b=>qS P_ 70 [a,a2,b] d fun a b=>R a b) (qC .eql e (n6 2) (qG 1 b d fun a=>qG 4 c d fun b=>qZ 1 a b d fun a=>R a d) (qE e (n6 8) fun f=>qI f (qI f (qG 4
 c d fun a=>z2e (.int .u64) a d (later (fun a=>qB .shl (nU 1) a fun a=>R a d) ())) (qC .eql e (n6 3) (qG 3 a d fun a=>qn a fun a=>qw P_ 78 z2f
 [(2,a2),(5,b),(7,c),(9,nU 0),(39,a),(40,n0)] d (fun a b c=>pIdx a 1 (pIdx 1 1 (R (b 9) c) (pIdx 1 0 (R (b 9) c) False)) False) fun a b=>R (a 8) b) (R (nU 0) d)))
 (qC .eql e (n6 9) (qG 4 c d fun a=>z2e (.int .u64) a d (later (fun a=>qB .shl (nU 1) a fun a=>R a d) ())) (qC .eql e (n6 3) (qG 3 a d fun a=>qn a fun a=>qw P_ 78
 z2f [(2,a2),(5,b),(7,c),(9,nU 0),(39,a),(40,n0)] d (fun a b c=>pIdx a 1 (pIdx 1 1 (R (b 9) c) (pIdx 1 0 (R (b 9) c) False)) False) fun a b=>R
 (a 8) b) (R (nU 0) d)))))):z01 P_ 68 [a0,a1,a2,a3] h R:=cI z81 z08 Try.func68 Try.ntmps68 Try.call68 (by kernel_rfl) (by kernel_rfl) H
theorem z9v (H:qC .lss s40 s39 (q1 (qG 0 s5 h fun a=>qZ 1 a s2 h fun a=>qG 2 s7 h fun b=>qZ 1 a b h fun a=>qS P_ 56 [a,s40] h fun a b=>q2 (qV
 a true 1 b (fun a=>qF 4 s7 fun c=>a [c] b) fun b c=>qV a true 1 c (fun a=>qL (nth b 0) c fun b=>a [b] c) fun b c=>qV a true 1 c (fun a=>qF 2 s5 fun b=>a [b] c) fun
 c d=>qV a true 1 d (fun a=>qL (nth c 0) d fun b=>a [b] d) fun c d=>qV a true 1 d (fun a=>a [s40] d) fun d e=>qV a true 1 e (fun a=>qX 1 (nth c 0) (nth d 0) fun b=>a
 [b] e) fun c d=>qV a true 1 d (fun a=>qL (nth c 0) d fun b=>a [b] d) fun c d=>qV a true 1 d (fun a=>qn (nth c 0) fun b=>a [b] d) fun c d=>qV a true 1 d (fun a=>qB
 .lss (nth b 0) (nth c 0) fun b=>a [b] d) fun b c=>qP a (nth b 0) bF fun a=>qI a (q1 (qH 2 s5 c fun a b=>qX 1 b s40 fun d=>qL d c fun e=>qH 4 s7 c fun f g=>qX 1 e
 g fun i=>qL i c fun j=>(q3 i j c∧q3 f g c∧q3 d e c∧q3 a b c)∧qB .or s9 j fun a=>q2 (qB .add s40 (n6 1) fun b=>Q .normal (frOf [(2,s2),(5,s5),(7,s7),(9,a),(39,s39),(40,b)])
 c))) (qB .add s40 (n6 1) fun a=>Q .normal (frOf [(2,s2),(5,s5),(7,s7),(9,s9),(39,s39),(40,a)]) c)))) (Q (.exit 1) (frOf [(9,s9)]) h)):WP P_ 78 z2f
 (frOf [(2,s2),(5,s5),(7,s7),(9,s9),(39,s39),(40,s40)]) h Q:=z0u z81 [1,0] [2,5,7,9,39,40] [9] [8] z08 (by kernel_rfl) (Eq.mpr (by kernel_rfl)
 H)
def z1e:=mkG [2,3,18,21,37,46,69,78,101,109,117,138,151,167,184,188,204,232] [(3,[2,3,4,5,21,22]),(8,[2,3,4,5,37,38]),(11,[2,3,4,5,7,37,38,46,47]),(17,[2,3,4,5,69,70]),(20,[2,3,4,5,9,69,70,78,79]),(26,[2,3,4,5,100,101,102]),(29,[2,3,4,5,11,100,101,102,108,109,110]),(33,[2,3,4,5,11,14,100,101,102,108,109,110]),(37,[2,3,4,5,11,14,100,101,102,108,109,110,187,188,189])]
 [33] []
noncomputable def z4r:=lpOf 3 Try.f52
noncomputable def z4s:=lpOf 8 Try.f52
noncomputable def z3z:=lpOf 11 Try.f52
noncomputable def z4a:=lpOf 17 Try.f52
noncomputable def z4b:=lpOf 20 Try.f52
noncomputable def z4c:=lpOf 26 Try.f52
noncomputable def z4d:=lpOf 29 Try.f52
noncomputable def z2r:=lpOf 37 Try.f52
theorem ze5 (H:qM true 28 a0 h fun a b=>qM true 93 a1 b fun b c=>qA 93 [.nils,.nils,.nils] c fun c d=>qK 5 a d fun e=>qS P_ 51 [e] d fun d e=>qA
 93 [.nils,.nils,.nils] e fun e f=>qT 3 e d f fun d=>qG 1 b d fun f=>qn f fun f=>qw P_ 239 z4r [(2,a),(3,b),(4,c),(5,e),(21,f),(22,n0)] d (fun a
 b c=>q5 a (qG 0 (b 3) c fun a=>qn a fun a=>qw P_ 239 z4s (kq b [2,3,4,5] [(37,a),(38,n0)]) c (fun a b c=>pIdx a 2 (pIdx 2 2 (qG 2 (b 3) c fun a=>qn
 a fun a=>qw P_ 239 z4a (kq b [2,3,4,5] [(69,a),(70,n0)]) c (fun a b c=>pIdx a 6 (pIdx 6 6 (qG 2 (b 2) c fun a=>qn a fun d=>qw P_ 239 z4c
 (kq b [2,3,4,5] [(100,a),(101,d),(102,n0)]) c (fun a b c=>pIdx a 10 (pIdx 10 10 (qK 3 (b 5) c fun a=>qT 3 (b 4) a c fun a=>qK 3 (b 4) a fun b=>R b a) False) False)
 fun a b=>qK 3 (a 4) b fun a=>R a b) False) False) fun a b=>qK 3 (a 4) b fun a=>R a b) False) False) fun a b=>qK 3 (a 4) b fun a=>R a b)) fun a b=>qK 3 (a 4) b fun
 a=>R a b):z01 P_ 52 [a0,a1] h R:=cI z1e z08 Try.func52 Try.ntmps52 Try.call52 (by kernel_rfl) (by kernel_rfl) H
theorem zbp (H:qC .lss s22 s21 (q1 (qG 1 s5 h fun a=>qG 1 s3 h fun b=>qZ 1 b s22 h fun b=>qX 1 a s22 fun a=>qT 1 a b h fun a=>q2 (qB .add s22
 (n6 1) fun b=>Q .normal (frOf [(2,s2),(3,s3),(4,s4),(5,s5),(21,s21),(22,b)]) a))) (Q (.exit 0) (frOf [(2,s2),(3,s3),(4,s4),(5,s5)]) h)):WP P_ 239 z4r
 (frOf [(2,s2),(3,s3),(4,s4),(5,s5),(21,s21),(22,s22)]) h Q:=z0u z1e [0] [2,3,4,5,21,22] [2,3,4,5] [4] z08 (by kernel_rfl) (Eq.mpr (by kernel_rfl)
 H)
theorem zbq (H:qC .lss s38 s37 (qG 0 s3 h fun a=>qZ 1 a s38 h fun a=>qn a fun a=>qw P_ 239 z3z [(2,s2),(3,s3),(4,s4),(5,s5),(7,s38),(37,s37),(38,s38),(46,a),(47,n0)]
 h (fun a b c=>pIdx a 4 (pIdx 4 4 (qB .add (b 38) (n6 1) fun a=>Q .normal (frOf (kq b [2,3,4,5,37] [(38,a)])) c) (pIdx 4 3 (qB .add (b 38) (n6 1) fun a=>Q .normal
 (frOf (kq b [2,3,4,5,37] [(38,a)])) c) (Q (.exit 4) (frOf (kq b [2,3,4,5] [])) c))) False) fun a b=>Q .ret (frOf [(4,a 4)]) b) (Q (.exit 2) (frOf [(2,s2),(3,s3),(4,s4),(5,s5)])
 h)):WP P_ 239 z4s (frOf [(2,s2),(3,s3),(4,s4),(5,s5),(37,s37),(38,s38)]) h Q:=z0u z1e [2] [2,3,4,5,37,38] [2,3,4,5] [4] z08
 (by kernel_rfl) (Eq.mpr (by kernel_rfl) H)
theorem zao (H:qC .lss s47 s46 (q1 (qG 0 s5 h fun a=>qZ 1 a s7 h fun a=>qG 0 s3 h fun b=>qZ 1 b s7 h fun b=>qZ 1 b s47 h fun b=>qX 1 a s47 fun
 a=>qT 1 a b h fun a=>q2 (qB .add s47 (n6 1) fun b=>Q .normal (frOf [(2,s2),(3,s3),(4,s4),(5,s5),(7,s7),(37,s37),(38,s38),(46,s46),(47,b)]) a))) (Q (.exit 4) (frOf
 [(2,s2),(3,s3),(4,s4),(5,s5),(37,s37),(38,s38)]) h)):WP P_ 239 z3z (frOf [(2,s2),(3,s3),(4,s4),(5,s5),(7,s7),(37,s37),(38,s38),(46,s46),(47,s47)])
 h Q:=z0u z1e [4,3,2] [2,3,4,5,7,37,38,46,47] [2,3,4,5,37,38] [4] z08 (by kernel_rfl) (Eq.mpr (by kernel_rfl) H)
theorem zaq (H:qC .lss s70 s69 (qG 2 s3 h fun a=>qZ 1 a s70 h fun a=>qn a fun a=>qw P_ 239 z4b [(2,s2),(3,s3),(4,s4),(5,s5),(9,s70),(69,s69),(70,s70),(78,a),(79,n0)]
 h (fun a b c=>pIdx a 8 (pIdx 8 8 (qB .add (b 70) (n6 1) fun a=>Q .normal (frOf (kq b [2,3,4,5,69] [(70,a)])) c) (pIdx 8 7 (qB .add (b 70) (n6 1) fun a=>Q .normal
 (frOf (kq b [2,3,4,5,69] [(70,a)])) c) (Q (.exit 8) (frOf (kq b [2,3,4,5] [])) c))) False) fun a b=>Q .ret (frOf [(4,a 4)]) b) (Q (.exit 6) (frOf [(2,s2),(3,s3),(4,s4),(5,s5)])
 h)):WP P_ 239 z4a (frOf [(2,s2),(3,s3),(4,s4),(5,s5),(69,s69),(70,s70)]) h Q:=z0u z1e [6] [2,3,4,5,69,70] [2,3,4,5] [4] z08
 (by kernel_rfl) (Eq.mpr (by kernel_rfl) H)
theorem zar (H:qC .lss s79 s78 (q1 (qG 2 s5 h fun a=>qZ 1 a s9 h fun a=>qG 2 s3 h fun b=>qZ 1 b s9 h fun b=>qZ 1 b s79 h fun b=>qX 1 a s79 fun
 a=>qT 1 a b h fun a=>q2 (qB .add s79 (n6 1) fun b=>Q .normal (frOf [(2,s2),(3,s3),(4,s4),(5,s5),(9,s9),(69,s69),(70,s70),(78,s78),(79,b)]) a))) (Q (.exit 8) (frOf
 [(2,s2),(3,s3),(4,s4),(5,s5),(69,s69),(70,s70)]) h)):WP P_ 239 z4b (frOf [(2,s2),(3,s3),(4,s4),(5,s5),(9,s9),(69,s69),(70,s70),(78,s78),(79,s79)])
 h Q:=z0u z1e [8,7,6] [2,3,4,5,9,69,70,78,79] [2,3,4,5,69,70] [4] z08 (by kernel_rfl) (Eq.mpr (by kernel_rfl) H)
theorem zas (H:qC .lss s102 s101 (qY 3 s100 s102 h fun a=>qA 37 [.nils,.nils,n0] h fun b c=>qT 3 b a c fun a=>qG 1 b a fun b=>qn b fun c=>qw
 P_ 239 z4d [(2,s2),(3,s3),(4,s4),(5,s5),(11,s102),(100,s100),(101,s101),(102,s102),(108,b),(109,c),(110,n0)] a (fun a b c=>pIdx a 12 (pIdx 12
 12 (qB .add (b 102) (n6 1) fun a=>Q .normal (frOf (kq b [2,3,4,5,100,101] [(102,a)])) c) (pIdx 12 11 (qB .add (b 102) (n6 1) fun a=>Q .normal (frOf (kq b [2,3,4,5,100,101]
 [(102,a)])) c) (Q (.exit 12) (frOf (kq b [4,5] [])) c))) False) fun a b=>Q .ret (frOf [(4,a 4)]) b) (Q (.exit 10) (frOf [(4,s4),(5,s5)]) h)):WP P_ 239 z4c
 (frOf [(2,s2),(3,s3),(4,s4),(5,s5),(100,s100),(101,s101),(102,s102)]) h Q:=z0u z1e [10] [2,3,4,5,100,101,102] [4,5] [4] z08 (by kernel_rfl)
 (Eq.mpr (by kernel_rfl) H)
theorem zat (H:qC .lss s110 s109 (qY 8 s108 s110 h fun a=>qA 40 [n0,n0,n0,n0,n0,n0,.nils,.nils] h fun b c=>qT 8 b a c fun a=>qQ (fun c=>qK 5
 s2 a fun d=>qK 8 b a fun e=>qS P_ 67 [d,s11,e] a fun a d=>qI a (q1 (qH 0 s5 d fun a e=>qX 1 e s11 fun f=>qL f d fun g=>qH 1 b d fun i j=>qH 0 s5 d fun k l=>qX 1 l
 s11 fun m=>qL m d fun n=>qH 1 b d fun o p=>qX 1 n p fun q=>qL q d fun s=>qK 5 s2 d fun t=>qK 3 s3 d fun u=>qK 8 b d fun v=>qS P_ 68 [t,u,s11,v] d fun d t=>(q3 q s
 t∧q3 o p t∧q3 m n t∧q3 k l t∧q3 i j t∧q3 f g t∧q3 a e t)∧qB .or s d fun a=>qX 1 g j fun d=>qT 1 d a t fun a=>q2 (c (frOf [(2,s2),(3,s3),(4,s4),(5,s5),(11,s11),(14,b),(100,s100),(101,s101),(102,s102),(108,s108),(109,s109),(110,s110)])
 a))) (c (frOf [(2,s2),(3,s3),(4,s4),(5,s5),(11,s11),(14,b),(100,s100),(101,s101),(102,s102),(108,s108),(109,s109),(110,s110)]) d)) fun a b=>qG 0 (a 14) b fun c=>qE
 c (n6 5) fun c=>qU c true 7 b (fun c=>qH 1 (a 2) b fun d e=>qH 4 (a 14) b fun a f=>qX 3 e f fun g=>qK 3 g b fun i=>qS P_ 69 [i] b fun b j=>c [d,e,a,f,g,i,b] j) fun
 b d=>qP c (nth b 6) bF fun b=>qI b (q1 (qH 1 (a 5) d fun b c=>qH 4 (a 14) d fun e f=>qH 1 (a 5) d fun g i=>qH 4 (a 14) d fun j k=>qX 1 i k fun l=>qL l d fun m=>qK
 3 (a 3) d fun n=>qG 6 (a 14) d fun o=>qS P_ 70 [n,a 11,o] d fun d n=>(q3 l m n∧q3 j k n∧q3 g i n∧q3 e f n∧q3 b c n)∧qB .or m d fun b=>qX 1 c f fun c=>qT 1 c b n fun
 b=>q2 (q1 (qG 0 (a 14) b fun c=>qE c (n6 6) fun c=>qV c true 1 b (fun c=>qF 0 (a 2) fun a=>c [a] b) fun b d=>qV c true 1 d (fun a=>qL (nth b 0) d fun b=>a [b] d)
 fun b d=>qV c true 1 d (fun b=>qF 3 (a 14) fun a=>b [a] d) fun d e=>qV c true 1 e (fun a=>qL (nth d 0) e fun b=>a [b] e) fun d e=>qV c true 1 e (fun a=>qX 1 (nth
 b 0) (nth d 0) fun b=>a [b] e) fun b d=>qV c true 1 d (fun a=>qL (nth b 0) d fun b=>a [b] d) fun b d=>qV c true 1 d (fun b=>qF 4 (a 14) fun a=>b [a] d) fun d e=>qV
 c true 1 e (fun a=>qL (nth d 0) e fun b=>a [b] e) fun d e=>qV c true 1 e (fun a=>qX 3 (nth b 0) (nth d 0) fun b=>a [b] e) fun b d=>qV c true 1 d (fun a=>qK 3 (nth
 b 0) d fun b=>a [b] d) fun b d=>qV c true 1 d (fun a=>qS P_ 69 [nth b 0] d fun b c=>a [b] c) fun b d=>q2 (qP c (nth b 0) bF fun b=>qI b (qG 3 (a 2) d fun b=>qn b
 fun c=>qw P_ 239 z2r (kq a [2,3,4,5,11,14,100,101,102,108,109,110] [(187,b),(188,c),(189,n0)]) d (fun a b c=>pIdx a 14 (pIdx 14 14 (qB .add (b
 110) (n6 1) fun a=>Q .normal (frOf (kq b [2,3,4,5,11,100,101,102,108,109] [(110,a)])) c) (pIdx 14 13 (qB .add (b 110) (n6 1) fun a=>Q .normal (frOf (kq b [2,3,4,5,11,100,101,102,108,109]
 [(110,a)])) c) (Q (.exit 14) (frOf (kq b [2,3,4,5,100,101,102] [])) c))) False) fun a b=>Q .ret (frOf [(4,a 4)]) b) (qB .add (a 110) (n6 1) fun b=>Q .normal (frOf
 (kq a [2,3,4,5,11,100,101,102,108,109] [(110,b)])) d)))))) (q1 (qG 0 (a 14) d fun b=>qE b (n6 6) fun b=>qV b true 1 d (fun b=>qF 0 (a 2) fun a=>b [a] d) fun c d=>qV
 b true 1 d (fun a=>qL (nth c 0) d fun b=>a [b] d) fun c d=>qV b true 1 d (fun b=>qF 3 (a 14) fun a=>b [a] d) fun d e=>qV b true 1 e (fun a=>qL (nth d 0) e fun b=>a
 [b] e) fun d e=>qV b true 1 e (fun a=>qX 1 (nth c 0) (nth d 0) fun b=>a [b] e) fun c d=>qV b true 1 d (fun a=>qL (nth c 0) d fun b=>a [b] d) fun c d=>qV b true 1
 d (fun b=>qF 4 (a 14) fun a=>b [a] d) fun d e=>qV b true 1 e (fun a=>qL (nth d 0) e fun b=>a [b] e) fun d e=>qV b true 1 e (fun a=>qX 3 (nth c 0) (nth d 0) fun b=>a
 [b] e) fun c d=>qV b true 1 d (fun a=>qK 3 (nth c 0) d fun b=>a [b] d) fun c d=>qV b true 1 d (fun a=>qS P_ 69 [nth c 0] d fun b c=>a [b] c) fun c d=>q2 (qP b (nth
 c 0) bF fun b=>qI b (qG 3 (a 2) d fun b=>qn b fun c=>qw P_ 239 z2r (kq a [2,3,4,5,11,14,100,101,102,108,109,110] [(187,b),(188,c),(189,n0)]) d
 (fun a b c=>pIdx a 14 (pIdx 14 14 (qB .add (b 110) (n6 1) fun a=>Q .normal (frOf (kq b [2,3,4,5,11,100,101,102,108,109] [(110,a)])) c) (pIdx 14 13 (qB .add (b 110)
 (n6 1) fun a=>Q .normal (frOf (kq b [2,3,4,5,11,100,101,102,108,109] [(110,a)])) c) (Q (.exit 14) (frOf (kq b [2,3,4,5,100,101,102] [])) c))) False) fun a b=>Q .ret
 (frOf [(4,a 4)]) b) (qB .add (a 110) (n6 1) fun b=>Q .normal (frOf (kq a [2,3,4,5,11,100,101,102,108,109] [(110,b)])) d))))) (Q (.exit 12) (frOf [(2,s2),(3,s3),(4,s4),(5,s5),(100,s100),(101,s101),(102,s102)])
 h)):WP P_ 239 z4d (frOf [(2,s2),(3,s3),(4,s4),(5,s5),(11,s11),(100,s100),(101,s101),(102,s102),(108,s108),(109,s109),(110,s110)]) h Q:=z0u
 z1e [12,11,10] [2,3,4,5,11,100,101,102,108,109,110] [2,3,4,5,100,101,102] [4] z08 (by kernel_rfl) (Eq.mpr (by kernel_rfl) H)
theorem zau (H:qC .lss s189 s188 (qY 3 s187 s189 h fun a=>qA 109 [n0,n0,n0] h fun b c=>qT 3 b a c fun a=>q1 (qG 0 s3 a fun c=>qZ 1 c s11 a fun
 c=>qG 2 s14 a fun d=>qZ 1 c d a fun c=>qS P_ 56 [c,s189] a fun a c=>q2 (qV a true 1 c (fun a=>qF 2 b fun b=>a [b] c) fun b c=>qV a true 1 c (fun a=>qL (nth b 0) c
 fun b=>a [b] c) fun b c=>qV a true 1 c (fun a=>qF 3 s14 fun b=>a [b] c) fun c d=>qV a true 1 d (fun a=>qL (nth c 0) d fun b=>a [b] d) fun c d=>qV a true 1 d (fun
 a=>qE (nth b 0) (nth c 0) fun b=>a [b] d) fun b c=>qP a (nth b 0) bF fun a=>qI a (q1 (qH 2 s5 c fun a b=>qX 1 b s189 fun d=>qL d c fun e=>qH 4 s14 c fun f g=>qH 2
 s5 c fun i j=>qX 1 j s189 fun k=>qL k c fun l=>qH 4 s14 c fun m n=>qX 1 l n fun o=>qL o c fun p=>qK 3 s3 c fun q=>qG 6 s14 c fun s=>qS P_ 70 [q,s11,s] c fun c q=>(q3
 o p q∧q3 m n q∧q3 k l q∧q3 i j q∧q3 f g q∧q3 d e q∧q3 a b q)∧qB .or p c fun a=>qX 1 e g fun b=>qT 1 b a q fun a=>q2 (qB .add s189 (n6 1) fun b=>Q .normal (frOf [(2,s2),(3,s3),(4,s4),(5,s5),(11,s11),(14,s14),(100,s100),(101,s101),(102,s102),(108,s108),(109,s109),(110,s110),(187,s187),(188,s188),(189,b)])
 a))) (qB .add s189 (n6 1) fun a=>Q .normal (frOf [(2,s2),(3,s3),(4,s4),(5,s5),(11,s11),(14,s14),(100,s100),(101,s101),(102,s102),(108,s108),(109,s109),(110,s110),(187,s187),(188,s188),(189,a)])
 c)))) (Q (.exit 14) (frOf [(2,s2),(3,s3),(4,s4),(5,s5),(11,s11),(100,s100),(101,s101),(102,s102),(108,s108),(109,s109),(110,s110)]) h)):WP P_ 239 z2r
 (frOf [(2,s2),(3,s3),(4,s4),(5,s5),(11,s11),(14,s14),(100,s100),(101,s101),(102,s102),(108,s108),(109,s109),(110,s110),(187,s187),(188,s188),(189,s189)]) h Q:=z0u
 z1e [14,13,12,11,10] [2,3,4,5,11,14,100,101,102,108,109,110,187,188,189] [2,3,4,5,11,100,101,102,108,109,110] [4] z08 (by kernel_rfl) (Eq.mpr
 (by kernel_rfl) H)
def z6k:=mkG [1,10,14,18,24,27,34,36,37,39,43,50,52,53,55] [(4,[1,3,26,27,28]),(9,[3,42,43,44])] [] []
noncomputable def z7u:=lpOf 4 Try.f71
noncomputable def z7v:=lpOf 9 Try.f71
theorem zfj (H:qM true 93 a0 h fun a b=>qG 0 a b fun c=>qn c fun c=>z2e (.int .u64) c b (later (fun c=>qG 1 a b fun d=>qn d fun d=>z2e (.int
 .u64) d b (later (fun d=>qG 2 a b fun e=>qn e fun e=>z2e (.int .u64) e b (later (fun e=>(3=0→[(0,Operand.tmp 11),(1,Operand.tmp 15),(2,Operand.tmp 19)]=[])∧z0m
 false ⟨56,1,8⟩ [nU 0] 3 [(0,c),(1,d),(2,e)] b (later (fun b c=>qG 1 a c fun d=>q1 (q7 true ⟨56,1,8⟩ b d c fun b c=>qG 0 a c fun d=>qn d fun e=>qw P_ 58 z7u
 [(1,a),(3,b),(26,d),(27,e),(28,n0)] c (fun a b c=>q5 a (qG 2 (b 1) c fun a=>qn a fun d=>qw P_ 58 z7v [(3,b 3),(42,a),(43,d),(44,n0)] c (fun a b
 c=>pIdx a 2 (pIdx 2 2 (R (b 3) c) False) False) fun a b=>R (a 2) b)) fun a b=>R (a 2) b)) ())) ())) ())) ())):z01 P_ 71 [a0] h R:=cI z6k z08
 Try.func71 Try.ntmps71 Try.call71 (by kernel_rfl) (by kernel_rfl) H
theorem zcf (H:qC .lss s28 s27 (qZ 1 s26 s28 h fun a=>qn a fun b=>z2e (.int .u64) b h (later (fun b=>(1=0→[(0,Operand.tmp 35)]=[])∧z0m
 true ⟨56,1,8⟩ [nU 0] 1 [(0,b)] h (later (fun b c=>q1 (q7 true ⟨56,1,8⟩ s3 b c fun b c=>q1 (q7 true ⟨56,1,8⟩ b a c fun a b=>qB .add s28 (n6 1) fun c=>Q .normal (frOf
 [(1,s1),(3,a),(26,s26),(27,s27),(28,c)]) b))) ())) ())) (Q (.exit 0) (frOf [(1,s1),(3,s3)]) h)):WP P_ 58 z7u (frOf [(1,s1),(3,s3),(26,s26),(27,s27),(28,s28)])
 h Q:=z0u z6k [0] [1,3,26,27,28] [1,3] [2] z08 (by kernel_rfl) (Eq.mpr (by kernel_rfl) H)
theorem zcg (H:qC .lss s44 s43 (qZ 1 s42 s44 h fun a=>qn a fun b=>z2e (.int .u64) b h (later (fun b=>(1=0→[(0,Operand.tmp 51)]=[])∧z0m
 true ⟨56,1,8⟩ [nU 0] 1 [(0,b)] h (later (fun b c=>q1 (q7 true ⟨56,1,8⟩ s3 b c fun b c=>q1 (q7 true ⟨56,1,8⟩ b a c fun a b=>qB .add s44 (n6 1) fun c=>Q .normal (frOf
 [(3,a),(42,s42),(43,s43),(44,c)]) b))) ())) ())) (Q (.exit 2) (frOf [(3,s3)]) h)):WP P_ 58 z7v (frOf [(3,s3),(42,s42),(43,s43),(44,s44)]) h Q:=z0u
 z6k [2] [3,42,43,44] [3] [2] z08 (by kernel_rfl) (Eq.mpr (by kernel_rfl) H)
def z99:=mkG [2,3,9,11,13,15,18] [(5,[5,6,18,19])] [] []
noncomputable def z7w:=lpOf 5 Try.f53
theorem zfk (H:qM true 93 a0 h fun a b=>qM true 93 a1 b fun b c=>q1 (qK 3 a c fun a=>qK 3 b c fun d=>qS P_ 71 [a] c fun a c=>q4 3 b d c∧qS P_ 71
 [d] c fun b c=>q2 (qn a fun d=>qn b fun e=>qC .neq d e (R bF c) (qn a fun d=>qw P_ 32 z7w [(5,a),(6,b),(18,d),(19,n0)] c (fun a _ b=>q5 a (R bT
 b)) fun a b=>R (a 4) b)))):z01 P_ 53 [a0,a1] h R:=cI z99 z08 Try.func53 Try.ntmps53 Try.call53 (by kernel_rfl) (by kernel_rfl) H
theorem zch (H:qC .lss s19 s18 (q1 (qZ 1 s5 s19 h fun a=>qZ 1 s6 s19 h fun b=>qC .neq a b (Q .ret (frOf [(4,bF)]) h) (qB .add s19 (n6 1) fun a=>Q
 .normal (frOf [(5,s5),(6,s6),(18,s18),(19,a)]) h))) (Q (.exit 0) (frOf []) h)):WP P_ 32 z7w (frOf [(5,s5),(6,s6),(18,s18),(19,s19)]) h Q:=z0u
 z99 [0] [5,6,18,19] [] [4] z08 (by kernel_rfl) (Eq.mpr (by kernel_rfl) H)
def z8r:=mkG [1,6,10,13,16] [(4,[1,2,3])] [] []
noncomputable def z4t:=lpOf 4 Try.f36
theorem ze6 (H:qM true 28 a0 h fun a b=>qA 93 [.nils,.nils,.nils] b fun b c=>qK 5 a c fun d=>qS P_ 34 [d] c fun c d=>qN c fun c=>qI c (q8 [(0,1),(1,1),(2,1)]
 [.nils,.nils,.nils] [] fun a=>qT 3 b a d fun a=>qK 3 b a fun b=>R b a) (qK 5 a d fun c=>qS P_ 51 [c] d fun c d=>qA 93 [.nils,.nils,.nils] d fun d e=>qT 3 d c e fun
 c=>qw P_ 19 z4t [(1,a),(2,b),(3,d)] c (fun _ _ _=>False) fun a b=>qK 3 (a 2) b fun a=>R a b)):z01 P_ 36 [a0] h R:=cI z8r z08
 Try.func36 Try.ntmps36 Try.call36 (by kernel_rfl) (by kernel_rfl) H
theorem zbr (H:qK 5 s1 h fun a=>qK 3 s3 h fun b=>qS P_ 52 [a,b] h fun a b=>qA 93 [.nils,.nils,.nils] b fun b c=>qT 3 b a c fun a=>qK 3 s3 a fun
 c=>qK 3 b a fun d=>qS P_ 53 [c,d] a fun a c=>qI a (qK 3 s3 c fun a=>qT 3 s2 a c fun a=>Q .ret (frOf [(2,s2)]) a) (qK 3 b c fun a=>qT 3 s3 a c fun a=>Q .normal (frOf
 [(1,s1),(2,s2),(3,s3)]) a)):WP P_ 19 z4t (frOf [(1,s1),(2,s2),(3,s3)]) h Q:=z0u z8r [0] [1,2,3] [2] [2] z08 (by kernel_rfl)
 (Eq.mpr (by kernel_rfl) H)
def zgb:=mkG [2] [] [] []
theorem zfl (H:qM true 28 a0 h fun a b=>qG 4 a b fun c=>qY 3 c a1 b fun c=>qA 88 [n0,n0,n0] b fun b d=>qT 3 b c d fun c=>q1 (qG 2 a c fun a=>qG 0
 b c fun d=>qX 3 a d fun a=>qG 1 a c fun a=>qG 1 b c fun d=>qG 2 b c fun b=>qB .add b (n6 1) fun b=>qs 8 a (some d) (some b) fun a=>R a c)):z01 P_ 55 [a0,a1] h
 R:=cI zgb z08 Try.func55 Try.ntmps55 Try.call55 (by kernel_rfl) (by kernel_rfl) H
def zh9:=mkG [1] [(9,[1,5])] [9] []
theorem zgo (H:qM true 40 a0 h fun a b=>qG 0 a b fun c=>qQ (fun d=>qE c (n6 1) fun e=>qI e (d (frOf [(1,a),(5,e)]) b) (qE c (n6 2) fun e=>qI e (d
 (frOf [(1,a),(5,e)]) b) (qE c (n6 3) fun e=>qI e (d (frOf [(1,a),(5,e)]) b) (qE c (n6 4) fun e=>qI e (d (frOf [(1,a),(5,e)]) b) (qE c (n6 8) fun e=>qI e (d (frOf
 [(1,a),(5,e)]) b) (qE c (n6 9) fun e=>qI e (d (frOf [(1,a),(5,e)]) b) (qE c (n6 10) fun c=>d (frOf [(1,a),(5,c)]) b))))))) fun a b=>qI (a 5) (qG 1 (a 1) b fun a=>R
 a b) (R (n6 (-1)) b)):z01 P_ 82 [a0] h R:=cI zh9 z08 Try.func82 Try.ntmps82 Try.call82 (by kernel_rfl) (by kernel_rfl) H
def z88:=mkG [10] [(2,[1,2,9,10,11])] [] [(4,[(12,[1,2,8,9,10,11,28,36,40])])]
noncomputable def z4h:=lpOf 2 Try.f83
theorem zd7 (H:qn a0 fun a=>qw P_ 50 z4h [(1,a1),(2,a2),(9,a0),(10,a),(11,n0)] h (fun a _ b=>q5 a (R bF b)) fun a b=>R (a 6)
 b):z01 P_ 83 [a0,a1,a2] h R:=cI z88 z08 Try.func83 Try.ntmps83 Try.call83 (by kernel_rfl) (by kernel_rfl) H
theorem zay (H:qC .lss s11 s10 (qY 8 s9 s11 h fun a=>qA 40 [n0,n0,n0,n0,n0,n0,.nils,.nils] h fun b c=>qT 8 b a c fun a=>qB .lss s1 n0 fun c=>qU
 c true 3 a (fun c=>qH 0 b a fun b d=>qE d (n6 5) fun e=>c [b,d,e] a) fun a d=>qP c (nth a 2) bF fun a=>qU a true 4 d (fun a=>qH 4 b d fun b c=>qE c s2 fun e=>a [b,c,s2,e]
 d) fun c d=>qP a (nth c 3) bF fun a=>qU a false 3 d (fun a=>qB .geq s1 n0 fun b=>a [s1,b,b] d) fun c d=>qU (nth c 2) true 3 d (fun a=>qH 0 b d fun b c=>qE c (n6 6)
 fun e=>a [b,c,e] d) fun d e=>qU a false 2 e (fun a=>qP (nth c 2) (nth d 2) bF fun b=>a [b,b] e) fun c d=>qU (nth c 1) true 4 d (fun a=>qH 3 b d fun b c=>qE c s1 fun
 e=>a [b,c,s1,e] d) fun d e=>z5z [s1,s2,b,s9,s10,s11,a,nth c 1,nth d 3] (later (fun a=>qU (nth a 6) false 2 e (fun b=>qP (nth a 7) (nth a 8) bF fun a=>b [a,a] e)
 fun b c=>qU (nth b 1) true 4 c (fun b=>qH 4 (nth a 2) c fun d e=>qE e (nth a 1) fun f=>b [d,e,nth a 1,f] c) fun c d=>qU (nth a 6) false 1 d (fun a=>qP (nth b 1) (nth
 c 3) bF fun b=>a [b] d) fun b c=>qP (nth a 6) bT (nth b 0) fun b=>qI b (Q .ret (frOf [(6,bT)]) c) (qB .add (nth a 5) (n6 1) fun b=>Q .normal (frOf [(1,nth a 0),(2,nth
 a 1),(9,nth a 3),(10,nth a 4),(11,b)]) c)) ())) (Q (.exit 0) (frOf []) h)):WP P_ 50 z4h (frOf [(1,s1),(2,s2),(9,s9),(10,s10),(11,s11)]) h Q:=z0u
 z88 [0] [1,2,9,10,11] [] [6] z08 (by kernel_rfl) (Eq.mpr (by kernel_rfl) H)
def zbc:=mkG [4,17,19,25,30,31,34,40,78,98,104,118,126,135,142,145,146] [(4,[1,2,3,4,8,9,10,18,19,20]),(17,[1,3,4,8,9,13,69,70])] [17] []
noncomputable def z6j:=lpOf 4 Try.f72
def z8g (R:AV→z00→Prop) (fr':Fr) (v160:AV) (v186:AV) (h187:z00) (v190:AV) (v191:AV) (v192:AV):Prop :=(1=0→[(0,Operand.tmp
 144)]=[])∧z0m true ⟨3,1,8⟩ [n0] 1 [(0,v192)] h187 (later (fun a b=>q1 (q7 true ⟨3,1,8⟩ v186 v190 b fun b c=>q3 v191 v192 c∧q1 (q7 true ⟨3,1,8⟩ b a c fun a b=>q2
 (qF 1 v160 fun c=>qF 2 c fun c=>qT 1 c a b fun a=>q2 (qK 4 v160 a fun b=>qT 4 (fr' 8) b a fun a=>qK 4 (fr' 8) a fun b=>R b a))))) ())
def z2d (R:AV→z00→Prop) (fr12:Fr) (h91:z00) (v92:AV):Prop :=qI v92 (q8 [(0,1),(1,3)] [n0,bF,n0,.nils] [] fun a=>qT 4 (fr12 8)
 a h91 fun a=>qK 4 (fr12 8) a fun b=>R b a) (qY 8 (fr12 10) n0 h91 fun a=>qA 40 [n0,n0,n0,n0,n0,n0,.nils,.nils] h91 fun b c=>qT 8 b a c fun a=>qG 0 b a fun c=>qQ (fun
 d=>qE c (n6 8) fun e=>qI e (d (frOf (kq fr12 [1,3,4,8,9] [(13,b),(69,c),(70,e)])) a) (qE c (n6 9) fun e=>d (frOf (kq fr12 [1,3,4,8,9] [(13,b),(69,c),(70,e)])) a))
 fun a b=>qI (a 70) (q8 [(0,1),(1,3)] [n0,bF,n0,.nils] [(0,n6 1)] fun c=>qT 4 (a 8) c b fun b=>qK 4 (a 8) b fun a=>R a b) (qC .eql (a 69) (n6 1) (qG 6 (a 13) b fun
 c=>qn c fun c=>qE c (n6 1) fun c=>qU c true 6 b (fun c=>qH 6 (a 13) b fun a d=>qX 3 d n0 fun e=>qH 0 e b fun f g=>qE g (n6 2) fun i=>c [a,d,e,f,g,i] b) fun b d=>qP
 c (nth b 5) bF fun b=>qI b (q1 (qK 5 (a 4) d fun b=>qG 6 (a 13) d fun c=>qX 3 c n0 fun c=>qG 2 c d fun c=>z2e (.int .i64) c d (later (fun c=>qB .sub (a 3) (n6 1)
 fun e=>qS P_ 72 [b,a 1,c,e] d fun b c=>q2 (qT 4 (a 8) b c fun b=>q2 (qK 4 (a 8) b fun a=>R a b))) ()))) (q8 [(0,1),(1,3)] [n0,bF,n0,.nils] [] fun b=>qT 4 (a 8) b
 d fun b=>qK 4 (a 8) b fun a=>R a b)) (qC .eql (a 69) (n6 2) (qG 4 (a 13) b fun c=>qS P_ 83 [a 9,n6 (-1),c] b fun b c=>qN b fun b=>qI b (qG 4 (a 13) c fun b=>q8 [(0,1),(1,1),(2,1)]
 [bF,n0,.nils] [(0,bT),(1,b)] fun b=>q8 [(0,1),(1,3)] [n0,bF,n0,.nils] [(0,n6 2),(1,b)] fun b=>qT 4 (a 8) b c fun b=>qK 4 (a 8) b fun a=>R a b) (q8 [(0,1),(1,3)] [n0,bF,n0,.nils]
 [] fun b=>qT 4 (a 8) b c fun b=>qK 4 (a 8) b fun a=>R a b)) (qC .eql (a 69) (n6 3) (qK 5 (a 4) b fun c=>qG 2 (a 13) b fun d=>qB .sub (a 3) (n6 1) fun e=>qS P_ 72
 [c,a 1,d,e] b fun b c=>qA 118 [n0,bF,n0,.nils] c fun c d=>qT 4 c b d fun b=>qG 0 c b fun d=>qE d (n6 2) fun d=>qU d true 5 b (fun a=>qF 1 c fun c=>qH 2 c b fun d
 e=>qn e fun f=>qB .leq f (n6 2) fun g=>a [c,d,e,f,g] b) fun b e=>qP d (nth b 4) bF fun b=>qU b true 7 e (fun b=>qH 3 (a 13) e fun c d=>qH 4 (a 13) e fun f g=>qS P_
 83 [a 9,d,g] e fun e i=>qN e fun j=>b [a 9,c,d,f,g,e,j] i) fun d e=>qP b (nth d 6) bF fun b=>qI b (q1 ((0=0→([]:List (Nat×Operand))=[])∧z0m false ⟨3,1,8⟩ [n0]
 0 [] e (later (fun b d=>qF 1 c fun e=>qG 2 e d fun e=>qH 4 (a 13) d fun f g=>z8g R a c b d e f g) ()))) (q8 [(0,1),(1,3)] [n0,bF,n0,.nils] [] fun
 b=>qT 4 (a 8) b e fun b=>qK 4 (a 8) b fun a=>R a b)) (q8 [(0,1),(1,3)] [n0,bF,n0,.nils] [] fun c=>qT 4 (a 8) c b fun b=>qK 4 (a 8) b fun a=>R a b)))))
theorem zhy (H:qM true 28 a0 h fun a b=>qA 118 [n0,bF,n0,.nils] b fun b c=>qK 5 a c fun d=>qS P_ 55 [d,a1] c fun c d=>qn c fun e=>qw P_ 151 z6j
 [(1,a1),(2,a2),(3,a3),(4,a),(8,b),(9,c),(10,.nils),(18,c),(19,e),(20,n0)] d (fun a b c=>q5 a (qn (b 10) fun a=>qC .eql a n0 (q8 [(0,1),(1,1),(2,1)] [bF,n0,.nils]
 [(1,b 2)] fun a=>q8 [(0,1),(1,3)] [n0,bF,n0,.nils] [(0,n6 2),(1,a)] fun a=>qT 4 (b 8) a c fun a=>qK 4 (b 8) a fun b=>R b a) (q1 (qn (b 10) fun a=>qB .gtr a (n6 1)
 fun a=>qV a false 1 c (fun a=>a [b 3] c) fun c d=>qV a false 1 d (fun a=>qE (nth c 0) n0 fun b=>a [b] d) fun c d=>qP a bT (nth c 0) fun a=>qV a false 1 d (fun a=>qF
 2 (b 4) fun b=>a [b] d) fun c d=>qV a false 1 d (fun a=>qL (nth c 0) d fun b=>a [b] d) fun c d=>qV a false 1 d (fun a=>qF 4 (b 4) fun b=>a [b] d) fun d e=>qV a false
 1 e (fun a=>qL (nth d 0) e fun b=>a [b] e) fun d e=>qV a false 1 e (fun a=>a [b 1] e) fun e f=>qV a false 1 f (fun a=>qX 3 (nth d 0) (nth e 0) fun b=>a [b] f) fun
 d e=>qV a false 1 e (fun a=>qF 0 (nth d 0) fun b=>a [b] e) fun d e=>qV a false 1 e (fun a=>qL (nth d 0) e fun b=>a [b] e) fun d e=>qV a false 1 e (fun a=>qX 3 (nth
 c 0) (nth d 0) fun b=>a [b] e) fun c d=>qV a false 1 d (fun a=>qF 0 (nth c 0) fun b=>a [b] d) fun c d=>qV a false 1 d (fun a=>qL (nth c 0) d fun b=>a [b] d) fun c
 d=>qV a false 1 d (fun a=>a [b 2] d) fun d e=>qV a false 1 e (fun a=>qX 3 (nth c 0) (nth d 0) fun b=>a [b] e) fun c d=>qV a false 1 d (fun a=>qF 2 (nth c 0) fun b=>a
 [b] d) fun c d=>qV a false 1 d (fun a=>qL (nth c 0) d fun b=>a [b] d) fun c d=>qV a false 1 d (fun a=>qN (nth c 0) fun b=>a [b] d) fun c d=>qP a bT (nth c 0) fun
 a=>z2d R b d a)))) fun a b=>qK 4 (a 8) b fun a=>R a b):z01 P_ 72 [a0,a1,a2,a3] h R:=cI zbc z08 Try.func72 Try.ntmps72 Try.call72
 (by kernel_rfl) (by kernel_rfl) H
theorem zea (H:qC .lss s20 s19 (qY 8 s18 s20 h fun a=>qA 40 [n0,n0,n0,n0,n0,n0,.nils,.nils] h fun b c=>qT 8 b a c fun a=>qK 8 b a fun c=>qS P_ 82
 [c] a fun a c=>qC .eql a s2 (qK 8 b c fun a=>(1=0→[(0,Operand.tmp 29)]=[])∧z0m true ⟨40,8,96⟩ [n0,n0,n0,n0,n0,n0,.nils,.nils] 1 [(0,a)] c (later (fun a b=>q1
 (q7 true ⟨40,8,96⟩ s10 a b fun a b=>qB .add s20 (n6 1) fun c=>Q .normal (frOf [(1,s1),(2,s2),(3,s3),(4,s4),(8,s8),(9,s9),(10,a),(18,s18),(19,s19),(20,c)]) b)) ()))
 (qB .add s20 (n6 1) fun a=>Q .normal (frOf [(1,s1),(2,s2),(3,s3),(4,s4),(8,s8),(9,s9),(10,s10),(18,s18),(19,s19),(20,a)]) c)) (Q (.exit 0) (frOf [(1,s1),(2,s2),(3,s3),(4,s4),(8,s8),(9,s9),(10,s10)])
 h)):WP P_ 151 z6j (frOf [(1,s1),(2,s2),(3,s3),(4,s4),(8,s8),(9,s9),(10,s10),(18,s18),(19,s19),(20,s20)]) h Q:=z0u zbc [0] [1,2,3,4,8,9,10,18,19,20]
 [1,2,3,4,8,9,10] [8] z08 (by kernel_rfl) (Eq.mpr (by kernel_rfl) H)
def zbb:=mkG [2,9,19,33,44,45,46] [(6,[1,2,5,6,7])] [] []
noncomputable def z6i:=lpOf 6 Try.f54
theorem zhx (H:qM true 28 a0 h fun a b=>qK 5 a b fun c=>qS P_ 34 [c] b fun b c=>qN b fun b=>qU b false 2 c (fun a=>qB .lss a1 n0 fun b=>a [a1,b] c)
 fun c d=>qP b bT (nth c 1) fun b=>qU b false 5 d (fun b=>qH 4 a d fun a c=>qn c fun e=>qB .geq a1 e fun f=>b [a1,a,c,e,f] d) fun c d=>qP b bT (nth c 4) fun b=>qI
 b (R .nils d) (q1 (qG 2 a d fun b=>qG 4 a d fun c=>qX 3 c a1 fun c=>qG 0 c d fun c=>qX 3 b c fun b=>qG 0 b d fun b=>qn b fun b=>qw P_ 48 z6i [(1,a1),(2,a),(5,.nils),(6,b),(7,n0)]
 d (fun a b c=>q5 a (R (b 5) c)) fun a b=>R (a 4) b))):z01 P_ 54 [a0,a1] h R:=cI zbb z08 Try.func54 Try.ntmps54 Try.call54 (by kernel_rfl) (by
 kernel_rfl) H
theorem ze9 (H:qC .lss s7 s6 (qK 5 s2 h fun a=>qS P_ 72 [a,s1,s7,s6] h fun a b=>(1=0→[(0,Operand.tmp 44)]=[])∧z0m true ⟨118,4,48⟩ [n0,bF,n0,.nils]
 1 [(0,a)] b (later (fun a b=>q1 (q7 true ⟨118,4,48⟩ s5 a b fun a b=>qB .add s7 (n6 1) fun c=>Q .normal (frOf [(1,s1),(2,s2),(5,a),(6,s6),(7,c)]) b)) ())) (Q (.exit
 0) (frOf [(5,s5)]) h)):WP P_ 48 z6i (frOf [(1,s1),(2,s2),(5,s5),(6,s6),(7,s7)]) h Q:=z0u zbb [0] [1,2,5,6,7] [5] [4] z08 (by
 kernel_rfl) (Eq.mpr (by kernel_rfl) H)
def z6c:=mkG [2,20,23,25,28,37,38,69,70,111,134,135,148,149,160,180,181,184,218,219,222,223] [(7,[5,6,7,8,9,37,38,39]),(12,[5,6,7,8,9,11,12,37,38,39]),(14,[5,6,7,8,9,11,12,37,38,39]),(19,[5,6,7,8,9,11,12,13,15,16,37,38,39]),(29,[5,6,7,8,9,11,17,18,37,38,39,169])]
 [12,14,29] []
noncomputable def z4x:=lpOf 7 Try.f37
noncomputable def z4l:=lpOf 19 Try.f37
theorem zec (H:qM true 28 a0 h fun a b=>qK 5 a b fun c=>qS P_ 36 [c] b fun b c=>qA 93 [.nils,.nils,.nils] c fun c d=>qT 3 c b d fun b=>qG 3 a b
 fun d=>qn d fun d=>qK 3 c b fun e=>qS P_ 35 [d,e] b fun b d=>qK 5 a d fun e=>qS P_ 54 [e,a1] d fun d e=>qG 4 a e fun f=>qX 3 f a1 fun f=>qG 0 f e fun f=>qK 5 a e
 fun a=>qS P_ 55 [a,a1] e fun a e=>qn a fun g=>qw P_ 226 z4x [(5,c),(6,b),(7,d),(8,f),(9,.nils),(37,a),(38,g),(39,n0)] e (fun a b c=>q5 a (R (b
 9) c)) fun a b=>R (a 4) b):z01 P_ 37 [a0,a1] h R:=cI z6c z08 Try.func37 Try.ntmps37 Try.call37 (by kernel_rfl) (by kernel_rfl) H
def z5v (Q:z1k→Fr→z00→Prop) (fr':Fr) (h184:z00) (v189:AV):Prop :=qL v189 h184 fun a=>qX 4 (fr' 7) a fun a=>qF 1 a fun
 a=>qK 3 a h184 fun a=>qF 7 (fr' 18) fun b=>qT 3 b a h184 fun a=>qK 12 (fr' 18) a fun b=>(1=0→[(0,Operand.tmp 217)]=[])∧z0m true ⟨80,12,128⟩ [n0,bF,n0,.nils,n0,bF,n0,bF,n0,.nils,n0,n0]
 1 [(0,b)] a (later (fun a b=>q1 (q7 true ⟨80,12,128⟩ (fr' 9) a b fun a b=>qB .add (fr' 39) (n6 1) fun c=>Q .normal (frOf (kq fr' [5,6,7,8] [(9,a),(37,fr' 37),(38,fr'
 38),(39,c)])) b)) ())
def z1v (Q:z1k→Fr→z00→Prop) (fr':Fr) (h':z00) (fr78:Fr) (h79:z00) (v82:AV):Prop :=qU v82 false 2 h79 (fun a=>qE
 (fr78 16) (n6 32) fun b=>a [fr78 16,b] h79) fun a b=>qP v82 bT (nth a 1) fun a=>qI a (pIdx 1 1 (qB .add (fr78 39) (n6 1) fun a=>Q .normal (frOf (kq fr78 [5,6,7,8,9,37,38]
 [(39,a)])) b) (Q (.exit 1) (frOf [(9,fr78 9)]) b)) (qZ 1 (fr78 6) (fr78 16) b fun a=>q8 [(0,1),(1,3),(4,1),(5,1),(6,1),(7,3),(10,1),(11,1)] [n0,bF,n0,.nils,n0,bF,n0,bF,n0,.nils,n0,n0]
 [(0,n6 4),(6,a),(7,fr78 12)] fun a=>qA 80 [n0,bF,n0,.nils,n0,bF,n0,bF,n0,.nils,n0,n0] b fun b c=>qT 12 b a c fun a=>qG 0 (fr78 15) a fun c=>qC .neq c (n6 2) (qK 12
 b a fun b=>(1=0→[(0,Operand.tmp 133)]=[])∧z0m true ⟨80,12,128⟩ [n0,bF,n0,.nils,n0,bF,n0,bF,n0,.nils,n0,n0] 1 [(0,b)] a (later (fun a b=>q1 (q7 true ⟨80,12,128⟩
 (fr78 9) a b fun a b=>pIdx 1 1 (qB .add (fr78 39) (n6 1) fun c=>Q .normal (frOf (kq fr78 [5,6,7,8] [(9,a),(37,fr78 37),(38,fr78 38),(39,c)])) b) (Q (.exit 1) (frOf
 [(9,a)]) b))) ())) (qI (fr78 13) (q1 (qF 1 (fr78 15) fun b=>qK 3 b a fun c=>qH 4 (fr78 11) a fun d e=>qX 1 (fr78 6) (fr78 16) fun f=>qL f a fun g=>q8 [(0,1),(1,3),(4,1),(5,1),(6,1),(7,3),(10,1),(11,1)]
 [n0,bF,n0,.nils,n0,bF,n0,bF,n0,.nils,n0,n0] [(0,n6 2),(1,c),(2,e),(6,g),(7,fr78 12)] fun i=>(1=0→[(0,Operand.tmp 147)]=[])∧z0m true ⟨80,12,128⟩ [n0,bF,n0,.nils,n0,bF,n0,bF,n0,.nils,n0,n0]
 1 [(0,i)] a (later (fun a i=>(q3 f g i∧q3 d e i∧q4 3 b c i)∧q1 (q7 true ⟨80,12,128⟩ (fr78 9) a i fun a b=>q2 (q2 (pIdx 1 1 (qB .add (fr78 39) (n6 1) fun c=>Q .normal
 (frOf (kq fr78 [5,6,7,8] [(9,a),(37,fr78 37),(38,fr78 38),(39,c)])) b) (Q (.exit 1) (frOf [(9,a)]) b))))) ()))) (q1 (qF 1 (fr78 15) fun c=>qK 3 c a fun d=>qX 1 (fr78
 6) (fr78 16) fun e=>qL e a fun f=>q8 [(0,1),(1,3),(4,1),(5,1),(6,1),(7,3),(10,1),(11,1)] [n0,bF,n0,.nils,n0,bF,n0,bF,n0,.nils,n0,n0] [(0,n6 3),(1,d),(6,f),(7,fr78
 12)] fun g=>qA 80 [n0,bF,n0,.nils,n0,bF,n0,bF,n0,.nils,n0,n0] a fun a i=>(q3 e f i∧q4 3 c d i)∧qT 12 a g i fun c=>q2 (qQ (fun d=>qG 7 (fr78 11) c fun e=>qn e fun
 e=>qE e (n6 1) fun e=>qU e true 6 c (fun a=>qH 7 (fr78 11) c fun b d=>qX 3 d n0 fun e=>qH 0 e c fun f g=>qE g (n6 1) fun i=>a [b,d,e,f,g,i] c) fun c f=>qP e (nth
 c 5) bF fun c=>d (frOf (kq fr78 [5,6,7,8,9,11] [(17,b),(18,a),(37,fr78 37),(38,fr78 38),(39,fr78 39),(169,c)])) f) fun a b=>qI (a 169) (qF 5 (a 18) fun c=>qT 1 c
 bT b fun b=>qG 7 (a 11) b fun c=>qX 3 c n0 fun c=>qG 2 c b fun c=>z2e (.int .i64) c b (later (fun c=>qF 6 (a 18) fun d=>qT 1 d c b fun b=>qK 12 (a 18) b fun c=>(1=0→[(0,Operand.tmp
 179)]=[])∧z0m true ⟨80,12,128⟩ [n0,bF,n0,.nils,n0,bF,n0,bF,n0,.nils,n0,n0] 1 [(0,c)] b (later (fun b c=>q1 (q7 true ⟨80,12,128⟩ (a 9) b c fun b c=>qB .add (a
 39) (n6 1) fun d=>Q .normal (frOf (kq a [5,6,7,8] [(9,b),(37,a 37),(38,a 38),(39,d)])) c)) ())) ())) (qG 7 (a 11) b fun c=>qn c fun c=>qE c (n6 1) fun c=>qU c true
 6 b (fun c=>qH 7 (a 11) b fun a d=>qX 3 d n0 fun e=>qH 0 e b fun f g=>qE g (n6 2) fun i=>c [a,d,e,f,g,i] b) fun b d=>qP c (nth b 5) bF fun b=>qU b true 10 d (fun
 b=>qH 7 (a 11) d fun c e=>qX 3 e n0 fun f=>qH 2 f d fun g i=>qX 4 (a 7) i fun j=>qH 0 j d fun k l=>qE l (n6 2) fun m=>b [a 7,c,e,f,g,i,j,k,l,m] d) fun c d=>qP b (nth
 c 9) bF fun b=>qI b (qG 7 (a 11) d fun b=>qX 3 b n0 fun b=>qF 2 b fun b=>z5v Q a d b) (qK 12 (a 17) d fun b=>(1=0→[(0,Operand.tmp 221)]=[])∧z0m
 true ⟨80,12,128⟩ [n0,bF,n0,.nils,n0,bF,n0,bF,n0,.nils,n0,n0] 1 [(0,b)] d (later (fun b c=>q1 (q7 true ⟨80,12,128⟩ (a 9) b c fun b c=>qB .add (a 39) (n6 1) fun d=>Q
 .normal (frOf (kq a [5,6,7,8] [(9,b),(37,a 37),(38,a 38),(39,d)])) c)) ()))))))))
theorem zbx (H:qC .lss s39 s38 (qY 8 s37 s39 h fun a=>qA 40 [n0,n0,n0,n0,n0,n0,.nils,.nils] h fun b c=>qT 8 b a c fun a=>qQ (fun c=>qG 0 b a
 fun d=>qE d (n6 5) fun d=>qU d false 3 a (fun c=>qH 0 b a fun b d=>qE d (n6 6) fun e=>c [b,d,e] a) fun a e=>qP d bT (nth a 2) fun a=>qU a false 3 e (fun a=>qH 0 b
 e fun b c=>qE c (n6 7) fun d=>a [b,c,d] e) fun d e=>qP a bT (nth d 2) fun a=>qI a (c (frOf [(5,s5),(6,s6),(7,s7),(8,s8),(9,s9),(11,b),(12,n6 4),(37,s37),(38,s38),(39,s39)])
 e) (c (frOf [(5,s5),(6,s6),(7,s7),(8,s8),(9,s9),(11,b),(12,n6 3),(37,s37),(38,s38),(39,s39)]) e)) fun a b=>qQ (fun c=>qG 0 (a 11) b fun d=>qE d (n6 2) fun d=>qU d
 false 3 b (fun c=>qH 0 (a 11) b fun a d=>qE d (n6 5) fun e=>c [a,d,e] b) fun b e=>qP d bT (nth b 2) fun b=>qI b (qG 4 (a 11) e fun b=>q8 [(0,1),(1,3),(4,1),(5,1),(6,1),(7,3),(10,1),(11,1)]
 [n0,bF,n0,.nils,n0,bF,n0,bF,n0,.nils,n0,n0] [(0,n6 1),(2,b),(7,a 12)] fun b=>(1=0→[(0,Operand.tmp 68)]=[])∧z0m true ⟨80,12,128⟩ [n0,bF,n0,.nils,n0,bF,n0,bF,n0,.nils,n0,n0]
 1 [(0,b)] e (later (fun b d=>q1 (q7 true ⟨80,12,128⟩ (a 9) b d fun b d=>c (frOf (kq a [5,6,7,8] [(9,b),(11,a 11),(12,a 12),(37,a 37),(38,a 38),(39,a 39)])) d)) ()))
 (c (frOf (kq a [5,6,7,8,9,11,12,37,38,39] [])) e)) fun a b=>qG 0 (a 11) b fun c=>qE c (n6 3) fun c=>qU c false 3 b (fun c=>qH 0 (a 11) b fun a d=>qE d (n6 6) fun
 e=>c [a,d,e] b) fun d e=>qP c bT (nth d 2) fun c=>qG 0 (a 11) e fun d=>qE d (n6 4) fun d=>qU d false 3 e (fun b=>qH 0 (a 11) e fun a c=>qE c (n6 7) fun d=>b [a,c,d]
 e) fun e f=>qP d bT (nth e 2) fun d=>qN c fun e=>qU e true 2 f (fun a=>qN d fun b=>a [d,b] f) fun d f=>qP e (nth d 1) bF fun d=>qI d (pIdx 1 1 (qB .add (a 39) (n6
 1) fun b=>Q .normal (frOf (kq a [5,6,7,8,9,37,38] [(39,b)])) f) (Q (.exit 1) (frOf [(9,a 9)]) f)) (qG 2 (a 11) f fun d=>qY 4 (a 7) d f fun d=>qA 118 [n0,bF,n0,.nils]
 f fun e f=>qT 4 e d f fun d=>qw P_ 226 z4l (kq a [5,6,7,8,9,11,12] [(13,c),(15,e),(16,n0),(37,a 37),(38,a 38),(39,a 39)]) d (fun c d e=>pIdx c
 2 (pIdx 2 2 (qG 0 (d 15) e fun c=>qE c (n6 1) fun c=>z1v Q a b d e c) (pIdx 2 1 (qB .add (d 39) (n6 1) fun a=>Q .normal (frOf (kq d [5,6,7,8,9,37,38]
 [(39,a)])) e) (Q (.exit 2) (frOf [(9,d 9)]) e))) False) fun a b=>Q .ret (frOf [(4,a 4)]) b)) (Q (.exit 0) (frOf [(9,s9)]) h)):WP P_ 226 z4x (frOf
 [(5,s5),(6,s6),(7,s7),(8,s8),(9,s9),(37,s37),(38,s38),(39,s39)]) h Q:=z0u z6c [0] [5,6,7,8,9,37,38,39] [9] [4] z08 (by kernel_rfl) (Eq.mpr
 (by kernel_rfl) H)
theorem zb2 (H:q1 (qB .lss s16 (n6 32) fun a=>qV a true 1 h (fun a=>qF 0 s5 fun b=>a [b] h) fun b c=>qV a true 1 c (fun a=>qL (nth b 0) c fun
 b=>a [b] c) fun b c=>qV a true 1 c (fun a=>a [s8] c) fun c d=>qV a true 1 d (fun a=>qX 1 (nth b 0) (nth c 0) fun b=>a [b] d) fun b c=>qV a true 1 c (fun a=>qL (nth
 b 0) c fun b=>a [b] c) fun b c=>qV a true 1 c (fun a=>qF 2 s11 fun b=>a [b] c) fun c d=>qV a true 1 d (fun a=>qL (nth c 0) d fun b=>a [b] d) fun c d=>qV a true 1
 d (fun a=>qX 1 (nth b 0) (nth c 0) fun b=>a [b] d) fun b c=>qV a true 1 c (fun a=>qL (nth b 0) c fun b=>a [b] c) fun b c=>qV a true 1 c (fun a=>a [s16] c) fun c d=>qV
 a true 1 d (fun a=>qS P_ 56 [nth b 0,nth c 0] d fun b c=>a [b] c) fun b c=>q2 (qV a true 1 c (fun a=>qN (nth b 0) fun b=>a [b] c) fun b c=>qP a (nth b 0) bF fun a=>qI
 a (qB .add s16 (n6 1) fun a=>Q .normal (frOf [(5,s5),(6,s6),(7,s7),(8,s8),(9,s9),(11,s11),(12,s12),(13,s13),(15,s15),(16,a),(37,s37),(38,s38),(39,s39)]) c) (Q (.exit
 2) (frOf [(5,s5),(6,s6),(7,s7),(8,s8),(9,s9),(11,s11),(12,s12),(13,s13),(15,s15),(16,s16),(37,s37),(38,s38),(39,s39)]) c)))):WP P_ 226 z4l (frOf
 [(5,s5),(6,s6),(7,s7),(8,s8),(9,s9),(11,s11),(12,s12),(13,s13),(15,s15),(16,s16),(37,s37),(38,s38),(39,s39)]) h Q:=z0u z6c [2,1,0] [5,6,7,8,9,11,12,13,15,16,37,38,39]
 [5,6,7,8,9,11,12,13,15,16,37,38,39] [4] z08 (by kernel_rfl) (Eq.mpr (by kernel_rfl) H)
def z6w:=mkG [2,3,21,24,29] [(4,[2,3,29,30])] [] []
noncomputable def z3i:=lpOf 4 Try.f73
theorem zbv (H:qM true 78 a0 h fun a b=>qM true 78 a1 b fun b c=>qG 0 a c fun d=>qG 0 b c fun e=>qD .bool .neq d e fun d=>qU d false 5 c (fun
 d=>qH 1 a c fun a e=>qH 1 b c fun b f=>qB .neq e f fun g=>d [a,e,b,f,g] c) fun c e=>qP d bT (nth c 4) fun c=>qU c false 7 e (fun c=>qH 2 a e fun a d=>qn d fun f=>qH
 2 b e fun b g=>qn g fun i=>qB .neq f i fun j=>c [a,d,f,b,g,i,j] e) fun d e=>qP c bT (nth d 6) fun c=>qI c (R bF e) (qG 2 a e fun c=>qn c fun c=>qw P_ 45 z3i
 [(2,a),(3,b),(29,c),(30,n0)] e (fun a _ b=>q5 a (R bT b)) fun a b=>R (a 4) b)):z01 P_ 73 [a0,a1] h R:=cI z6w z08 Try.func73 Try.ntmps73
 Try.call73 (by kernel_rfl) (by kernel_rfl) H
theorem z9k (H:qC .lss s30 s29 (q1 (qG 2 s2 h fun a=>qZ 1 a s30 h fun a=>qG 2 s3 h fun b=>qZ 1 b s30 h fun b=>qC .neq a b (Q .ret (frOf [(4,bF)])
 h) (qB .add s30 (n6 1) fun a=>Q .normal (frOf [(2,s2),(3,s3),(29,s29),(30,a)]) h))) (Q (.exit 0) (frOf []) h)):WP P_ 45 z3i (frOf [(2,s2),(3,s3),(29,s29),(30,s30)])
 h Q:=z0u z6w [0] [2,3,29,30] [] [4] z08 (by kernel_rfl) (Eq.mpr (by kernel_rfl) H)
def zdj:=mkG [2,3,43,50] [] [] [(1,[(12,[2,3,24,29])])]
theorem zd9 (H:qM true 80 a0 h fun a b=>qM true 80 a1 b fun b c=>qG 0 a c fun d=>qG 0 b c fun e=>qE d e fun d=>qU d true 5 c (fun d=>qH 4 a c fun
 a e=>qH 4 b c fun b f=>qE e f fun g=>d [a,e,b,f,g] c) fun c e=>qP d (nth c 4) bF fun c=>qU c true 5 e (fun c=>qH 5 a e fun a d=>qH 5 b e fun b f=>qD .bool .eql d
 f fun g=>c [a,d,b,f,g] e) fun d e=>qP c (nth d 4) bF fun c=>qU c true 5 e (fun c=>qH 6 a e fun a d=>qH 6 b e fun b f=>qE d f fun g=>c [a,d,b,f,g] e) fun d e=>z5z
 [a,b,c,nth d 4] (later (fun a=>qP (nth a 2) (nth a 3) bF fun b=>qU b true 5 e (fun b=>qH 10 (nth a 0) e fun c d=>qH 10 (nth a 1) e fun a f=>qE d f fun g=>b [c,d,a,f,g]
 e) fun c d=>qP b (nth c 4) bF fun b=>qU b true 5 d (fun b=>qF 1 (nth a 0) fun c=>qK 3 c d fun e=>qF 1 (nth a 1) fun a=>qK 3 a d fun f=>qS P_ 73 [e,f] d fun d g=>b
 [c,e,a,f,d] g) fun c d=>qP b (nth c 4) bF fun b=>qU b true 5 d (fun b=>qF 7 (nth a 0) fun c=>qK 3 c d fun e=>qF 7 (nth a 1) fun a=>qK 3 a d fun f=>qS P_ 73 [e,f]
 d fun d g=>b [c,e,a,f,d] g) fun a c=>qP b (nth a 4) bF fun a=>R a c) ())):z01 P_ 57 [a0,a1] h R:=cI zdj z08 Try.func57 Try.ntmps57 Try.call57
 (by kernel_rfl) (by kernel_rfl) H
def z8a:=mkG [3,8,42] [(2,[3,7,8,9])] [] [(4,[(10,[3,6,7,8,9,18,22,31,36])])]
noncomputable def z4k:=lpOf 2 Try.f38
theorem zd8 (H:qM true 80 a1 h fun a b=>qn a0 fun c=>qw P_ 46 z4k [(3,a),(7,a0),(8,c),(9,n0)] b (fun a _ b=>q5 a (R bF b))
 fun a b=>R (a 4) b):z01 P_ 38 [a0,a1] h R:=cI z8a z08 Try.func38 Try.ntmps38 Try.call38 (by kernel_rfl) (by kernel_rfl) H
theorem zb1 (H:qC .lss s9 s8 (qY 12 s7 s9 h fun a=>qA 80 [n0,bF,n0,.nils,n0,bF,n0,bF,n0,.nils,n0,n0] h fun b c=>qT 12 b a c fun a=>qG 11 b a
 fun c=>qG 11 s3 a fun d=>qB .geq c d fun c=>qU c true 4 a (fun c=>qH 0 b a fun b d=>qE d (n6 5) fun e=>c [b,d,e,e] a) fun a d=>qU (nth a 3) false 4 d (fun a=>qH 0
 b d fun b c=>qE c (n6 4) fun e=>a [b,c,e,e] d) fun d e=>qU (nth d 3) true 3 e (fun a=>qH 0 s3 e fun b c=>qB .neq c (n6 1) fun d=>a [b,c,d] e) fun e f=>qU (nth a 3)
 false 2 f (fun a=>qP (nth d 3) (nth e 2) bF fun b=>a [b,b] f) fun d e=>qU (nth d 1) true 5 e (fun a=>qH 10 b e fun b c=>qH 10 s3 e fun d f=>qE c f fun g=>a [b,c,d,f,g]
 e) fun e f=>z5z [s3,b,s7,s8,s9,c,nth a 3,nth d 1,nth e 4] (later (fun a=>qU (nth a 6) false 1 f (fun b=>qP (nth a 7) (nth a 8) bF fun a=>b [a] f) fun b c=>qU (nth
 a 5) true 2 c (fun d=>qP (nth a 6) bT (nth b 0) fun a=>d [a,a] c) fun b c=>qU (nth b 1) false 3 c (fun b=>qK 12 (nth a 1) c fun d=>qK 12 (nth a 0) c fun a=>qS P_
 57 [d,a] c fun c e=>b [d,a,c] e) fun c d=>qU (nth a 5) true 1 d (fun a=>qP (nth b 1) bT (nth c 2) fun b=>a [b] d) fun b c=>qP (nth a 5) (nth b 0) bF fun b=>qI b (Q
 .ret (frOf [(4,bT)]) c) (qB .add (nth a 4) (n6 1) fun b=>Q .normal (frOf [(3,nth a 0),(7,nth a 2),(8,nth a 3),(9,b)]) c)) ())) (Q (.exit 0) (frOf []) h)):WP P_ 46
 z4k (frOf [(3,s3),(7,s7),(8,s8),(9,s9)]) h Q:=z0u z8a [0] [3,7,8,9] [] [4] z08 (by kernel_rfl) (Eq.mpr (by kernel_rfl)
 H)
def z3m:=mkG [3,14,18,21,26,28,29,31,33,36,51,59,60,67] [(7,[1,2,3,7,36,37]),(13,[3,50,51,52]),(16,[3,10,50,51,52,59,60,61])] [] []
noncomputable def z4w:=lpOf 7 Try.f27
noncomputable def z4i:=lpOf 13 Try.f27
noncomputable def z4j:=lpOf 16 Try.f27
theorem zeb (H:qM true 28 a0 h fun a b=>qK 5 a b fun c=>qS P_ 34 [c] b fun b c=>qN b fun b=>qU b false 6 c (fun b=>qn a2 fun d=>qH 4 a c fun a e=>qn
 e fun f=>qB .neq d f fun g=>b [a2,d,a,e,f,g] c) fun c d=>qP b bT (nth c 5) fun b=>qI b (R bF d) (q1 (qH 3 a d fun b c=>qn c fun e=>qK 5 a d fun f=>qS P_ 36 [f] d
 fun d f=>q3 b c f∧qS P_ 35 [e,d] f fun b c=>q2 (qn b fun d=>qn a1 fun e=>qC .neq d e (R bF c) (qn b fun d=>qw P_ 71 z4w [(1,a1),(2,a2),(3,a),(7,b),(36,d),(37,n0)]
 c (fun a b c=>q5 a (qn (b 2) fun a=>qw P_ 71 z4i [(3,b 3),(50,b 2),(51,a),(52,n0)] c (fun a _ b=>pIdx a 2 (pIdx 2 2 (R bT b) False) False) fun
 a b=>R (a 6) b)) fun a b=>R (a 6) b))))):z01 P_ 27 [a0,a1,a2] h R:=cI z3m z08 Try.func27 Try.ntmps27 Try.call27 (by kernel_rfl) (by kernel_rfl)
 H
theorem zbw (H:qC .lss s37 s36 (q1 (qZ 1 s7 s37 h fun a=>qZ 1 s1 s37 h fun b=>qC .neq a b (Q .ret (frOf [(6,bF)]) h) (qB .add s37 (n6 1) fun
 a=>Q .normal (frOf [(1,s1),(2,s2),(3,s3),(7,s7),(36,s36),(37,a)]) h))) (Q (.exit 0) (frOf [(2,s2),(3,s3)]) h)):WP P_ 71 z4w (frOf [(1,s1),(2,s2),(3,s3),(7,s7),(36,s36),(37,s37)])
 h Q:=z0u z3m [0] [1,2,3,7,36,37] [2,3] [6] z08 (by kernel_rfl) (Eq.mpr (by kernel_rfl) H)
theorem zaz (H:qC .lss s52 s51 (qZ 1 s50 s52 h fun a=>qK 5 s3 h fun b=>qS P_ 37 [b,s52] h fun b c=>qn b fun d=>qw P_ 71 z4j
 [(3,s3),(10,a),(50,s50),(51,s51),(52,s52),(59,b),(60,d),(61,n0)] c (fun a b c=>pIdx a 4 (pIdx 4 4 (qB .add (b 52) (n6 1) fun a=>Q .normal (frOf (kq b [3,50,51] [(52,a)]))
 c) (pIdx 4 3 (qB .add (b 52) (n6 1) fun a=>Q .normal (frOf (kq b [3,50,51] [(52,a)])) c) (Q (.exit 4) (frOf []) c))) False) fun a b=>Q .ret (frOf [(6,a 6)]) b) (Q
 (.exit 2) (frOf []) h)):WP P_ 71 z4i (frOf [(3,s3),(50,s50),(51,s51),(52,s52)]) h Q:=z0u z3m [2] [3,50,51,52] [] [6] z08
 (by kernel_rfl) (Eq.mpr (by kernel_rfl) H)
theorem zb0 (H:qC .lss s61 s60 (qY 12 s59 s61 h fun a=>qA 80 [n0,bF,n0,.nils,n0,bF,n0,bF,n0,.nils,n0,n0] h fun b c=>qT 12 b a c fun a=>qK 12
 b a fun b=>qS P_ 38 [s10,b] a fun a b=>qN a fun a=>qI a (Q .ret (frOf [(6,bF)]) b) (qB .add s61 (n6 1) fun a=>Q .normal (frOf [(3,s3),(10,s10),(50,s50),(51,s51),(52,s52),(59,s59),(60,s60),(61,a)])
 b)) (Q (.exit 4) (frOf [(3,s3),(50,s50),(51,s51),(52,s52)]) h)):WP P_ 71 z4j (frOf [(3,s3),(10,s10),(50,s50),(51,s51),(52,s52),(59,s59),(60,s60),(61,s61)])
 h Q:=z0u z3m [4,3,2] [3,10,50,51,52,59,60,61] [3,50,51,52] [6] z08 (by kernel_rfl) (Eq.mpr (by kernel_rfl) H)
def z6l:=mkG [1,22,27,33,70,77] [(4,[26,27,28]),(7,[26,27,28,32,33,34])] [] [(9,[(14,[6,26,27,28,32,33,34,61])])]
noncomputable def z5h:=lpOf 4 Try.f19
noncomputable def z5i:=lpOf 7 Try.f19
theorem zfm (H:qM true 32 a0 h fun a b=>qG 7 a b fun c=>qB .lss c n0 fun c=>qU c false 3 b (fun c=>qH 7 a b fun a d=>qB .gtr d (n6 8) fun e=>c [a,d,e]
 b) fun b d=>qP c bT (nth b 2) fun b=>qU b false 8 d (fun b=>qF 0 a fun c=>qK 5 c d fun e=>qH 5 a d fun f g=>qH 6 a d fun a i=>qS P_ 27 [e,g,i] d fun d j=>qN d fun
 k=>b [c,e,f,g,a,i,d,k] j) fun c d=>qP b bT (nth c 7) fun b=>qI b (R bF d) (qG 6 a d fun a=>qn a fun b=>qw P_ 82 z5h [(26,a),(27,b),(28,n0)] d (fun
 a _ b=>q5 a (R bT b)) fun a b=>R (a 2) b)):z01 P_ 19 [a0] h R:=cI z6l z08 Try.func19 Try.ntmps19 Try.call19 (by kernel_rfl) (by kernel_rfl)
 H
theorem zci (H:qC .lss s28 s27 (qZ 1 s26 s28 h fun a=>qn a fun b=>qw P_ 82 z5i [(26,s26),(27,s27),(28,s28),(32,a),(33,b),(34,n0)]
 h (fun a b c=>pIdx a 2 (pIdx 2 2 (qB .add (b 28) (n6 1) fun a=>Q .normal (frOf (kq b [26,27] [(28,a)])) c) (pIdx 2 1 (qB .add (b 28) (n6 1) fun a=>Q .normal (frOf
 (kq b [26,27] [(28,a)])) c) (Q (.exit 2) (frOf []) c))) False) fun a b=>Q .ret (frOf [(2,a 2)]) b) (Q (.exit 0) (frOf []) h)):WP P_ 82 z5h (frOf
 [(26,s26),(27,s27),(28,s28)]) h Q:=z0u z6l [0] [26,27,28] [] [2] z08 (by kernel_rfl) (Eq.mpr (by kernel_rfl) H)
theorem zcj (H:qC .lss s34 s33 (qY 12 s32 s34 h fun a=>qA 80 [n0,bF,n0,.nils,n0,bF,n0,bF,n0,.nils,n0,n0] h fun b c=>qT 12 b a c fun a=>qG 0 b
 a fun c=>qB .lss c (n6 1) fun c=>qU c false 3 a (fun c=>qH 0 b a fun b d=>qB .gtr d (n6 5) fun e=>c [b,d,e] a) fun a d=>qP c bT (nth a 2) fun a=>qU a false 4 d (fun
 a=>qH 11 b d fun b c=>qB .neq c (n6 3) fun e=>a [b,c,e,e] d) fun c d=>qU (nth c 3) true 3 d (fun a=>qH 11 b d fun b c=>qB .neq c (n6 4) fun e=>a [b,c,e] d) fun d
 e=>qU a false 1 e (fun a=>qP (nth c 3) (nth d 2) bF fun b=>a [b] e) fun c d=>qP a bT (nth c 0) fun a=>qU a false 3 d (fun a=>qH 4 b d fun b c=>qB .lss c n0 fun e=>a
 [b,c,e] d) fun c d=>qP a bT (nth c 2) fun a=>z5z [b,s26,s27,s28,s32,s33,s34,a] (later (fun a=>qU (nth a 7) false 3 d (fun b=>qH 10 (nth a 0) d fun a c=>qB .lss
 c n0 fun e=>b [a,c,e] d) fun b c=>qP (nth a 7) bT (nth b 2) fun b=>qU b false 5 c (fun b=>qF 1 (nth a 0) fun a=>qH 2 a c fun d e=>qn e fun f=>qB .gtr f (n6 3) fun
 g=>b [a,d,e,f,g] c) fun c d=>qP b bT (nth c 4) fun b=>qU b false 5 d (fun b=>qF 7 (nth a 0) fun a=>qH 2 a d fun c e=>qn e fun f=>qB .gtr f (n6 3) fun g=>b [a,c,e,f,g]
 d) fun c d=>qP b bT (nth c 4) fun b=>qI b (Q .ret (frOf [(2,bF)]) d) (qB .add (nth a 6) (n6 1) fun b=>Q .normal (frOf [(26,nth a 1),(27,nth a 2),(28,nth a 3),(32,nth
 a 4),(33,nth a 5),(34,b)]) d)) ())) (Q (.exit 2) (frOf [(26,s26),(27,s27),(28,s28)]) h)):WP P_ 82 z5i (frOf [(26,s26),(27,s27),(28,s28),(32,s32),(33,s33),(34,s34)])
 h Q:=z0u z6l [2,1,0] [26,27,28,32,33,34] [26,27,28] [2] z08 (by kernel_rfl) (Eq.mpr (by kernel_rfl) H)
def zga:=mkG [2,6,10,15] [] [] []
theorem zfh (H:qM true 32 a0 h fun a b=>qK 8 a b fun c=>qS P_ 18 [c] b fun b c=>qN b fun b=>qU b true 3 c (fun a=>qn a1 fun b=>qB .leq b (n6 100)
 fun d=>a [a1,b,d] c) fun c d=>qP b (nth c 2) bF fun b=>qU b true 2 d (fun b=>qK 8 a d fun a=>qS P_ 19 [a] d fun c d=>b [a,c] d) fun a c=>qP b (nth a 1) bF fun a=>R
 a c):z01 P_ 6 [a0,a1] h R:=cI zga z08 Try.func6 Try.ntmps6 Try.call6 (by kernel_rfl) (by kernel_rfl) H
def z8p:=mkG [7,9,12] [(4,[0,1,12,13])] [] []
noncomputable def z7c:=lpOf 4 Try.f11
theorem zdx (H:qn a0 fun a=>qn a1 fun b=>qC .neq a b (R bF h) (qn a0 fun a=>qw P_ 26 z7c [(0,a0),(1,a1),(12,a),(13,n0)] h (fun
 a _ b=>q5 a (R bT b)) fun a b=>R (a 4) b)):z01 P_ 11 [a0,a1] h R:=cI z8p z08 Try.func11 Try.ntmps11 Try.call11 (by kernel_rfl) (by kernel_rfl)
 H
theorem zbj (H:qC .lss s13 s12 (q1 (qZ 1 s0 s13 h fun a=>qZ 1 s1 s13 h fun b=>qC .neq a b (Q .ret (frOf [(4,bF)]) h) (qB .add s13 (n6 1) fun
 a=>Q .normal (frOf [(0,s0),(1,s1),(12,s12),(13,a)]) h))) (Q (.exit 0) (frOf []) h)):WP P_ 26 z7c (frOf [(0,s0),(1,s1),(12,s12),(13,s13)]) h Q:=z0u
 z8p [0] [0,1,12,13] [] [4] z08 (by kernel_rfl) (Eq.mpr (by kernel_rfl) H)
def z8w:=mkG [7] [] [] []
theorem z8m (H:qD .slice .eql a0 .nils fun a=>qI a (R .nils h) ((0=0→([]:List (Nat×Operand))=[])∧z0m false ⟨56,1,8⟩ [nU 0] 0 [] h
 (later (fun a b=>q1 (q7 true ⟨56,1,8⟩ a a0 b fun a b=>R a b)) ()))):z01 P_ 24 [a0] h R:=cI z8w z08 Try.func24 Try.ntmps24 Try.call24
 (by kernel_rfl) (by kernel_rfl) H
def z7y:=mkG [7,9,12] [(4,[0,1,12,13])] [] []
noncomputable def z6t:=lpOf 4 Try.f13
theorem zd3 (H:qn a0 fun a=>qn a1 fun b=>qC .neq a b (R bF h) (qn a0 fun a=>qw P_ 26 z6t [(0,a0),(1,a1),(12,a),(13,n0)] h (fun
 a _ b=>q5 a (R bT b)) fun a b=>R (a 4) b)):z01 P_ 13 [a0,a1] h R:=cI z7y z08 Try.func13 Try.ntmps13 Try.call13 (by kernel_rfl) (by kernel_rfl)
 H
theorem zab (H:qC .lss s13 s12 (q1 (qY 3 s0 s13 h fun a=>qY 3 s1 s13 h fun b=>qD (.flat [.int,.bool,.int]) .neq a b fun a=>qI a (Q .ret (frOf
 [(4,bF)]) h) (qB .add s13 (n6 1) fun a=>Q .normal (frOf [(0,s0),(1,s1),(12,s12),(13,a)]) h))) (Q (.exit 0) (frOf []) h)):WP P_ 26 z6t (frOf [(0,s0),(1,s1),(12,s12),(13,s13)])
 h Q:=z0u z7y [0] [0,1,12,13] [] [4] z08 (by kernel_rfl) (Eq.mpr (by kernel_rfl) H)
def z1i:=mkG [4,24,27,31,47,55,65,66,78,93,94,97,100,103,106,108,118,123,132,136,142,144,146,150,152,157,159,160,164,166,167,171,173,174,178,180,181]
 [(6,[1,2,3,4,65,66,67]),(9,[1,2,3,4,65,66,67,77,78,79]),(20,[3,13,14,15,16,17,18,19,107,108,109]),(28,[3,14,15,16,17,18,19,22]),(32,[3,14,15,16,17,18,23])] [] [(3,[(14,[1,2,3,4,49])]),(35,[(12,[15,16,17,18,162,167])])]
noncomputable def z2n:=lpOf 6 Try.f3
noncomputable def z2o:=lpOf 9 Try.f3
noncomputable def z2g:=lpOf 20 Try.f3
noncomputable def z2h:=lpOf 28 Try.f3
noncomputable def z2i:=lpOf 32 Try.f3
theorem z9i (H:qM true 32 a0 h fun a b=>qS P_ 5 [] b fun b c=>qN b fun b=>qI b (R bF c) (qn a3 fun b=>qB .gtr b (n6 200) fun b=>qU b false
 3 c (fun b=>qK 8 a c fun a=>qS P_ 6 [a,.nils] c fun c d=>qN c fun e=>b [a,c,e] d) fun c d=>qP b bT (nth c 2) fun b=>qU b false 2 d (fun a=>qB .lss a1 n0 fun b=>a
 [a1,b] d) fun c d=>qP b bT (nth c 1) fun b=>qU b false 2 d (fun a=>qB .lss a2 n0 fun b=>a [a2,b] d) fun c d=>qP b bT (nth c 1) fun b=>qU b false 6 d (fun b=>qF 0
 a fun a=>qH 2 a d fun c e=>qn e fun f=>qB .geq a1 f fun g=>b [a1,a,c,e,f,g] d) fun c d=>qP b bT (nth c 5) fun b=>z5z [a1,a2,a3,a,b] (later (fun a=>qU (nth a 4)
 false 6 d (fun b=>qF 0 (nth a 3) fun c=>qH 2 c d fun e f=>qn f fun g=>qB .geq (nth a 1) g fun i=>b [nth a 1,c,e,f,g,i] d) fun b c=>qP (nth a 4) bT (nth b 5) fun b=>qU
 b false 3 c (fun b=>qE (nth a 0) (nth a 1) fun d=>b [nth a 0,nth a 1,d] c) fun c d=>qP b bT (nth c 2) fun b=>qI b (R bT d) ((2=0→[(0,Operand.tmp 63),(1,Operand.tmp
 64)]=[])∧z0m true ⟨3,1,8⟩ [n0] 2 [(0,nth a 0),(1,nth a 1)] d (later (fun b c=>qn b fun d=>qw P_ 183 z2n [(1,nth a 0),(2,nth a 1),(3,nth
 a 2),(4,nth a 3),(65,b),(66,d),(67,n0)] c (fun a b c=>q5 a (qS P_ 7 [n0] c fun a c=>qS P_ 7 [n0] c fun c d=>q1 (qK 8 (b 4) d fun e=>qK 8 (b 4) d fun f=>qS P_ 8 [e,b
 1,.nils] d fun d e=>q4 8 (b 4) f e∧qS P_ 8 [f,b 2,.nils] e fun e f=>q2 (q1 (qK 8 (b 4) f fun g=>qK 8 (b 4) f fun i=>qS P_ 8 [g,b 1,.nils] f fun f g=>q4 8 (b 4) i
 g∧qS P_ 8 [i,b 2,.nils] g fun g i=>q2 (qn (b 3) fun j=>qw P_ 183 z2g [(3,b 3),(13,a),(14,c),(15,d),(16,e),(17,f),(18,g),(19,n0),(107,b 3),(108,j),(109,n0)]
 i (fun a b c=>pIdx a 4 (pIdx 4 4 (qw P_ 183 z2h (kq b [3,14,15,16,17,18,19] [(22,n0)]) c (fun a b c=>pIdx a 6 (pIdx 6 6 (qw P_ 183 z2i
 (kq b [3,14,15,16,17,18] [(23,b 19)]) c (fun a b c=>pIdx a 8 (pIdx 8 8 (qS P_ 10 [b 15] c fun a c=>qS P_ 10 [b 17] c fun c d=>qE a c fun a=>qU a true 5 d (fun a=>qS
 P_ 10 [b 16] d fun c d=>qS P_ 10 [b 18] d fun d e=>qE c d fun f=>a [b 16,c,b 18,d,f] e) fun c d=>qP a (nth c 4) bF fun a=>qU a true 5 d (fun a=>qS P_ 12 [b 15] d
 fun c d=>qS P_ 12 [b 17] d fun d e=>qS P_ 11 [c,d] e fun e f=>a [b 15,c,b 17,d,e] f) fun c d=>qP a (nth c 4) bF fun a=>qU a true 5 d (fun a=>qS P_ 12 [b 16] d fun
 c d=>qS P_ 12 [b 18] d fun d e=>qS P_ 11 [c,d] e fun e f=>a [b 16,c,b 18,d,e] f) fun c d=>z5z [b 15,b 16,b 17,b 18,a,nth c 4] (later (fun a=>qP (nth a 4) (nth
 a 5) bF fun b=>qU b true 5 d (fun b=>qS P_ 14 [nth a 0] d fun c d=>qS P_ 14 [nth a 2] d fun d e=>qS P_ 13 [c,d] e fun e f=>b [nth a 0,c,nth a 2,d,e] f) fun c d=>qP
 b (nth c 4) bF fun b=>qU b true 5 d (fun b=>qS P_ 14 [nth a 1] d fun c d=>qS P_ 14 [nth a 3] d fun d e=>qS P_ 13 [c,d] e fun e f=>b [nth a 1,c,nth a 3,d,e] f) fun
 a c=>qP b (nth a 4) bF fun a=>R a c) ())) False) False) fun a b=>R (a 8) b) False) False) fun a b=>R (a 8) b) False) False) fun a b=>R (a 8) b)))))) fun a b=>R (a
 8) b) ()))) ()))):z01 P_ 3 [a0,a1,a2,a3] h R:=cI z1i z08 Try.func3 Try.ntmps3 Try.call3 (by kernel_rfl) (by kernel_rfl) H
theorem z8d (H:qC .lss s67 s66 (qZ 1 s65 s67 h fun a=>qF 0 s4 fun b=>qG 2 b h fun b=>qX 3 b a fun a=>qG 1 a h fun a=>qn a fun b=>qw P_
 183 z2o [(1,s1),(2,s2),(3,s3),(4,s4),(65,s65),(66,s66),(67,s67),(77,a),(78,b),(79,n0)] h (fun a b c=>pIdx a 2 (pIdx 2 2 (qB .add (b 67) (n6
 1) fun a=>Q .normal (frOf (kq b [1,2,3,4,65,66] [(67,a)])) c) (pIdx 2 1 (qB .add (b 67) (n6 1) fun a=>Q .normal (frOf (kq b [1,2,3,4,65,66] [(67,a)])) c) (Q (.exit
 2) (frOf (kq b [1,2,3,4] [])) c))) False) fun a b=>Q .ret (frOf [(8,a 8)]) b) (Q (.exit 0) (frOf [(1,s1),(2,s2),(3,s3),(4,s4)]) h)):WP P_ 183 z2n
 (frOf [(1,s1),(2,s2),(3,s3),(4,s4),(65,s65),(66,s66),(67,s67)]) h Q:=z0u z1i [0] [1,2,3,4,65,66,67] [1,2,3,4] [8] z08 (by kernel_rfl)
 (Eq.mpr (by kernel_rfl) H)
theorem z8e (H:qC .lss s79 s78 (qY 8 s77 s79 h fun a=>qA 40 [n0,n0,n0,n0,n0,n0,.nils,.nils] h fun b c=>qT 8 b a c fun a=>qG 0 b a fun c=>qB
 .geq c (n6 2) fun c=>qU c true 3 a (fun c=>qH 0 b a fun b d=>qB .leq d (n6 10) fun e=>c [b,d,e] a) fun a b=>qP c (nth a 2) bF fun a=>qI a (Q .ret (frOf [(8,bT)])
 b) (qB .add s79 (n6 1) fun a=>Q .normal (frOf [(1,s1),(2,s2),(3,s3),(4,s4),(65,s65),(66,s66),(67,s67),(77,s77),(78,s78),(79,a)]) b)) (Q (.exit 2) (frOf [(1,s1),(2,s2),(3,s3),(4,s4),(65,s65),(66,s66),(67,s67)])
 h)):WP P_ 183 z2o (frOf [(1,s1),(2,s2),(3,s3),(4,s4),(65,s65),(66,s66),(67,s67),(77,s77),(78,s78),(79,s79)]) h Q:=z0u z1i
 [2,1,0] [1,2,3,4,65,66,67,77,78,79] [1,2,3,4,65,66,67] [8] z08 (by kernel_rfl) (Eq.mpr (by kernel_rfl) H)
theorem z7k (H:qC .lss s109 s108 (qZ 1 s107 s109 h fun a=>qB .rem a (n6 2) fun a=>qC .eql a n0 (qS P_ 9 [s15,s13] h fun _ a=>qB .add s19
 (n6 1) fun b=>qB .add s109 (n6 1) fun c=>Q .normal (frOf [(3,s3),(13,s13),(14,s14),(15,s15),(16,s16),(17,s17),(18,s18),(19,b),(107,s107),(108,s108),(109,c)]) a) (qS
 P_ 9 [s16,s13] h fun _ a=>qB .add s109 (n6 1) fun b=>Q .normal (frOf [(3,s3),(13,s13),(14,s14),(15,s15),(16,s16),(17,s17),(18,s18),(19,s19),(107,s107),(108,s108),(109,b)])
 a)) (Q (.exit 4) (frOf [(3,s3),(14,s14),(15,s15),(16,s16),(17,s17),(18,s18),(19,s19)]) h)):WP P_ 183 z2g (frOf [(3,s3),(13,s13),(14,s14),(15,s15),(16,s16),(17,s17),(18,s18),(19,s19),(107,s107),(108,s108),(109,s109)])
 h Q:=z0u z1i [4] [3,13,14,15,16,17,18,19,107,108,109] [3,14,15,16,17,18,19] [8] z08 (by kernel_rfl) (Eq.mpr (by kernel_rfl) H)
theorem z7l (H:qC .lss s22 s19 (qS P_ 9 [s17,s14] h fun _ a=>qB .add s22 (n6 1) fun b=>Q .normal (frOf [(3,s3),(14,s14),(15,s15),(16,s16),(17,s17),(18,s18),(19,s19),(22,b)])
 a) (Q (.exit 6) (frOf [(3,s3),(14,s14),(15,s15),(16,s16),(17,s17),(18,s18),(19,s19)]) h)):WP P_ 183 z2h (frOf [(3,s3),(14,s14),(15,s15),(16,s16),(17,s17),(18,s18),(19,s19),(22,s22)])
 h Q:=z0u z1i [6] [3,14,15,16,17,18,19,22] [3,14,15,16,17,18,19] [8] z08 (by kernel_rfl) (Eq.mpr (by kernel_rfl) H)
theorem z7m (H:qn s3 fun a=>qC .lss s23 a (qS P_ 9 [s18,s14] h fun _ a=>qB .add s23 (n6 1) fun b=>Q .normal (frOf [(3,s3),(14,s14),(15,s15),(16,s16),(17,s17),(18,s18),(23,b)])
 a) (Q (.exit 8) (frOf [(15,s15),(16,s16),(17,s17),(18,s18)]) h)):WP P_ 183 z2i (frOf [(3,s3),(14,s14),(15,s15),(16,s16),(17,s17),(18,s18),(23,s23)])
 h Q:=z0u z1i [8] [3,14,15,16,17,18,23] [15,16,17,18] [8] z08 (by kernel_rfl) (Eq.mpr (by kernel_rfl) H)
def z6e:=mkG [3,11,15,26,32,33,37,40,44,49,51,54,55,58,59,65,80,83,87,93,96] [(11,[1,3,7,8,10])] [] [(8,[(8,[1,3,7,8,9,47,61])])]
noncomputable def z2p:=lpOf 11 Try.f4
theorem z9u (H:qM true 32 a0 h fun a b=>qS P_ 5 [] b fun b c=>qN b fun b=>qI b (R bF c) (qK 8 a c fun b=>qS P_ 6 [b,a2] c fun b c=>qN b fun
 b=>qU b false 2 c (fun a=>qB .lss a1 n0 fun b=>a [a1,b] c) fun c d=>qP b bT (nth c 1) fun b=>qU b false 6 d (fun b=>qF 0 a fun a=>qH 2 a d fun c e=>qn e fun f=>qB
 .geq a1 f fun g=>b [a1,a,c,e,f,g] d) fun c d=>qP b bT (nth c 5) fun b=>qI b (R bT d) (qF 0 a fun b=>qG 1 b d fun b=>qn b fun b=>qS P_ 7 [b] d fun b c=>qK 8 a c fun
 d=>qS P_ 8 [d,a1,a2] c fun c d=>qS P_ 9 [.nilp,b] d fun d e=>qB .neq d n0 fun d=>qU d false 3 e (fun a=>qS P_ 15 [.nilp] e fun b c=>qN b fun d=>a [.nilp,b,d] c) fun
 e f=>qP d bT (nth e 2) fun d=>qU d false 14 f (fun a=>qS P_ 10 [.nilp] f fun b c=>qS P_ 16 [.nilp] c fun c d=>qB .add b c fun e=>qS P_ 12 [.nilp] d fun d f=>qn d
 fun g=>qB .add e g fun i=>qS P_ 14 [.nilp] f fun f j=>qn f fun k=>qB .add i k fun l=>qB .neq l n0 fun m=>a [.nilp,b,.nilp,c,e,.nilp,d,g,i,.nilp,f,k,l,m] j) fun e
 f=>z5z [a1,a,b,c,.nilp,d,nth e 13] (later (fun a=>qP (nth a 5) bT (nth a 6) fun b=>qU b false 3 f (fun b=>qS P_ 17 [nth a 4] f fun c d=>qB .neq c (n6 (-1)) fun
 e=>b [nth a 4,c,e] d) fun c d=>qP b bT (nth c 2) fun b=>qI b (R bF d) (qw P_ 99 z2p [(1,nth a 0),(3,nth a 1),(7,nth a 2),(8,nth a 3),(10,n0)]
 d (fun a _ b=>q5 a (R bF b)) fun a b=>R (a 6) b)) ())))):z01 P_ 4 [a0,a1,a2] h R:=cI z6e z08 Try.func4 Try.ntmps4 Try.call4 (by kernel_rfl)
 (by kernel_rfl) H
theorem z8f (H:qF 0 s3 fun a=>qG 2 a h fun a=>qX 3 a s1 fun a=>qG 2 a h fun a=>qC .leq s10 a (qS P_ 15 [s8] h fun a b=>qI a (qS P_ 9 [s8,s7]
 b fun a b=>qE a n0 fun a=>qU a true 4 b (fun a=>qS P_ 16 [s8] b fun b c=>qE b s10 fun d=>a [s8,b,s10,d] c) fun b c=>qP a (nth b 3) bF fun a=>Q .ret (frOf [(6,a)])
 c) (qS P_ 9 [s8,s7] b fun a b=>qC .neq a n0 (qS P_ 16 [s8] b fun a b=>qE a s10 fun a=>Q .ret (frOf [(6,a)]) b) (qB .add s10 (n6 1) fun a=>Q .normal (frOf [(1,s1),(3,s3),(7,s7),(8,s8),(10,a)])
 b))) (Q (.exit 0) (frOf []) h)):WP P_ 99 z2p (frOf [(1,s1),(3,s3),(7,s7),(8,s8),(10,s10)]) h Q:=z0u z6e [0] [1,3,7,8,10]
 [] [6] z08 (by kernel_rfl) (Eq.mpr (by kernel_rfl) H)
end
end Go.Proofs.Ytjlogcfggfmacaa
end

section
set_option maxRecDepth 8000
namespace Go.Proofs.Ytjlogcfggfmacaa
open Go.Abs
abbrev It:=z09
def sgN (n:Nat):Int:=IntKind.i64.wrap n
def z1r (op:Int):Int:=if 1≤op∧op≤3 then 0 else if 4≤op∧op≤7 then 1 else if 8≤op∧op≤10 then 2 else -1
def z3k (x:It) (s:Int):Bool:=
 if x.Op=1 then decide (x.Bin=0)
 else if x.Op=2 then decide (x.Bin=0)&&decide ((x.N:Int)<max s 0)
 else if x.Op=3 then decide (x.Bin=0)&&decide (x.N<16)
 else if 4≤x.Op∧x.Op≤7 then decide (x.Bin=0)&&decide (x.N=0)
 else if x.Op=8 then decide (x.N=0)&&decide (0≤x.Bin∧x.Bin≤8)
 else if x.Op=9 then decide (x.N=0)&&decide (0≤x.Bin∧x.Bin≤8∧x.Bin≠4)
 else if x.Op=10 then decide (x.N=0)&&decide (x.Bin=5∨x.Bin=6)
 else false
theorem z92 {x:It} {s:Int} (h:z3k x s=true):0≤z1r x.Op∧z1r x.Op≤2:=by
 unfold z3k at h
 unfold z1r
 by_cases h1:1≤x.Op∧x.Op≤3
 ·rw [if_pos h1];omega
 ·rw [if_neg h1]
  by_cases h2:4≤x.Op∧x.Op≤7
  ·rw [if_pos h2];omega
  ·rw [if_neg h2]
   by_cases h3:8≤x.Op∧x.Op≤10
   ·rw [if_pos h3];omega
   ·rw [if_neg (by omega),if_neg (by omega),if_neg (by omega),if_neg h2,if_neg (by omega),if_neg (by omega),if_neg (by omega)] at h
    cases h
def z3p (x:It) (s:Int):Int:=if z3k x s then z1r x.Op else -1
def high:List It→Int
 | []=>0
 | x::l=>1-z1r x.Op+high l
theorem zti (l m:List It):high (l++m)=high l+high m:=by
 induction l with
 | nil=>simp [high]
 | cons x l ih=>simp only [List.cons_append,high,ih];omega
theorem zhf (l:List It) (x:It):high (l++[x])=high l+(1-z1r x.Op):=by rw [zti];simp [high]
def okL (s:Int) (l:List It):Prop:=∀ k,k<l.length→∀ x,l[k]?=some x→z3k x s=true∧z1r x.Op≤high (l.take k)
def zmr (l:List It) (s:Int):Prop:=okL s l∧high l=1∧l.length≤64
theorem zfy {l:List It} {k:Nat} {x:It} (hx:l[k]?=some x):high (l.take (k+1))=high (l.take k)+(1-z1r x.Op):=by
 rw [List.take_add_one,hx];exact zhf _ _
theorem okL_high {s:Int} {l:List It} (h:okL s l):∀ k,k≤l.length→0≤high (l.take k)∧(0<k→1≤high (l.take k)):=by
 intro k
 induction k with
 | zero=>intro _;simp [high]
 | succ k ih=>
  intro hk
  have hx:l[k]?=some l[k]:=List.getElem?_eq_getElem (by omega)
  obtain ⟨h1,h2⟩:=h k (by omega) _ hx
  rw [zfy hx]
  omega
def zpu (s:Int):List It→Int→Option Int
 | [],w=>some w
 | x::l,w=>if z3p x s<0∨w=0 then none else zpu s l (w-1+z3p x s)
theorem zpc {s:Int} {l:List It} {x:It}:okL s (l++[x])↔okL s l∧z3k x s=true∧z1r x.Op≤high l:=by
 constructor
 ·intro h
  refine ⟨fun k hk y hy=>?_,?_⟩
  ·have:=h k (by simp;omega) y (by rw [List.getElem?_append_left hk];exact hy)
   rwa [List.take_append_of_le_length (by omega)] at this
  ·have:=h l.length (by simp) x (by simp)
   rwa [List.take_left'] at this
   rfl
 ·rintro ⟨h,h1,h2⟩ k hk y hy
  by_cases hkl:k<l.length
  ·rw [List.getElem?_append_left hkl] at hy
   rw [List.take_append_of_le_length (by omega)]
   exact h k hkl y hy
  ·have hke:k=l.length:=by simp at hk;omega
   subst hke
   simp at hy
   subst hy
   rw [List.take_left' rfl]
   exact ⟨h1,h2⟩
theorem want_good (s:Int):∀ (n:Nat) (l:List It),l.length=n→∀ (w:Int),0≤w→(zpu s l.reverse w=some 0↔okL s l∧high l=w):=by
 intro n
 induction n with
 | zero=>
  intro l hl w hw
  have:l=[]:=List.length_eq_zero_iff.1 hl
  subst this
  simp [zpu,high,okL]
  omega
 | succ n ih=>
  intro l hl w hw
  rcases List.eq_nil_or_concat l with rfl | ⟨m,x,rfl⟩
  ·simp at hl
  ·rw [List.concat_eq_append] at *
   simp at hl
   rw [List.reverse_append,List.reverse_singleton,List.singleton_append]
   simp only [zpu]
   rw [zpc,zhf]
   by_cases hf:z3k x s=true
   ·have ht:z3p x s=z1r x.Op:=by unfold z3p;rw [if_pos hf]
    obtain ⟨h1,h2⟩:=z92 hf
    rw [ht]
    by_cases hw0:w=0
    ·rw [if_pos (Or.inr hw0)]
     constructor
     ·intro h;cases h
     ·rintro ⟨⟨h3,h4,h5⟩,h6⟩;omega
    ·rw [if_neg (by omega),ih m hl _ (by omega)]
     constructor
     ·rintro ⟨h3,h4⟩;exact ⟨⟨h3,hf,by omega⟩,by omega⟩
     ·rintro ⟨⟨h3,h4,h5⟩,h6⟩;exact ⟨h3,by omega⟩
   ·have ht:z3p x s=-1:=by unfold z3p;rw [if_neg hf]
    rw [ht,if_pos (Or.inl (by omega))]
    constructor
    ·intro h;cases h
    ·rintro ⟨⟨h3,h4,h5⟩,h6⟩;exact absurd h4 hf
end Go.Proofs.Ytjlogcfggfmacaa
end

section
set_option maxRecDepth 8000
set_option maxHeartbeats 1000000
namespace Go.Proofs.Ytjlogcfggfmacaa
open Go.Abs
theorem beqI (a b:Int):(a == b)=decide (a=b):=rfl
theorem bneI (a b:Int):(a != b)=!decide (a=b):=rfl
theorem zpd (op:Int):op=1∨op=2∨op=3∨op=4∨op=5∨op=6∨op=7∨op=8∨op=9∨op=10∨(op<1∨10<op):=by omega
theorem z97 (x:It) (h:z00):z01 Try.prog 75 [.agg x.cells] h (fun v h2=>v=.int .i64 (z1r x.Op)∧h2=h):=by
 obtain ⟨op,bin,n⟩:=x
 apply zon
 unfold z09.cells
 rcases zpd op with rfl | rfl | rfl | rfl | rfl | rfl | rfl | rfl | rfl | rfl | ho
 all_goals (repeat (first | simp -dsimp -implicitDefEqProofs (disch:=omega) only [↓rP,rA,↓reduceIte,reduceEqDiff,reduceAdd,reduceLeDiff] | refine Cut.go ?_))
 all_goals simp [z1r]
 omega
theorem maxA_two (a b:Int):maxA [.int .i64 a,.int .i64 b]=some (.int .i64 (max a b)):=by
 simp only [maxA]
 by_cases h:a<b
 ·rw [if_pos h,Int.max_eq_right (by omega)]
 ·rw [if_neg h,Int.max_eq_left (by omega)]
theorem zmo (x:It) (s:Int) (hx:x.ok) (hs:okI s) (h:z00):z01 Try.prog 74 [.agg x.cells,.int .i64 s] h (fun v h2=>v=.bool (z3k x s)∧h2=h):=by
 obtain ⟨op,bin,n⟩:=x
 obtain ⟨-,-,hn⟩:=hx
 unfold okN at hn
 unfold okI at hs
 simp only at hn
 apply zqi
 have cn:∀ h,z01 Try.prog 75 [.agg [.int .i64 op,.int .i64 bin,.int .u64 n]] h (fun v h2=>v=.int .i64 (z1r op)∧h2=h):=fun h=>z97 ⟨op,bin,n⟩ h
 have hm:IntKind.u64.wrap (max s 0)=max s 0:=wrapN (by omega) (by omega)
 unfold z09.cells
 have go:∀ o:Int,o=op→(1≤o∧o≤3)∨(8≤o∧o≤10)∨((4≤o∧o≤7)∨o<1∨10<o):=by omega
 rcases zpd op with rfl | rfl | rfl | rfl | rfl | rfl | rfl | rfl | rfl | rfl | ho
 ·repeat' (first | (simp -dsimp -implicitDefEqProofs (disch:=omega) only [↓rP,rA,↓reduceIte,reduceEqDiff,reduceAdd,reduceLeDiff]) | refine Cut.go ?_ | refine z0t (fun _=>?_) (fun _=>?_) | refine z16 (fun _=>?_) (fun _=>?_) | refine z0c (fun _=>?_) (fun _=>?_) | refine z1d (fun _=>?_) (fun _=>?_) | refine Split.intro (fun _=>?_) (fun _=>?_))
  all_goals (simp [z3k,beqI,bneI];try omega)
 ·(repeat (first | simp -dsimp -implicitDefEqProofs (disch:=omega) only [↓rP,rA,↓reduceIte,reduceEqDiff,reduceAdd,reduceLeDiff] | refine Cut.go ?_))
  refine z0t (fun hb=>?_) (fun hb=>?_)
  ·(repeat (first | simp -dsimp -implicitDefEqProofs (disch:=omega) only [↓rP,rA,↓reduceIte,reduceEqDiff,reduceAdd,reduceLeDiff,maxA_two,hm] | refine Cut.go ?_))
   simp [z3k,hb]
  ·(repeat (first | simp -dsimp -implicitDefEqProofs (disch:=omega) only [↓rP,rA,↓reduceIte,reduceEqDiff,reduceAdd,reduceLeDiff] | refine Cut.go ?_))
   simp [z3k,hb]
 ·repeat' (first | (simp -dsimp -implicitDefEqProofs (disch:=omega) only [↓rP,rA,↓reduceIte,reduceEqDiff,reduceAdd,reduceLeDiff]) | refine Cut.go ?_ | refine z0t (fun _=>?_) (fun _=>?_) | refine z16 (fun _=>?_) (fun _=>?_) | refine z0c (fun _=>?_) (fun _=>?_) | refine z1d (fun _=>?_) (fun _=>?_) | refine Split.intro (fun _=>?_) (fun _=>?_))
  all_goals (simp [z3k,beqI,bneI, *];try omega)
 ·(repeat (first | simp -dsimp -implicitDefEqProofs (disch:=omega) only [↓rP,rA,↓reduceIte,reduceEqDiff,reduceAdd,reduceLeDiff] | refine Cut.go ?_))
  refine (cn _).mono ?_
  rintro _ _ ⟨rfl,rfl⟩
  have:z1r 4=1:=by decide
  rw [this]
  repeat' (first | (simp -dsimp -implicitDefEqProofs (disch:=omega) only [↓rP,rA,↓reduceIte,reduceEqDiff,reduceAdd,reduceLeDiff]) | refine Cut.go ?_ | refine z0t (fun _=>?_) (fun _=>?_) | refine z16 (fun _=>?_) (fun _=>?_) | refine z0c (fun _=>?_) (fun _=>?_) | refine z1d (fun _=>?_) (fun _=>?_) | refine Split.intro (fun _=>?_) (fun _=>?_))
  all_goals (simp [z3k,beqI,bneI, *];try omega)
 ·(repeat (first | simp -dsimp -implicitDefEqProofs (disch:=omega) only [↓rP,rA,↓reduceIte,reduceEqDiff,reduceAdd,reduceLeDiff] | refine Cut.go ?_))
  refine (cn _).mono ?_
  rintro _ _ ⟨rfl,rfl⟩
  have:z1r 5=1:=by decide
  rw [this]
  repeat' (first | (simp -dsimp -implicitDefEqProofs (disch:=omega) only [↓rP,rA,↓reduceIte,reduceEqDiff,reduceAdd,reduceLeDiff]) | refine Cut.go ?_ | refine z0t (fun _=>?_) (fun _=>?_) | refine z16 (fun _=>?_) (fun _=>?_) | refine z0c (fun _=>?_) (fun _=>?_) | refine z1d (fun _=>?_) (fun _=>?_) | refine Split.intro (fun _=>?_) (fun _=>?_))
  all_goals (simp [z3k,beqI,bneI, *];try omega)
 ·(repeat (first | simp -dsimp -implicitDefEqProofs (disch:=omega) only [↓rP,rA,↓reduceIte,reduceEqDiff,reduceAdd,reduceLeDiff] | refine Cut.go ?_))
  refine (cn _).mono ?_
  rintro _ _ ⟨rfl,rfl⟩
  have:z1r 6=1:=by decide
  rw [this]
  repeat' (first | (simp -dsimp -implicitDefEqProofs (disch:=omega) only [↓rP,rA,↓reduceIte,reduceEqDiff,reduceAdd,reduceLeDiff]) | refine Cut.go ?_ | refine z0t (fun _=>?_) (fun _=>?_) | refine z16 (fun _=>?_) (fun _=>?_) | refine z0c (fun _=>?_) (fun _=>?_) | refine z1d (fun _=>?_) (fun _=>?_) | refine Split.intro (fun _=>?_) (fun _=>?_))
  all_goals (simp [z3k,beqI,bneI, *];try omega)
 ·(repeat (first | simp -dsimp -implicitDefEqProofs (disch:=omega) only [↓rP,rA,↓reduceIte,reduceEqDiff,reduceAdd,reduceLeDiff] | refine Cut.go ?_))
  refine (cn _).mono ?_
  rintro _ _ ⟨rfl,rfl⟩
  have:z1r 7=1:=by decide
  rw [this]
  repeat' (first | (simp -dsimp -implicitDefEqProofs (disch:=omega) only [↓rP,rA,↓reduceIte,reduceEqDiff,reduceAdd,reduceLeDiff]) | refine Cut.go ?_ | refine z0t (fun _=>?_) (fun _=>?_) | refine z16 (fun _=>?_) (fun _=>?_) | refine z0c (fun _=>?_) (fun _=>?_) | refine z1d (fun _=>?_) (fun _=>?_) | refine Split.intro (fun _=>?_) (fun _=>?_))
  all_goals (simp [z3k,beqI,bneI, *];try omega)
 ·repeat' (first | (simp -dsimp -implicitDefEqProofs (disch:=omega) only [↓rP,rA,↓reduceIte,reduceEqDiff,reduceAdd,reduceLeDiff]) | refine Cut.go ?_ | refine z0t (fun _=>?_) (fun _=>?_) | refine z16 (fun _=>?_) (fun _=>?_) | refine z0c (fun _=>?_) (fun _=>?_) | refine z1d (fun _=>?_) (fun _=>?_) | refine Split.intro (fun _=>?_) (fun _=>?_))
  all_goals (simp [z3k,beqI,bneI, *];try omega)
 ·repeat' (first | (simp -dsimp -implicitDefEqProofs (disch:=omega) only [↓rP,rA,↓reduceIte,reduceEqDiff,reduceAdd,reduceLeDiff]) | refine Cut.go ?_ | refine z0t (fun _=>?_) (fun _=>?_) | refine z16 (fun _=>?_) (fun _=>?_) | refine z0c (fun _=>?_) (fun _=>?_) | refine z1d (fun _=>?_) (fun _=>?_) | refine Split.intro (fun _=>?_) (fun _=>?_))
  all_goals (simp [z3k,beqI,bneI, *];try omega)
 ·repeat' (first | (simp -dsimp -implicitDefEqProofs (disch:=omega) only [↓rP,rA,↓reduceIte,reduceEqDiff,reduceAdd,reduceLeDiff]) | refine Cut.go ?_ | refine z0t (fun _=>?_) (fun _=>?_) | refine z16 (fun _=>?_) (fun _=>?_) | refine z0c (fun _=>?_) (fun _=>?_) | refine z1d (fun _=>?_) (fun _=>?_) | refine Split.intro (fun _=>?_) (fun _=>?_))
  all_goals (simp [z3k,beqI,bneI, *];try omega)
 ·(repeat (first | simp -dsimp -implicitDefEqProofs (disch:=omega) only [↓rP,rA,↓reduceIte,reduceEqDiff,reduceAdd,reduceLeDiff] | refine Cut.go ?_))
  refine (cn _).mono ?_
  rintro _ _ ⟨rfl,rfl⟩
  have:z1r op=-1:=by unfold z1r;rw [if_neg (by omega),if_neg (by omega),if_neg (by omega)]
  rw [this]
  (repeat (first | simp -dsimp -implicitDefEqProofs (disch:=omega) only [↓rP,rA,↓reduceIte,reduceEqDiff,reduceAdd,reduceLeDiff] | refine Cut.go ?_))
  have:z3k ⟨op,bin,n⟩ s=false:=by unfold z3k;simp only;rw [if_neg (by omega),if_neg (by omega),if_neg (by omega),if_neg (by omega),if_neg (by omega),if_neg (by omega),if_neg (by omega)]
  rw [this]
theorem zn7 (x:It) (s:Int) (hx:x.ok) (hs:okI s) (h:z00):z01 Try.prog 81 [.agg x.cells,.int .i64 s] h (fun v h2=>v=.int .i64 (z3p x s)∧h2=h):=by
 obtain ⟨op,bin,n⟩:=x
 obtain ⟨-,-,hn⟩:=hx
 unfold okN at hn
 unfold okI at hs
 simp only at hn
 apply zdy
 unfold z09.cells
 rcases zpd op with rfl | rfl | rfl | rfl | rfl | rfl | rfl | rfl | rfl | rfl | ho
 ·repeat' (first | (simp -dsimp -implicitDefEqProofs (disch:=omega) only [↓rP,rA,↓reduceIte,reduceEqDiff,reduceAdd,reduceLeDiff]) | refine Cut.go ?_ | refine z0t (fun _=>?_) (fun _=>?_) | refine z16 (fun _=>?_) (fun _=>?_) | refine z0c (fun _=>?_) (fun _=>?_) | refine z1d (fun _=>?_) (fun _=>?_) | refine Split.intro (fun _=>?_) (fun _=>?_))
  all_goals (simp [z3p,z3k,z1r,beqI,bneI, *];try omega)
 ·(repeat (first | simp -dsimp -implicitDefEqProofs (disch:=omega) only [↓rP,rA,↓reduceIte,reduceEqDiff,reduceAdd,reduceLeDiff] | refine Cut.go ?_))
  refine z16 (fun hb=>?_) (fun hb=>?_)
  ·(repeat (first | simp -dsimp -implicitDefEqProofs (disch:=omega) only [↓rP,rA,↓reduceIte,reduceEqDiff,reduceAdd,reduceLeDiff] | refine Cut.go ?_))
   simp [z3p,z3k,hb]
  ·(repeat (first | simp -dsimp -implicitDefEqProofs (disch:=omega) only [↓rP,rA,↓reduceIte,reduceEqDiff,reduceAdd,reduceLeDiff] | refine Cut.go ?_))
   refine z1d (fun h0=>?_) (fun h0=>?_)
   ·(repeat (first | simp -dsimp -implicitDefEqProofs (disch:=omega) only [↓rP,rA,↓reduceIte,reduceEqDiff,reduceAdd,reduceLeDiff] | refine Cut.go ?_))
    have:¬ ((n:Int)<max s 0):=by omega
    simp [z3p,z3k,this]
   ·have hm:IntKind.u64.wrap s=s:=wrapN (by omega) (by omega)
    (repeat (first | simp -dsimp -implicitDefEqProofs (disch:=omega) only [↓rP,rA,↓reduceIte,reduceEqDiff,reduceAdd,reduceLeDiff,hm] | refine Cut.go ?_))
    refine z1d (fun h1=>?_) (fun h1=>?_)
    ·(repeat (first | simp -dsimp -implicitDefEqProofs (disch:=omega) only [↓rP,rA,↓reduceIte,reduceEqDiff,reduceAdd,reduceLeDiff] | refine Cut.go ?_))
     have:¬ ((n:Int)<max s 0):=by omega
     simp [z3p,z3k,this]
    ·(repeat (first | simp -dsimp -implicitDefEqProofs (disch:=omega) only [↓rP,rA,↓reduceIte,reduceEqDiff,reduceAdd,reduceLeDiff] | refine Cut.go ?_))
     have:((n:Int)<max s 0):=by omega
     simp [z3p,z3k,z1r,this,hb]
 ·repeat' (first | (simp -dsimp -implicitDefEqProofs (disch:=omega) only [↓rP,rA,↓reduceIte,reduceEqDiff,reduceAdd,reduceLeDiff]) | refine Cut.go ?_ | refine z0t (fun _=>?_) (fun _=>?_) | refine z16 (fun _=>?_) (fun _=>?_) | refine z0c (fun _=>?_) (fun _=>?_) | refine z1d (fun _=>?_) (fun _=>?_) | refine Split.intro (fun _=>?_) (fun _=>?_))
  all_goals (simp [z3p,z3k,z1r,beqI,bneI, *];try omega)
 ·repeat' (first | (simp -dsimp -implicitDefEqProofs (disch:=omega) only [↓rP,rA,↓reduceIte,reduceEqDiff,reduceAdd,reduceLeDiff]) | refine Cut.go ?_ | refine z0t (fun _=>?_) (fun _=>?_) | refine z16 (fun _=>?_) (fun _=>?_) | refine z0c (fun _=>?_) (fun _=>?_) | refine z1d (fun _=>?_) (fun _=>?_) | refine Split.intro (fun _=>?_) (fun _=>?_))
  all_goals (simp [z3p,z3k,z1r,beqI,bneI, *];try omega)
 ·repeat' (first | (simp -dsimp -implicitDefEqProofs (disch:=omega) only [↓rP,rA,↓reduceIte,reduceEqDiff,reduceAdd,reduceLeDiff]) | refine Cut.go ?_ | refine z0t (fun _=>?_) (fun _=>?_) | refine z16 (fun _=>?_) (fun _=>?_) | refine z0c (fun _=>?_) (fun _=>?_) | refine z1d (fun _=>?_) (fun _=>?_) | refine Split.intro (fun _=>?_) (fun _=>?_))
  all_goals (simp [z3p,z3k,z1r,beqI,bneI, *];try omega)
 ·repeat' (first | (simp -dsimp -implicitDefEqProofs (disch:=omega) only [↓rP,rA,↓reduceIte,reduceEqDiff,reduceAdd,reduceLeDiff]) | refine Cut.go ?_ | refine z0t (fun _=>?_) (fun _=>?_) | refine z16 (fun _=>?_) (fun _=>?_) | refine z0c (fun _=>?_) (fun _=>?_) | refine z1d (fun _=>?_) (fun _=>?_) | refine Split.intro (fun _=>?_) (fun _=>?_))
  all_goals (simp [z3p,z3k,z1r,beqI,bneI, *];try omega)
 ·repeat' (first | (simp -dsimp -implicitDefEqProofs (disch:=omega) only [↓rP,rA,↓reduceIte,reduceEqDiff,reduceAdd,reduceLeDiff]) | refine Cut.go ?_ | refine z0t (fun _=>?_) (fun _=>?_) | refine z16 (fun _=>?_) (fun _=>?_) | refine z0c (fun _=>?_) (fun _=>?_) | refine z1d (fun _=>?_) (fun _=>?_) | refine Split.intro (fun _=>?_) (fun _=>?_))
  all_goals (simp [z3p,z3k,z1r,beqI,bneI, *];try omega)
 ·repeat' (first | (simp -dsimp -implicitDefEqProofs (disch:=omega) only [↓rP,rA,↓reduceIte,reduceEqDiff,reduceAdd,reduceLeDiff]) | refine Cut.go ?_ | refine z0t (fun _=>?_) (fun _=>?_) | refine z16 (fun _=>?_) (fun _=>?_) | refine z0c (fun _=>?_) (fun _=>?_) | refine z1d (fun _=>?_) (fun _=>?_) | refine Split.intro (fun _=>?_) (fun _=>?_))
  all_goals (simp [z3p,z3k,z1r,beqI,bneI, *];try omega)
 ·repeat' (first | (simp -dsimp -implicitDefEqProofs (disch:=omega) only [↓rP,rA,↓reduceIte,reduceEqDiff,reduceAdd,reduceLeDiff]) | refine Cut.go ?_ | refine z0t (fun _=>?_) (fun _=>?_) | refine z16 (fun _=>?_) (fun _=>?_) | refine z0c (fun _=>?_) (fun _=>?_) | refine z1d (fun _=>?_) (fun _=>?_) | refine Split.intro (fun _=>?_) (fun _=>?_))
  all_goals (simp [z3p,z3k,z1r,beqI,bneI, *];try omega)
 ·repeat' (first | (simp -dsimp -implicitDefEqProofs (disch:=omega) only [↓rP,rA,↓reduceIte,reduceEqDiff,reduceAdd,reduceLeDiff]) | refine Cut.go ?_ | refine z0t (fun _=>?_) (fun _=>?_) | refine z16 (fun _=>?_) (fun _=>?_) | refine z0c (fun _=>?_) (fun _=>?_) | refine z1d (fun _=>?_) (fun _=>?_) | refine Split.intro (fun _=>?_) (fun _=>?_))
  all_goals (simp [z3p,z3k,z1r,beqI,bneI, *];try omega)
 ·have:z3p ⟨op,bin,n⟩ s=-1:=by
   have hf:z3k ⟨op,bin,n⟩ s=false:=by unfold z3k;simp only;rw [if_neg (by omega),if_neg (by omega),if_neg (by omega),if_neg (by omega),if_neg (by omega),if_neg (by omega),if_neg (by omega)]
   unfold z3p;rw [hf];rfl
  rw [this]
  rcases ho with ho | ho
  ·have d1:decide (1≤op)=false:=decide_eq_false (by omega)
   have d3:decide (4≤op)=false:=decide_eq_false (by omega)
   have d5:decide (op<8)=true:=decide_eq_true (by omega)
   (repeat (first | simp -dsimp -implicitDefEqProofs only [↓rP,rB,↓reduceIte,reduceEqDiff,reduceAdd,reduceLeDiff,d1,d3,d5] | refine Cut.go ?_))
  ·have d1:decide (1≤op)=true:=decide_eq_true (by omega)
   have d2:decide (op≤3)=false:=decide_eq_false (by omega)
   have d3:decide (4≤op)=true:=decide_eq_true (by omega)
   have d4:decide (op≤7)=false:=decide_eq_false (by omega)
   have d5:decide (op<8)=false:=decide_eq_false (by omega)
   have d6:decide (10<op)=true:=decide_eq_true (by omega)
   (repeat (first | simp -dsimp -implicitDefEqProofs only [↓rP,rB,↓reduceIte,reduceEqDiff,reduceAdd,reduceLeDiff,d1,d2,d3,d4,d5,d6] | refine Cut.go ?_))
open Classical in
noncomputable def zff (l:List It) (s:Int):Bool:=decide (zmr l s)
theorem okL_take {s:Int} {l:List It} {k:Nat} (h:okL s l):okL s (l.take k):=by
 intro j hj x hx
 have hj':j<l.length:=by simp at hj;omega
 have hjk:j<k:=by simp at hj;omega
 rw [List.getElem?_take_of_lt hjk] at hx
 obtain ⟨h1,h2⟩:=h j hj' x hx
 refine ⟨h1,?_⟩
 rw [List.take_take,Nat.min_eq_left (by omega)]
 exact h2
theorem zns {s:Int}:∀ (n:Nat) (l:List It),l.length=n→okL s l→high l≤l.length:=by
 intro n
 induction n with
 | zero=>
  intro l hl _
  have:l=[]:=List.length_eq_zero_iff.1 hl
  subst this;simp [high]
 | succ n ih=>
  intro l hl h
  rcases List.eq_nil_or_concat l with rfl | ⟨m,x,rfl⟩
  ·simp at hl
  ·rw [List.concat_eq_append] at *
   simp at hl
   rw [zpc] at h
   have:=ih m hl h.1
   have:=z92 h.2.1
   rw [zhf];simp;omega
theorem zmm (s:Int) (hs:okI s) (o:Option (List It)) (hok:okSl z09.ok o) (h:z00) :
  z01 Try.prog 59 [.int .i64 s,slAV 3 z09.cells o] h (fun v h2=>v=.bool (zff (slL o) s)∧Keeps h h2 (fun _=>False)):=by
 obtain ⟨hl,hok⟩:=hok
 unfold maxLen at hl
 apply zqh
 (repeat (first | simp -dsimp -implicitDefEqProofs (disch:=omega) only [↓rP,rA,↓reduceIte,reduceEqDiff,reduceAdd,reduceLeDiff] | refine Cut.go ?_))
 refine z0x z08 (by kernel_rfl) (fun m fr hh=>∃ k:Nat,k≤(slL o).length∧m=(slL o).length-k∧okL s ((slL o).take k)∧Keeps h hh (fun _=>False)∧fr=frOf [(0,.int .i64 s),(1,slAV 3 z09.cells o),(5,.int .i64 (high ((slL o).take k))),(8,slAV 3 z09.cells o),(9,.int .i64 (slL o).length),(10,.int .i64 k)]) (slL o).length ⟨0,by omega,by omega,fun j hj=>by simp at hj,.refl _ _,rfl⟩ ?_
 rintro m fr hh ⟨k,hk,rfl,hokl,kp,rfl⟩
 apply zkx
 generalize hI:(fun (m:Nat) (fr:Fr) (hh:z00)=>_)=I
 have hb:=zns _ _ rfl hokl
 have hb0:=(okL_high hokl _ (Nat.le_refl _)).1
 rw [List.take_length] at hb0
 simp at hb
 have hbk:high ((slL o).take k)≤k:=by omega
 (repeat (first | simp -dsimp -implicitDefEqProofs (disch:=omega) only [↓rP,rA,↓reduceIte,reduceEqDiff,reduceAdd,reduceLeDiff] | refine Cut.go ?_))
 refine z0c (fun hkl=>?_) (fun hkl=>?_)
 ·obtain ⟨x,hx⟩:∃ x,(slL o)[k]?=some x:=⟨_,List.getElem?_eq_getElem (by omega)⟩
  have hxok:=hok x (List.mem_of_getElem? hx)
  have hsn:(slL o).take (k+1)=(slL o).take k++[x]:=by rw [List.take_add_one,hx];rfl
  (repeat (first | simp -dsimp -implicitDefEqProofs (disch:=omega) only [↓rP,rA,↓reduceIte,reduceEqDiff,reduceAdd,reduceLeDiff,z02 hx] | refine Cut.go ?_))
  have hc:(List.take 3 (z09.cells x))=x.cells:=rfl
  have hl3:(z09.cells x).length=3:=rfl
  rw [hl3]
  (repeat (first | simp -dsimp -implicitDefEqProofs (disch:=omega) only [↓rP,rA,↓reduceIte,reduceEqDiff,reduceAdd,reduceLeDiff,hc] | refine Cut.go ?_))
  rw [z1a (by rfl) (by rfl)]
  have kA:=Keeps.push hh (.row 58 x.cells)
  (repeat (first | simp -dsimp -implicitDefEqProofs (disch:=omega) only [↓rP,rA,↓reduceIte,reduceEqDiff,reduceAdd,reduceLeDiff,hl3,hc] | refine Cut.go ?_))
  refine (zmo x s hxok hs _).mono ?_
  rintro _ _ ⟨rfl,rfl⟩
  have bad:¬ (z3k x s=true∧z1r x.Op≤high ((slL o).take k))→zff (slL o) s=false:=by
   intro hn
   unfold zff
   rw [decide_eq_false_iff_not]
   rintro ⟨g1,-,-⟩
   exact hn (g1 k (by omega) x hx)
  cases hf:z3k x s with
  | false=>
   (repeat (first | simp -dsimp -implicitDefEqProofs (disch:=omega) only [↓rP,rA,↓reduceIte,reduceEqDiff,reduceAdd,reduceLeDiff] | refine Cut.go ?_))
   exact ⟨by rw [bad (by rw [hf];simp)],kp.trans kA (fun _ _ h=>h)⟩
  | true=>
   have hn:=z92 hf
   (repeat (first | simp -dsimp -implicitDefEqProofs (disch:=omega) only [↓rP,rA,↓reduceIte,reduceEqDiff,reduceAdd,reduceLeDiff,hl3,hc] | refine Cut.go ?_))
   refine (z97 x _).mono ?_
   rintro _ _ ⟨rfl,rfl⟩
   (repeat (first | simp -dsimp -implicitDefEqProofs (disch:=omega) only [↓rP,rA,↓reduceIte,reduceEqDiff,reduceAdd,reduceLeDiff] | refine Cut.go ?_))
   refine z0c (fun hlt=>?_) (fun hle=>?_)
   ·(repeat (first | simp -dsimp -implicitDefEqProofs (disch:=omega) only [↓rP,rA,↓reduceIte,reduceEqDiff,reduceAdd,reduceLeDiff] | refine Cut.go ?_))
    exact ⟨by rw [bad (by omega)],kp.trans kA (fun _ _ h=>h)⟩
   ·(repeat (first | simp -dsimp -implicitDefEqProofs (disch:=omega) only [↓rP,rA,↓reduceIte,reduceEqDiff,reduceAdd,reduceLeDiff,hl3,hc] | refine Cut.go ?_))
    refine (z97 x _).mono ?_
    rintro _ _ ⟨rfl,rfl⟩
    have w1:IntKind.i64.wrap (1-z1r x.Op)=1-z1r x.Op:=z6o (by omega) (by omega)
    have w2:IntKind.i64.wrap (high ((slL o).take k)+(1-z1r x.Op))=high ((slL o).take (k+1)):=by rw [hsn,zhf];exact z6o (by omega) (by omega)
    (repeat (first | simp -dsimp -implicitDefEqProofs (disch:=omega) only [↓rP,rA,↓reduceIte,reduceEqDiff,reduceAdd,reduceLeDiff,w1,w2] | refine Cut.go ?_))
    rw [z04,←hI]
    refine ⟨_,?_,k+1,by omega,rfl,?_,kp.trans kA (fun _ _ h=>h),rfl⟩
    ·omega
    ·rw [hsn,zpc];exact ⟨hokl,hf,hle⟩
 ·have hke:k=(slL o).length:=by omega
  subst hke
  rw [List.take_length] at *
  (repeat (first | simp -dsimp -implicitDefEqProofs (disch:=omega) only [↓rP,rA,↓reduceIte,reduceEqDiff,reduceAdd,reduceLeDiff] | refine Cut.go ?_))
  have hg:zff (slL o) s=(decide (high (slL o)=1)&&decide ((slL o).length≤64)):=by
   unfold zff zmr
   rw [Bool.eq_iff_iff]
   simp only [decide_eq_true_eq,Bool.and_eq_true]
   exact ⟨fun h=>h.2,fun h=>⟨hokl,h⟩⟩
  rw [hg]
  refine z0t (fun h1=>?_) (fun h1=>?_)
  ·(repeat (first | simp -dsimp -implicitDefEqProofs (disch:=omega) only [↓rP,rA,↓reduceIte,reduceEqDiff,reduceAdd,reduceLeDiff] | refine Cut.go ?_))
   refine ⟨?_,kp⟩
   simp [h1];omega
  ·(repeat (first | simp -dsimp -implicitDefEqProofs (disch:=omega) only [↓rP,rA,↓reduceIte,reduceEqDiff,reduceAdd,reduceLeDiff] | refine Cut.go ?_))
   refine ⟨?_,kp⟩
   simp [h1]
theorem z0o (s:Int) (hs:okI s) (o:Option (List It)) (hok:okSl z09.ok o) (hlen:(slL o).length≤1000000) (h:z00) :
  z01 Try.prog 65 [slAV 3 z09.cells o,.int .i64 s] h (fun v h2=>v=.bool (zff (slL o) s)∧h2=h):=by
 obtain ⟨hl,hok⟩:=hok
 unfold maxLen at hl
 have key:zff (slL o) s=(decide (zpu s (slL o).reverse 1=some 0)&&decide ((slL o).length≤64)):=by
  unfold zff zmr
  rw [Bool.eq_iff_iff]
  simp only [decide_eq_true_eq,Bool.and_eq_true]
  rw [want_good s _ (slL o) rfl 1 (by omega)]
  exact ⟨fun h=>⟨⟨h.1,h.2.1⟩,h.2.2⟩,fun h=>⟨h.1.1,h.1.2,h.2⟩⟩
 apply zfi
 (repeat (first | simp -dsimp -implicitDefEqProofs (disch:=omega) only [↓rP,rA,↓reduceIte,reduceEqDiff,reduceAdd,reduceLeDiff] | refine Cut.go ?_))
 refine z0x z08 (by kernel_rfl) (fun m fr hh=>∃ (k:Nat) (w:Int),k≤(slL o).length∧m=k∧0≤w∧w≤2*((slL o).length-k)+1∧hh=h∧zpu s (slL o).reverse 1=zpu s ((slL o).take k).reverse w∧fr=frOf [(0,slAV 3 z09.cells o),(1,.int .i64 s),(5,.int .i64 w),(6,.int .i64 ((k:Int)-1))]) (slL o).length ⟨(slL o).length,1,by omega,rfl,by omega,by omega,rfl,by rw [List.take_length],rfl⟩ ?_
 rintro m fr hh ⟨k,w,hk,rfl,hw0,hw,rfl,hwr,rfl⟩
 apply zce
 generalize hI:(fun (m:Nat) (fr:Fr) (hh:z00)=>_)=I
 (repeat (first | simp -dsimp -implicitDefEqProofs (disch:=omega) only [↓rP,rA,↓reduceIte,reduceEqDiff,reduceAdd,reduceLeDiff] | refine Cut.go ?_))
 refine z1d (fun hkl=>?_) (fun hkl=>?_)
 ·obtain ⟨j,rfl⟩:∃ j,m=j+1:=⟨m-1,by omega⟩
  obtain ⟨x,hx⟩:∃ x,(slL o)[j]?=some x:=⟨_,List.getElem?_eq_getElem (by omega)⟩
  have hxok:=hok x (List.mem_of_getElem? hx)
  have hsn:(slL o).take (j+1)=(slL o).take j++[x]:=by rw [List.take_add_one,hx];rfl
  have ej:((j+1:Nat):Int)-1=(j:Int):=by omega
  have hc:(List.take 3 (z09.cells x))=x.cells:=rfl
  have hl3:(z09.cells x).length=3:=rfl
  rw [hsn,List.reverse_append,List.reverse_singleton,List.singleton_append] at hwr
  simp only [zpu] at hwr
  rw [ej]
  (repeat (first | simp -dsimp -implicitDefEqProofs (disch:=omega) only [↓rP,rA,↓reduceIte,reduceEqDiff,reduceAdd,reduceLeDiff,z02 hx,hl3,hc] | refine Cut.go ?_))
  refine (zn7 x s hxok hs _).mono ?_
  rintro _ _ ⟨rfl,rfl⟩
  have ht:-1≤z3p x s∧z3p x s≤2:=by
   unfold z3p
   split
   ·rename_i hf;have:=z92 hf;omega
   ·omega
  (repeat (first | simp -dsimp -implicitDefEqProofs (disch:=omega) only [↓rP,rA,↓reduceIte,reduceEqDiff,reduceAdd,reduceLeDiff] | refine Cut.go ?_))
  refine z0c (fun hlt=>?_) (fun hle=>?_)
  ·(repeat (first | simp -dsimp -implicitDefEqProofs (disch:=omega) only [↓rP,rA,↓reduceIte,reduceEqDiff,reduceAdd,reduceLeDiff] | refine Cut.go ?_))
   rw [if_pos (Or.inl hlt)] at hwr
   rw [key,hwr];simp
  ·(repeat (first | simp -dsimp -implicitDefEqProofs (disch:=omega) only [↓rP,rA,↓reduceIte,reduceEqDiff,reduceAdd,reduceLeDiff] | refine Cut.go ?_))
   refine z0t (fun h0=>?_) (fun h0=>?_)
   ·(repeat (first | simp -dsimp -implicitDefEqProofs (disch:=omega) only [↓rP,rA,↓reduceIte,reduceEqDiff,reduceAdd,reduceLeDiff] | refine Cut.go ?_))
    rw [if_pos (Or.inr h0)] at hwr
    rw [key,hwr];simp
   ·rw [if_neg (by omega)] at hwr
    (repeat (first | simp -dsimp -implicitDefEqProofs (disch:=omega) only [↓rP,rA,↓reduceIte,reduceEqDiff,reduceAdd,reduceLeDiff] | refine Cut.go ?_))
    rw [z04,←hI]
    exact ⟨j,by omega,j,w-1+z3p x s,by omega,rfl,by omega,by omega,rfl,hwr,rfl⟩
 ·have hke:m=0:=by omega
  subst hke
  rw [List.take_zero] at hwr
  simp only [List.reverse_nil,zpu] at hwr
  (repeat (first | simp -dsimp -implicitDefEqProofs (disch:=omega) only [↓rP,rA,↓reduceIte,reduceEqDiff,reduceAdd,reduceLeDiff] | refine Cut.go ?_))
  rw [key,hwr]
  refine z0t (fun h1=>?_) (fun h1=>?_)
  ·(repeat (first | simp -dsimp -implicitDefEqProofs (disch:=omega) only [↓rP,rA,↓reduceIte,reduceEqDiff,reduceAdd,reduceLeDiff] | refine Cut.go ?_))
   simp [h1]
   try omega
  ·(repeat (first | simp -dsimp -implicitDefEqProofs (disch:=omega) only [↓rP,rA,↓reduceIte,reduceEqDiff,reduceAdd,reduceLeDiff] | refine Cut.go ?_))
   simp [h1]
end Go.Proofs.Ytjlogcfggfmacaa
end

