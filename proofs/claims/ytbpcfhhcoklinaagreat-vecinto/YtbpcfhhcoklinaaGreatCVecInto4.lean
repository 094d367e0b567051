-- Written by a program of this session out of its own texts (wip/tools/link.py).
import Derived.Below
import Derived.Deep.RegionHeld3
import Derived.Laws.BitsLemmas
import Derived.Laws.OwnMore
import Derived.OrdersHeld
import Derived.RowKit
set_option linter.unusedSimpArgs false
set_option linter.unusedVariables false
namespace Go.Proofs.YtbpcfhhcoklinaaGreat.Ab
open Go Go.RowKit
inductive Bo where
 | lit (b:Bool) | lt (x y:Int) | le (x y:Int) | gt (x y:Int) | ge (x y:Int) | eq (x y:Int) | ne (x y:Int) | not (b:Bo) | cst (b:Bool)
def Bo.val:Bo→Bool
 | .lit b=>b | .lt x y=>decide (x < y) | .le x y=>decide (x≤y) | .gt x y=>decide (x > y) | .ge x y=>decide (x≥y)
 | .eq x y=>(x==y) | .ne x y=>(x != y) | .not b=>!b.val | .cst b=>b
def Bo.ite {β:Type}:Bo→Option β→Option β→Option β
 | .lit b,A,B=>if b=true then A else B
 | .lt x y,A,B=>if x < y then A else B
 | .le x y,A,B=>if x≤y then A else B
 | .gt x y,A,B=>if x > y then A else B
 | .ge x y,A,B=>if x≥y then A else B
 | .eq x y,A,B=>if x=y then A else B
 | .ne x y,A,B=>if x=y then B else A
 | .not b,A,B=>b.ite B A
 | .cst b,A,B=>match b with | true=>A | false=>B
theorem Bo.ite_some {β:Type} {A B:Option β} {r:β}:∀ {b:Bo},b.ite A B=some r→(b.val=true∧A=some r)∨(b.val=false∧B=some r)
 | .lit b,h=>by cases b <;> simp_all [Bo.ite,Bo.val]
 | .lt x y,h=>by unfold Bo.ite at h;split at h <;> simp_all [Bo.val]
 | .le x y,h=>by unfold Bo.ite at h;split at h <;> simp_all [Bo.val]
 | .gt x y,h=>by unfold Bo.ite at h;split at h <;> simp_all [Bo.val]
 | .ge x y,h=>by unfold Bo.ite at h;split at h <;> simp_all [Bo.val]
 | .eq x y,h=>by unfold Bo.ite at h;split at h <;> simp_all [Bo.val]
 | .ne x y,h=>by unfold Bo.ite at h;split at h <;> simp_all [Bo.val]
 | .not b,h=>by
  rcases Bo.ite_some (b:=b) (by simpa [Bo.ite] using h) with ⟨h1,h2⟩ | ⟨h1,h2⟩
  ·exact .inr ⟨by simp [Bo.val,h1],h2⟩
  ·exact .inl ⟨by simp [Bo.val,h1],h2⟩
 | .cst b,h=>by cases b <;> simp_all [Bo.ite,Bo.val]
inductive Ee where
 | unk (e:Option Int) | nil | code (c:Int)
def Ee.val:Ee→Option Int
 | .unk e=>e | .nil=>none | .code c=>some c
inductive Cp where
 | int (k:IntKind) (n:Int) | row (k:IntKind) (l:List Int) | bool (b:Bool)
inductive Ck where
 | int (k:IntKind) | row (k:IntKind) | bool
 deriving DecidableEq
abbrev Ck.T:Ck→Type
 | .int _=>Int | .row _=>List Int | .bool=>Bool
def Ck.mk:(k:Ck)→k.T→Cp
 | .int k,n=>.int k n
 | .row k,l=>.row k l
 | .bool,b=>.bool b
def Ck.dft:(k:Ck)→k.T
 | .int _=>(0:Int)
 | .row _=>([]:List Int)
 | .bool=>false
abbrev CT:List Ck→Type
 | []=>Unit
 | [k]=>k.T
 | k :: l :: r=>k.T×CT (l :: r)
def CT.mk:(ks:List Ck)→CT ks→List Cp
 | [],_=>[]
 | [k],x=>[k.mk x]
 | k :: l :: r,x=>k.mk x.1 :: CT.mk (l :: r) x.2
def CT.dft:(ks:List Ck)→CT ks
 | []=>()
 | [k]=>k.dft
 | k :: l :: r=>(k.dft,CT.dft (l :: r))
inductive Sc where
 | int (k:IntKind) (n:Int) (lo hi:Option Int)
 | bool (b:Bo)
 | str (s:ByteArray) (n:Option Nat)
 | err (i:Nat)
 | erc (e:Option Int)
 | ptr (b off:Nat)
 | nilp
 | lst (b:Nat)
 | nils
 | rd (k:IntKind) (l:List Int)
 | ep (b:Nat) (i:Int)
 | rp (k:IntKind) (l:List Int) (i:Int)
 | sst (b n sz:Nat)
 | fn (f:FuncId)
 | clo (f:FuncId) (cs:List Cp)
 | cp (c:Cp)
 | me (b o n:Nat) (j:Int)                      -- the j-th of n places in a block,from place o on
 | win (b o m:Nat) (n:Int)                     -- a row: the first n of m places in a block,from place o on
 | rds (ks:List Ck) (l:List (CT ks))           -- a list of structs that is only read
 | rps (cs:List Cp)                              -- a pointer to one of its structs
 | lss (b:Nat)                                   -- a list of structs of the call's own
 | es (b sz:Nat) (i:Int)                       -- a pointer to one of its structs
 | arr (k:IntKind) (m:Nat) (l:List Int)      -- no cell: an array's numbers,where a struct's cells are told one by one
 | nof                                            -- no function
inductive A1 where
 | s (x:Sc)
 | g (cs:List Sc)
 | mx (cs:List Sc) (k:IntKind) (m:Nat) (l:List Int)   -- a struct whose last field is an array of m numbers,or an array alone
inductive AV where
 | one (a:A1)
 | tup (l:List A1)
inductive Bl where
 | cells (cs:List Sc) (t:TypeId)
 | ints (k:IntKind) (t:TypeId) (l:List Int)
 | dead
 | mix (cs:List Sc) (k:IntKind) (m:Nat) (l:List Int) (t:TypeId)
 | rows (ks:List Ck) (t:TypeId) (l:List (CT ks))
structure St where
 tm:List (Nat×AV)
 bl:List Bl
 es:List Ee
def look {α:Type}:List (Nat×α)→Nat→Option α
 | [],_=>none
 | (t,x) :: r,i=>if Nat.beq t i=true then some x else look r i
def errV (eT:TypeId):Option Int→Value
 | none=>.nilIface
 | some c=>.iface eT (.int .i64 c)
def kLo:IntKind→Int
 | .i8=>-128 | .i16=>-32768 | .i32=>-2147483648 | .i64=>-9223372036854775808 | _=>0
def kHi:IntKind→Int
 | .i8=>127 | .i16=>32767 | .i32=>2147483647 | .i64=>9223372036854775807 | .u8=>255 | .u16=>65535 | .u32=>4294967295 | .u64=>18446744073709551615
def inK (k:IntKind) (n:Int):Prop:=kLo k≤n∧n≤kHi k
def Ck.wf:(k:Ck)→k.T→Prop
 | .int k,n=>inK k n
 | .row _,_=>True
 | .bool,_=>True
def CT.wf:(ks:List Ck)→CT ks→Prop
 | [],_=>True
 | [k],x=>k.wf x
 | k :: l :: r,x=>k.wf x.1∧CT.wf (l :: r) x.2
def Ck.val:(k:Ck)→k.T→Value
 | .int k,n=>.int k n
 | .bool,b=>.bool b
 | .row _,_=>.nilIface
def CT.vals:(ks:List Ck)→CT ks→List Value
 | [],_=>[]
 | [k],x=>[k.val x]
 | k :: l :: r,x=>k.val x.1 :: CT.vals (l :: r) x.2
def noRow:List Ck→Bool
 | []=>true
 | .row _ :: _=>false
 | _ :: r=>noRow r
def flatV (ks:List Ck) (l:List (CT ks)):List Value:=(l.map (CT.vals ks)).flatten
def inR (ks:List Ck) (l:List (CT ks)):Prop:=l.length≤9223372036854775807∧(noRow ks=true∧0 < ks.length)∧∀ x∈l,CT.wf ks x
theorem CT.vals_len:∀ (ks:List Ck) (x:CT ks),(CT.vals ks x).length=ks.length
 | [],_=>rfl
 | [_],_=>rfl
 | k :: l :: r,x=>by show (k.val x.1 :: CT.vals (l :: r) x.2).length=_;rw [List.length_cons,CT.vals_len];rfl
theorem flatV_len {ks:List Ck}:∀ (l:List (CT ks)),(flatV ks l).length=l.length*ks.length
 | []=>by simp [flatV]
 | x :: l=>by
  have:=flatV_len l
  unfold flatV at this ⊢
  rw [List.map_cons,List.flatten_cons,List.length_append,this,CT.vals_len,List.length_cons,Nat.add_mul,Nat.one_mul,Nat.add_comm]
theorem flatV_get {ks:List Ck}:∀ (l:List (CT ks)) (i j:Nat) (h:i < l.length),j < ks.length→(flatV ks l)[i*ks.length+j]? = (CT.vals ks l[i])[j]?
 | x :: l,0,j,_,hj=>by
  unfold flatV
  rw [List.map_cons,List.flatten_cons,Nat.zero_mul,Nat.zero_add,List.getElem?_append_left (by rw [CT.vals_len];exact hj)]
  rfl
 | x :: l,i+1,j,h,hj=>by
  have:=flatV_get l i j (by simpa using h) hj
  unfold flatV at this ⊢
  rw [List.map_cons,List.flatten_cons,Nat.add_mul,Nat.one_mul,Nat.add_right_comm,List.getElem?_append_right (by rw [CT.vals_len];omega),CT.vals_len,Nat.add_sub_cancel,this]
  simp
 | [],_,_,h,_=>by simp at h
theorem flatV_append {ks:List Ck} (l m:List (CT ks)):flatV ks (l++m)=flatV ks l++flatV ks m:=by simp [flatV]
theorem flatV_take {ks:List Ck}:∀ (l:List (CT ks)) (n:Nat),flatV ks (l.take n)=(flatV ks l).take (n*ks.length)
 | [],n=>by simp [flatV]
 | x :: l,0=>by simp [flatV]
 | x :: l,n+1=>by
  have:=flatV_take l n
  unfold flatV at this ⊢
  rw [List.take_succ_cons,List.map_cons,List.flatten_cons,this,List.map_cons,List.flatten_cons,Nat.add_mul,Nat.one_mul,List.take_append,CT.vals_len,Nat.add_sub_cancel,List.take_of_length_le (l:=CT.vals ks x) (by rw [CT.vals_len];omega)]
structure Cx where
 eT:TypeId
 w:World
 base:Nat
 nb:Nat
 ρ:Nat→Nat
 vl:Nat→Value
 es:List Ee
 ok:Nat→Prop
def Rds (w:World) (ok:Nat→Prop) (A:Option Addr) (k:IntKind) (l:List Int):Prop:=
 ∀ i (h:i < l.length),∃ a,A=some a∧ok a.block∧a.block < w.heap.size∧w.cell? (a.add i)=some (.int k l[i])
def inL (k:IntKind) (l:List Int):Prop:=l.length≤9223372036854775807∧∀ n,n∈l→inK k n
def CpV (C:Cx):Cp→Value→Prop
 | .int k n,v=>v = .int k n∧inK k n
 | .row k l,v=>∃ A c,v = .slice A l.length c∧l.length≤c∧inL k l∧Rds C.w C.ok A k l
 | .bool b,v=>v = .bool b
def CpA (C:Cx) (c:Cp) (v:Value):Prop:=∃ a u,v = .pointer (some a)∧C.ok a.block∧a.block < C.w.heap.size∧C.w.cell? a=some u∧CpV C c u
def CpAs (C:Cx):List Cp→List Value→Prop
 | [],[]=>True
 | c :: cs,v :: vs=>CpA C c v∧CpAs C cs vs
 | _,_=>False
def CpVs (C:Cx):List Cp→List Value→Prop
 | [],[]=>True
 | c :: cs,v :: vs=>CpV C c v∧CpVs C cs vs
 | _,_=>False
def CpRow (C:Cx) (cs:List Cp) (g off:Nat):Prop:=C.ok g∧g < C.w.heap.size∧∃ us,CpVs C cs us∧∀ (j:Nat) (u:Value),us[j]? = some u→C.w.cell? ⟨g,off+j,none⟩=some u
def VS (C:Cx):Sc→Value→Prop
 | .int k n lo hi,v=>v = .int k n∧inK k n∧(∀ a,lo=some a→a≤n)∧(∀ a,hi=some a→n≤a)
 | .bool b,v=>v = .bool b.val
 | .str s n,v=>v = .string s∧s.size≤9223372036854775807∧(∀ m,n=some m→s.size=m)
 | .err i,v=>∃ e,C.es[i]? = some e∧v=errV C.eT e.val∧∀ c,e.val=some c→inK .i64 c
 | .erc e,v=>v=errV C.eT e∧∀ c,e=some c→inK .i64 c
 | .ptr b o,v=>b < C.nb∧v = .pointer (some ⟨C.ρ b,o,none⟩)
 | .nilp,v=>v = .pointer none
 | .lst b,v=>b < C.nb∧v=C.vl b∧∃ A n c,v = .slice A n c
 | .nils,v=>v = .slice none 0 0
 | .rd k l,v=>∃ A c,v = .slice A l.length c∧l.length≤c∧inL k l∧Rds C.w C.ok A k l
 | .ep b i,v=>b < C.nb∧∃ A n c,C.vl b = .slice (some A) n c∧0≤i∧i < n∧v = .pointer (some (A.add i.toNat))
 | .rp k l i,v=>0≤i∧∃ h:i.toNat < l.length,∃ a,v = .pointer (some a)∧C.ok a.block∧a.block < C.w.heap.size∧C.w.cell? a=some (.int k l[i.toNat])∧inK k l[i.toNat]
 | .sst b n _,v=>b < C.nb∧v = .slice (some ⟨C.ρ b,0,none⟩) n n
 | .fn f,v=>v = .func (.func f) #[] #[]
 | .clo f cs,v=>∃ us,v = .func (.func f) #[] us∧CpAs C cs us.toList
 | .cp c,v=>CpA C c v
 | .me b o n j,v=>b < C.nb∧0≤j∧j < n∧v = .pointer (some ⟨C.ρ b,o+j.toNat,none⟩)
 | .win b o m n,v=>b < C.nb∧0≤n∧n≤m∧∃ c,n.toNat≤c∧v = .slice (some ⟨C.ρ b,o,none⟩) n.toNat c
 | .rds ks l,v=>∃ A c,v = .slice A l.length c∧l.length≤c∧l.length≤9223372036854775807∧∀ i (h:i < l.length),∃ g off,A=some ⟨g,off,none⟩∧CpRow C (CT.mk ks l[i]) g (off+i*ks.length)
 | .rps cs,v=>∃ g off,v = .pointer (some ⟨g,off,none⟩)∧CpRow C cs g off
 | .lss b,v=>b < C.nb∧v=C.vl b∧∃ A n c,v = .slice A n c
 | .es b sz i,v=>b < C.nb∧∃ A n c,C.vl b = .slice (some A) n c∧0≤i∧i < n∧v = .pointer (some (A.add (i.toNat*sz)))
 | .arr k m l,v=>v = .func (.func 0) (l.map (Value.int k)).toArray #[]∧l.length=m∧inL k l
 | .nof,v=>v = .nilFunc
def VSs (C:Cx):List Sc→List Value→Prop
 | [],[]=>True
 | x :: xs,v :: vs=>VS C x v∧VSs C xs vs
 | _,_=>False
def V1 (C:Cx):A1→Value→Prop
 | .s x,v=>VS C x v
 | .g cs,v=>∃ vs,v = .agg vs∧VSs C cs vs.toList
 | .mx cs k m l,v=>∃ us,v = .agg (us++l.map (Value.int k)).toArray∧VSs C cs us∧l.length=m∧inL k l
def V1s (C:Cx):List A1→List Value→Prop
 | [],[]=>True
 | x :: xs,v :: vs=>V1 C x v∧V1s C xs vs
 | _,_=>False
def VV (C:Cx):AV→Value→Prop
 | .one a,v=>V1 C a v
 | .tup l,v=>∃ vs,v = .tuple vs∧V1s C l vs.toList
structure Cx.Le (C D:Cx):Prop where
 eT:D.eT=C.eT
 nb:C.nb≤D.nb
 ρ:∀ b,b < C.nb→D.ρ b=C.ρ b
 vl:∀ b,b < C.nb→D.vl b=C.vl b
 es:∀ (i:Nat) (e:Ee),C.es[i]? = some e→∃ e':Ee,D.es[i]? = some e'∧e'.val=e.val
 ok:∀ g,C.ok g→g < C.w.heap.size→D.ok g
 size:C.w.heap.size≤D.w.heap.size
 heap:∀ g,C.ok g→g < C.w.heap.size→D.w.heap[g]? = C.w.heap[g]?
theorem Cx.Le.refl (C:Cx):C.Le C:=⟨rfl,Nat.le_refl _,fun _ _=>rfl,fun _ _=>rfl,fun _ e h=>⟨e,h,rfl⟩,fun _ h _=>h,Nat.le_refl _,fun _ _ _=>rfl⟩
theorem add_block (a:Addr) (i:Nat):(a.add i).block=a.block:=by unfold Addr.add;split <;> rfl
theorem cell_of {w w':World} {a:Addr} (h:w'.heap[a.block]? = w.heap[a.block]?):w'.cell? a=w.cell? a:=World.cell?_of_block (w:=w) h
theorem Rds.le {C D:Cx} (h:C.Le D) {A:Option Addr} {k:IntKind} {l:List Int} (hr:Rds C.w C.ok A k l):Rds D.w D.ok A k l:=by
 intro i hi
 obtain ⟨a,rfl,h1,h2,h3⟩:=hr i hi
 exact ⟨a,rfl,h.ok _ h1 h2,Nat.lt_of_lt_of_le h2 h.size,by rw [cell_of (w:=C.w) (by rw [add_block];exact h.heap _ h1 h2)];exact h3⟩
theorem CpV.le {C D:Cx} (h:C.Le D) {c:Cp} {v:Value} (hv:CpV C c v):CpV D c v:=by
 cases c with
 | int k n=>exact hv
 | row k l=>obtain ⟨A,c,h5,h6,h7,h8⟩:=hv;exact ⟨A,c,h5,h6,h7,h8.le h⟩
 | bool b=>exact hv
theorem CpVs.le {C D:Cx} (h:C.Le D):∀ {cs:List Cp} {vs:List Value},CpVs C cs vs→CpVs D cs vs
 | [],[],_=>trivial
 | _ :: _,_ :: _,hv=>⟨hv.1.le h,CpVs.le h hv.2⟩
 | [],_ :: _,hv=>hv.elim
 | _ :: _,[],hv=>hv.elim
theorem CpRow.le {C D:Cx} (h:C.Le D) {cs:List Cp} {g off:Nat} (hv:CpRow C cs g off):CpRow D cs g off:=by
 obtain ⟨h1,h2,us,h3,h4⟩:=hv
 exact ⟨h.ok _ h1 h2,Nat.lt_of_lt_of_le h2 h.size,us,h3.le h,fun j u hj=>by rw [cell_of (w:=C.w) (h.heap _ h1 h2)];exact h4 j u hj⟩
theorem CpA.le {C D:Cx} (h:C.Le D) {c:Cp} {v:Value} (hv:CpA C c v):CpA D c v:=by
 obtain ⟨a,u,rfl,h1,h2,h3,h4⟩:=hv
 refine ⟨a,u,rfl,h.ok _ h1 h2,Nat.lt_of_lt_of_le h2 h.size,by rw [cell_of (w:=C.w) (h.heap _ h1 h2)];exact h3, ?_⟩
 cases c with
 | int k n=>exact h4
 | row k l=>obtain ⟨A,c,h5,h6,h7,h8⟩:=h4;exact ⟨A,c,h5,h6,h7,h8.le h⟩
 | bool b=>exact h4
theorem CpAs.le {C D:Cx} (h:C.Le D):∀ {cs:List Cp} {vs:List Value},CpAs C cs vs→CpAs D cs vs
 | [],[],_=>trivial
 | _ :: _,_ :: _,hv=>⟨hv.1.le h,CpAs.le h hv.2⟩
 | [],_ :: _,hv=>hv.elim
 | _ :: _,[],hv=>hv.elim
theorem VS.le {C D:Cx} (h:C.Le D) {x:Sc} {v:Value} (hv:VS C x v):VS D x v:=by
 cases x with
 | err i =>
  obtain ⟨e,h1,h2,h5⟩:=hv
  obtain ⟨e',h3,h4⟩:=h.es _ _ h1
  exact ⟨e',h3,by rw [h4,h.eT];exact h2,by rw [h4];exact h5⟩
 | erc e=>simp only [VS] at hv ⊢;rw [h.eT];exact hv
 | ptr b o=>exact ⟨Nat.lt_of_lt_of_le hv.1 h.nb,by rw [h.ρ _ hv.1];exact hv.2⟩
 | lst b=>exact ⟨Nat.lt_of_lt_of_le hv.1 h.nb,by rw [h.vl _ hv.1];exact hv.2.1,hv.2.2⟩
 | rd k l=>obtain ⟨A,c,h1,h2,h3,h4⟩:=hv;exact ⟨A,c,h1,h2,h3,h4.le h⟩
 | ep b i=>obtain ⟨h0,A,n,c,h1⟩:=hv;exact ⟨Nat.lt_of_lt_of_le h0 h.nb,A,n,c,by rw [h.vl _ h0];exact h1⟩
 | rp k l i =>
  obtain ⟨h0,hl,a,h1,h2,h3,h4,h5⟩:=hv
  exact ⟨h0,hl,a,h1,h.ok _ h2 h3,Nat.lt_of_lt_of_le h3 h.size,by rw [cell_of (w:=C.w) (h.heap _ h2 h3)];exact h4,h5⟩
 | sst b n sz=>exact ⟨Nat.lt_of_lt_of_le hv.1 h.nb,by rw [h.ρ _ hv.1];exact hv.2⟩
 | clo f cs=>obtain ⟨us,h1,h2⟩:=hv;exact ⟨us,h1,h2.le h⟩
 | cp c=>exact CpA.le h hv
 | me b o n j=>exact ⟨Nat.lt_of_lt_of_le hv.1 h.nb,by rw [h.ρ _ hv.1];exact hv.2⟩
 | win b o m n=>exact ⟨Nat.lt_of_lt_of_le hv.1 h.nb,by rw [h.ρ _ hv.1];exact hv.2⟩
 | rds ks l =>
  obtain ⟨A,c,h1,h2,h3,h4⟩:=hv
  refine ⟨A,c,h1,h2,h3,fun i hi=>?_⟩
  obtain ⟨g,off,h5,h6⟩:=h4 i hi
  exact ⟨g,off,h5,h6.le h⟩
 | rps cs=>obtain ⟨g,off,h1,h2⟩:=hv;exact ⟨g,off,h1,h2.le h⟩
 | lss b=>exact ⟨Nat.lt_of_lt_of_le hv.1 h.nb,by rw [h.vl _ hv.1];exact hv.2.1,hv.2.2⟩
 | es b sz i=>obtain ⟨h0,A,n,c,h1⟩:=hv;exact ⟨Nat.lt_of_lt_of_le h0 h.nb,A,n,c,by rw [h.vl _ h0];exact h1⟩
 | _=>exact hv
theorem VSs.le {C D:Cx} (h:C.Le D):∀ {xs:List Sc} {vs:List Value},VSs C xs vs→VSs D xs vs
 | [],[],_=>trivial
 | _ :: _,_ :: _,hv=>⟨hv.1.le h,VSs.le h hv.2⟩
 | [],_ :: _,hv=>hv.elim
 | _ :: _,[],hv=>hv.elim
theorem V1.le {C D:Cx} (h:C.Le D) {x:A1} {v:Value} (hv:V1 C x v):V1 D x v:=by
 cases x with
 | s x=>exact VS.le h hv
 | g cs=>obtain ⟨vs,h1,h2⟩:=hv;exact ⟨vs,h1,h2.le h⟩
 | mx cs k m l=>obtain ⟨us,h1,h2,h3⟩:=hv;exact ⟨us,h1,h2.le h,h3⟩
theorem V1s.le {C D:Cx} (h:C.Le D):∀ {xs:List A1} {vs:List Value},V1s C xs vs→V1s D xs vs
 | [],[],_=>trivial
 | _ :: _,_ :: _,hv=>⟨hv.1.le h,V1s.le h hv.2⟩
 | [],_ :: _,hv=>hv.elim
 | _ :: _,[],hv=>hv.elim
theorem VV.le {C D:Cx} (h:C.Le D) {x:AV} {v:Value} (hv:VV C x v):VV D x v:=by
 cases x with
 | one a=>exact V1.le h hv
 | tup l=>obtain ⟨vs,h1,h2⟩:=hv;exact ⟨vs,h1,h2.le h⟩
theorem VSs.length {C:Cx}:∀ {xs:List Sc} {vs:List Value},VSs C xs vs→xs.length=vs.length
 | [],[],_=>rfl
 | _ :: _,_ :: _,hv=>by simp [VSs.length hv.2]
 | [],_ :: _,hv=>hv.elim
 | _ :: _,[],hv=>hv.elim
theorem VSs.get {C:Cx}:∀ {xs:List Sc} {vs:List Value} {i:Nat} {x:Sc},VSs C xs vs→xs[i]? = some x→∃ v,vs[i]? = some v∧VS C x v
 | [],_,i,x,_,h=>by simp at h
 | y :: xs,v :: vs,0,x,hv,h=>by simp at h;subst h;exact ⟨v,rfl,hv.1⟩
 | y :: xs,v :: vs,i+1,x,hv,h=>by simpa using VSs.get (i:=i) hv.2 (by simpa using h)
 | _ :: _,[],_,_,hv,_=>hv.elim
theorem VSs.set {C:Cx}:∀ {xs:List Sc} {vs:List Value} (i:Nat) {x:Sc} {v:Value},VSs C xs vs→VS C x v→VSs C (xs.set i x) (vs.set i v)
 | [],[],_,_,_,_,_=>trivial
 | _ :: _,_ :: _,0,_,_,hv,hx=>⟨hx,hv.2⟩
 | _ :: _,_ :: _,i+1,_,_,hv,hx=>⟨hv.1,VSs.set i hv.2 hx⟩
 | [],_ :: _,_,_,_,hv,_=>hv.elim
 | _ :: _,[],_,_,_,hv,_=>hv.elim
theorem V1s.length {C:Cx}:∀ {xs:List A1} {vs:List Value},V1s C xs vs→xs.length=vs.length
 | [],[],_=>rfl
 | _ :: _,_ :: _,hv=>by simp [V1s.length hv.2]
 | [],_ :: _,hv=>hv.elim
 | _ :: _,[],hv=>hv.elim
theorem V1s.get {C:Cx}:∀ {xs:List A1} {vs:List Value} {i:Nat} {x:A1},V1s C xs vs→xs[i]? = some x→∃ v,vs[i]? = some v∧V1 C x v
 | [],_,i,x,_,h=>by simp at h
 | y :: xs,v :: vs,0,x,hv,h=>by simp at h;subst h;exact ⟨v,rfl,hv.1⟩
 | y :: xs,v :: vs,i+1,x,hv,h=>by simpa using V1s.get (i:=i) hv.2 (by simpa using h)
 | _ :: _,[],_,_,hv,_=>hv.elim
theorem ex_bind {β γ:Type} {x:Except String β} {f:β→Except String γ} {r:γ} (h:(x >>= f) = .ok r):∃ y,x = .ok y∧f y = .ok r:=by
 cases x with
 | error e=>cases h
 | ok y=>exact ⟨y,rfl,h⟩
theorem ex_if {γ:Type} {c:Prop} [Decidable c] {s:String} {f:PUnit→Except String γ} {r:γ} (h:(if c then (do let y ← (MonadExcept.throw s:Except String PUnit);f y) else f ⟨⟩) = .ok r):f ⟨⟩ = .ok r:=by
 by_cases hc:c
 ·rw [if_pos hc] at h;cases h
 ·rw [if_neg hc] at h;exact h
theorem viewStore_drawn {P:Program} {w:World} {p:Addr} {u:TypeId} {a:Addr} {v:Value} {b:Bool} {r:World×List Addr} (h:w.viewStore P p u a v b = .ok r):r.1.drawn=w.drawn:=by
 unfold World.viewStore at h
 have h:=ex_if h
 obtain ⟨⟨c,e,frozen,first,like,cells⟩, -,h⟩:=ex_bind h
 cases hb:v.bytes? with
 | none=>rw [hb] at h;cases h
 | some bytes =>
  rw [hb] at h
  have h:=ex_if h
  obtain ⟨c', -,h⟩:=ex_bind h
  injection h with h
  subst h
  rfl
theorem ask_drawn {α:Type}:∀ (q:Ask α) (w:World),w.drawn≤(w.ask q).2.drawn
 | .done a,w=>Nat.le_refl _
 | .ask what range k,w=>by
  unfold World.ask
  by_cases hq:(Question.extern what range).forced=true
  ·simp only [hq,if_true]
   exact ask_drawn _ _
  ·simp only [hq,if_false]
   exact Nat.le_trans (Nat.le_succ _) (ask_drawn _ { w with drawn:=w.drawn+1 })
theorem sys_drawn (w:World) (c:Sys):w.drawn≤(w.sys c).2.drawn:=by
 have h:=ask_drawn (Kernel.perform c w.os) w
 unfold World.sys
 split
 ·exact Nat.le_refl _
 ·rename_i he
  rw [he] at h
  exact h
theorem farStore_drawn {P:Program} {w:World} {a:Addr} {v:Value} {b:Bool} {r:World×List Addr} (h:w.farStore P a v b = .ok r):r.1.drawn=w.drawn:=by
 unfold World.farStore at h
 split at h
 ·split at h
  ·rename_i hv
   injection h with h
   subst h
   exact viewStore_drawn hv
  ·cases h
 ·cases h
theorem freeze_drawn (w:World) (a:Addr) (n:Nat):(w.freeze a n).drawn=w.drawn:=by unfold World.freeze;split <;> rfl
theorem run_drawn {α:Type} {P:Program}:∀ (s:Sem α) (w:World) (v:α) (w':World),s.run P w = .ok v w'→w.drawn≤w'.drawn:=by
 intro s
 induction s with
 | pure a=>intro w v w' h;simp only [Sem.run] at h;injection h with h1 h2;subst h2;exact Nat.le_refl _
 | load m a k ih =>
  intro w v w' h
  simp only [Sem.run] at h
  split at h
  ·exact ih _ _ _ _ h
  ·split at h
   ·exact ih _ _ _ _ h
   ·cases h
 | store m a u k ih =>
  intro w v w' h
  have key:∀ u:Value,(match w.cell? a with
    | some _ => if w.frozen? a then Result.halt (.unsupported (.unsafePointer "a write to bytes that a string shares")) w else k.run P (w.setCell a u)
    | none=>match w.farStore P a u (m==Mode.atomic) with
     | .ok (w,_)=>k.run P w
     | .error h=>.halt h w) = .ok v w'→w.drawn≤w'.drawn:=by
   intro u h
   split at h
   ·split at h
    ·cases h
    ·exact ih (w.setCell a u) v w' h
   ·split at h
    ·rename_i hf
     exact Nat.le_trans (Nat.le_of_eq (farStore_drawn hf).symm) (ih _ _ _ h)
    ·cases h
  cases u
  case agg=>cases h
  case tuple=>cases h
  all_goals exact key _ h
 | new o k ih=>intro w v w' h;simp only [Sem.run] at h;exact ih _ { w with heap:=w.heap.push o } _ _ h
 | shape r k ih=>intro w v w' h;simp only [Sem.run] at h;exact ih _ _ _ _ h
 | freeze a n k ih=>intro w v w' h;simp only [Sem.run] at h;exact Nat.le_trans (Nat.le_of_eq (freeze_drawn w a n).symm) (ih _ _ _ h)
 | frozen a k ih=>intro w v w' h;simp only [Sem.run] at h;exact ih _ _ _ _ h
 | getObj r k ih =>
  intro w v w' h
  simp only [Sem.run] at h
  split at h
  ·cases h
  ·exact ih _ _ _ _ h
  ·cases h
 | setObj r o k ih =>
  intro w v w' h
  simp only [Sem.run] at h
  split at h
  ·cases h
  ·exact ih { w with heap:=w.heap.setIfInBounds r o } _ _ h
  ·cases h
 | choose q k ih =>
  intro w v w' h
  simp only [Sem.run] at h
  split at h
  ·exact ih _ _ _ _ h
  ·exact Nat.le_trans (Nat.le_succ _) (ih _ { w with drawn:=w.drawn+1 } _ _ h)
 | sys c k ih=>intro w v w' h;simp only [Sem.run] at h;exact Nat.le_trans (sys_drawn w c) (ih _ _ _ _ h)
 | program k ih=>intro w v w' h;simp only [Sem.run] at h;exact ih _ _ _ _ h
 | mark m k ih=>intro w v w' h;simp only [Sem.run] at h;exact ih _ _ _ h
 | halt h=>intro w v w' hh;simp only [Sem.run] at hh;cases hh
structure Bw (gs:List Nat) (w w':World):Prop where
 os:w'.os=w.os
 tape:w'.tape=w.tape
 output:w'.output=w.output
 drawn:w.drawn≤w'.drawn
 size:w.heap.size≤w'.heap.size
 block:∀ k,k < w.heap.size→k ∉ gs→w'.heap[k]? = w.heap[k]?
theorem Bw.refl (gs:List Nat) (w:World):Bw gs w w:=⟨rfl,rfl,rfl,Nat.le_refl _,Nat.le_refl _,fun _ _ _=>rfl⟩
theorem Bw.trans {gs:List Nat} {a b c:World} (h:Bw gs a b) (k:Bw gs b c):Bw gs a c:=
 ⟨k.os.trans h.os,k.tape.trans h.tape,k.output.trans h.output,Nat.le_trans h.drawn k.drawn,Nat.le_trans h.size k.size,fun i hi hn=>(k.block i (Nat.lt_of_lt_of_le hi h.size) hn).trans (h.block i hi hn)⟩
theorem Bw.weak {gs hs:List Nat} {a b:World} (h:Bw gs a b) (hh:∀ g,g∈gs→g∈hs):Bw hs a b:=
 ⟨h.os,h.tape,h.output,h.drawn,h.size,fun i hi hn=>h.block i hi (fun hm=>hn (hh _ hm))⟩
theorem Bw.drew (gs:List Nat) (w:World):Bw gs w w.drew:=⟨rfl,rfl,rfl,Nat.le_succ _,Nat.le_refl _,fun _ _ _=>rfl⟩
def BS (C:Cx) (b:Nat):Bl→Prop
 | .cells cs t=>C.ρ b < C.w.heap.size∧∃ vs,C.w.heap[C.ρ b]? = some (.cells vs t (0,0))∧VSs C cs vs.toList
 | .ints k t l=>inL k l∧C.w.ownsRow C.base t 1 (C.vl b) l.length (l.map (Value.int k))
 | .dead=>True
 | .rows ks t l=>inR ks l∧C.w.ownsRow C.base t ks.length (C.vl b) l.length (flatV ks l)
 | .mix cs k m l t=>C.ρ b < C.w.heap.size∧∃ us,C.w.heap[C.ρ b]? = some (.cells (us++l.map (Value.int k)).toArray t (0,0))∧VSs C cs us∧l.length=m∧inL k l
def Bl.at (ρ:Nat→Nat) (vl:Nat→Value) (b:Nat):Bl→Option Nat
 | .cells _ _=>some (ρ b)
 | .ints _ _ _=>(vl b).ownBlock
 | .dead=>none
 | .rows _ _ _=>(vl b).ownBlock
 | .mix _ _ _ _ _=>some (ρ b)
def liveAt (ρ:Nat→Nat) (vl:Nat→Value) (σ:St) (b g:Nat):Prop:=∃ x, σ.bl[b]? = some x∧x.at ρ vl b=some g
structure En where
 P:Program
 eT:TypeId
 N:Nat
 rcv:Option Nat
 ro:Bool
 wf:List FuncId
def En.ms (E:En):List Nat:=bif E.ro then [] else E.rcv.toList
theorem En.mem_ms {E:En} {g:Nat}:g∈E.ms↔E.ro=false∧E.rcv=some g:=by unfold En.ms;cases E.ro <;> cases E.rcv <;> simp [eq_comm]
def cx (E:En) (w0:World) (ok0:Nat→Prop) (gs:List Nat) (ρ:Nat→Nat) (vl:Nat→Value) (σ:St) (w:World):Cx:=
 ⟨E.eT,w,w0.heap.size, σ.bl.length, ρ,vl, σ.es,fun g=>(ok0 g∧g < w0.heap.size)∨(w0.heap.size≤g∧g ∉ gs∧∀ b,¬ liveAt ρ vl σ b g)⟩
structure Bh (ms gs:List Nat) (w w':World):Prop extends Bw ms w w' where
 hid:∀ g,g∈gs→w.heap.size≤g∧g < w'.heap.size
theorem Bh.step {ms gs:List Nat} {a b c:World} (h:Bh ms gs a b) (k:Bw [] b c):Bh ms gs a c:=⟨h.toBw.trans (k.weak (by simp)),fun g hg=>⟨(h.hid g hg).1,Nat.lt_of_lt_of_le (h.hid g hg).2 k.size⟩⟩
structure Rel (E:En) (w0:World) (ok0:Nat→Prop) (gs:List Nat) (ρ:Nat→Nat) (vl:Nat→Value) (σ:St) (a:Act) (w:World):Prop where
 size:a.tmps.size=E.N
 defers:a.defers=[]
 tm:∀ t av,look σ.tm t=some av→t < E.N∧VV (cx E w0 ok0 gs ρ vl σ w) av (a.tmps.getD t undef)
 bl:∀ b x, σ.bl[b]? = some x→BS (cx E w0 ok0 gs ρ vl σ w) b x
 dist:∀ b b' g,liveAt ρ vl σ b g→liveAt ρ vl σ b' g→b=b'
 own:∀ b g,liveAt ρ vl σ b g→((w0.heap.size≤g∨(b=0∧E.rcv=some g))∧g ∉ gs)∧g < w.heap.size
 bw:Bh E.ms gs w0 w
 rc:∀ g,E.rcv=some g→0 < σ.bl.length∧(∀ q,liveAt ρ vl σ 0 q→q=g)∧¬ ok0 g
end Go.Proofs.YtbpcfhhcoklinaaGreat.Ab
