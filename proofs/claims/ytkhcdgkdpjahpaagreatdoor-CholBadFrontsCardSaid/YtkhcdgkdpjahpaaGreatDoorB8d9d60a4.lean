/-
  Parts of the proof: Fw1, Fw2, Fw3, Fw4, Fw5, Fw6, Fw7, Fw8, Fw40, Fw41, Fw9, Fw10, Fw11, Fw12, Fw13, Fw14, Fw15, Fw16, Fw17, Fw18, Fw19, Fw20: the framework (Fw), pure forms (Dn), plain laws (Pl, Th), calls of functions (Ok).
-/
import Derived.Laws.AppendOwn
import Derived.ArgAppend
import Derived.Laws.IdiomCopy
import Derived.Laws.Cells
import Derived.Laws.MakeOwn
import Derived.Calls
import Derived.Orders
import Derived.Laws.Entries
import Derived.Maps.RangeRun

set_option linter.all false
set_option maxHeartbeats 1000000
theorem U{p:Prop}(h:p:=by omega):p:=h
theorem aa{p:Prop}(h:p:=by decide):p:=h
theorem ac{p:Prop}(h:p:=by simp):p:=h
abbrev ah:=@if_neg
abbrev ai:=@if_pos
abbrev aG:=@Option.bind_some
abbrev a2:=@Nat.le_refl
abbrev a9:=@List.getElem?_eq_getElem
abbrev bg:=@Nat.lt_or_ge
abbrev bp:=@Bool.and_eq_true
abbrev bA:=@List.getElem_mem
abbrev bE:=@Nat.zero_le
abbrev bS:=@Option.some.injEq
abbrev db:=@Int.toNat_natCast
abbrev de:=@List.mem_map
abbrev dh:=@Nat.le_trans
abbrev dm:=@List.take_of_length_le
abbrev dp:=@Option.bind_eq_some_iff
abbrev dx:=@List.mem_cons
abbrev dX:=@Int.le_of_lt
abbrev dZ:=@List.length_take
abbrev ee:=@Option.some.inj
abbrev er:=@Option.map_eq_some_iff
abbrev eF:=@Nat.eq_of_beq_eq_true
abbrev eH:=@Int.eq_ofNat_of_zero_le
abbrev eI:=@List.mem_singleton
abbrev eN:=@List.mem_append
abbrev eO:=@Nat.add_mul
abbrev eT:=@List.getElem?_eq_some_iff
abbrev eY:=@List.mem_filter
abbrev e3:=@Bool.not_true
abbrev e4:=@Nat.le_of_ble_eq_true
abbrev fd:=@List.all_eq_true
abbrev fe:=@List.mem_range
abbrev fk:=@List.mem_cons_of_mem
abbrev fr:=@List.map_cons
abbrev fu:=@Nat.min_eq_left
abbrev fB:=@List.getElem?_map
abbrev fC:=@List.mem_iff_getElem
abbrev fK:=@Bool.or_eq_true
abbrev fN:=@List.map_append
abbrev fP:=@Nat.mul_le_mul_right
abbrev ga:=@Option.map_some
abbrev gj:=@List.pairwise_iff_getElem
abbrev gk:=@Nat.eq_zero_or_pos
abbrev gm:=@Prod.mk.injEq
abbrev gu:=@List.cons.injEq
abbrev gE:=@List.length_map
abbrev gZ:=@Int.lt_or_le
abbrev g3:=@Int.mul_comm
abbrev g4:=@List.ext_getElem?
abbrev he:=@Nat.lt_of_lt_of_le
abbrev hf:=@Nat.pow_add
abbrev hA:=@Int.emod_add_mul_ediv
abbrev hC:=@List.nil_append
abbrev hD:=@Nat.one_mul
abbrev hR:=@List.getElem?_eq_none
abbrev hS:=@Nat.two_pow_pos
abbrev h3:=@List.map_congr_left
abbrev ij:=@Bool.not_false
abbrev il:=@Int.mul_le_mul_of_nonneg_left
abbrev im:=@List.length_cons
abbrev ip:=@List.length_filter_le
abbrev iq:=@List.nodup_append
abbrev ir:=@List.take_add_one
abbrev it:=@Nat.mul_le_mul
abbrev iB:=@Nat.mul_comm
abbrev iC:=@Option.bind_assoc
abbrev iO:=@List.getD_eq_getElem?_getD
abbrev iP:=@List.range_succ
abbrev ja:=@Int.natCast_mul
abbrev jb:=@List.cons_append
abbrev jc:=@List.filter_append
abbrev jd:=@List.filter_cons
abbrev je:=@List.mem_flatten
abbrev jg:=@Nat.zero_add
abbrev jy:=@Int.mul_assoc
abbrev jz:=@Int.pow_add
abbrev jA:=@List.getElem?_drop
abbrev jB:=@List.mem_cons_self
abbrev jC:=@List.nodup_cons
abbrev jD:=@Nat.pow_succ
abbrev jE:=@Option.getD_some
abbrev j3:=@List.flatten_cons
abbrev j4:=@List.getElem?_cons_zero
abbrev j5:=@List.length_drop
abbrev j6:=@Nat.add_zero
abbrev kB:=@List.append_nil
abbrev kT:=@Int.ediv_nonneg
abbrev kU:=@Int.mul_le_mul_of_nonneg_right
abbrev kV:=@List.getElem?_set_self
abbrev kW:=@List.take_append_drop
abbrev kX:=@Nat.lt_trichotomy
abbrev lv:=@List.drop_zero
abbrev lw:=@List.mem_append_right
abbrev lx:=@List.mem_of_getElem?
abbrev lW:=@Int.mul_nonneg
abbrev lX:=@List.eq_nil_of_length_eq_zero
abbrev lY:=@List.getElem?_replicate
abbrev lZ:=@List.getElem?_set_ne
abbrev l0:=@List.getElem?_take_of_lt
abbrev l1:=@Nat.div_add_mod
abbrev mF:=@Int.emod_nonneg
abbrev mG:=@List.append_assoc
abbrev mH:=@List.filter_eq_self
abbrev mI:=@List.pairwise_cons
abbrev mJ:=@Nat.zero_mul
abbrev nm:=@Array.getElem?_eq_some_iff
abbrev nq:=@Int.pow_pos
abbrev ns:=@List.any_eq_true
abbrev nt:=@List.getElem?_append_left
abbrev nu:=@List.length_replicate
abbrev nv:=@List.length_set
abbrev nw:=@List.mem_append_left
abbrev ny:=@List.take_length
abbrev n9:=@Bool.eq_iff_iff
abbrev oa:=@Int.ediv_eq_zero_of_lt
abbrev ob:=@Int.emod_lt_of_pos
abbrev oc:=@Int.mul_pos
abbrev og:=@List.drop_eq_nil_of_le
abbrev oh:=@List.getElem?_append_right
abbrev oi:=@List.length_append
abbrev oo:=@Nat.add_assoc
abbrev oq:=@Nat.add_sub_cancel_left
abbrev ot:=@Nat.mod_lt
abbrev ou:=@Nat.mul_assoc
abbrev ov:=@Nat.pow_le_pow_right
abbrev pk:=@Array.mem_append_right
abbrev pp:=@Int.ediv_lt_of_lt_mul
abbrev pq:=@List.drop_append_of_le_length
abbrev pt:=@List.drop_drop
abbrev pu:=@List.drop_of_length_le
abbrev pv:=@List.filter_cons_of_neg
abbrev pw:=@List.filter_cons_of_pos
abbrev px:=@List.filter_nil
abbrev py:=@List.getElem?_cons_succ
abbrev pA:=@List.getElem?_range
abbrev pB:=@List.length_nil
abbrev pC:=@Nat.beq_refl
abbrev pD:=@Nat.le_of_lt
abbrev qF:=@Int.emod_eq_of_lt
abbrev qG:=@Int.le_refl
abbrev qH:=@Int.natAbs_neg
abbrev qI:=@Int.natCast_ediv
abbrev qJ:=@Int.toNat_of_nonneg
abbrev qK:=@Int.zero_add
abbrev qL:=@List.flatten_append
abbrev qM:=@List.getElem?_set
abbrev qN:=@List.length_range
abbrev qO:=@List.map_nil
abbrev qP:=@List.size_toArray
abbrev sm:=@Int.add_zero
abbrev sn:=@Int.ediv_ediv_of_nonneg
abbrev so:=@Int.ediv_le_self
abbrev sp:=@Int.mul_lt_mul_of_pos_right
abbrev sq:=@Int.natAbs_natCast
abbrev sr:=@Int.zero_mul
abbrev ss:=@List.all_cons
abbrev su:=@List.count_append
abbrev sv:=@List.filter_congr
abbrev sw:=@List.getElem_map
abbrev sx:=@List.getElem_set_ne
abbrev sy:=@List.map_map
abbrev sz:=@List.pairwise_map
abbrev sA:=@List.perm_iff_count
abbrev sB:=@List.take_append_of_le_length
abbrev sC:=@Nat.div_le_self
abbrev uE:=@Array.replicate_succ
abbrev uF:=@Array.replicate_zero
abbrev uJ:=@Int.add_mul_ediv_left
abbrev uK:=@List.any_eq_false
abbrev uL:=@List.append_toArray
abbrev uM:=@List.getElem?_take
abbrev uN:=@List.length_eq_one_iff
abbrev uO:=@List.push_toArray
abbrev uQ:=@Nat.add_sub_cancel
abbrev uR:=@Nat.div_lt_of_lt_mul
abbrev uS:=@Nat.min_eq_right
abbrev uT:=@Nat.not_lt_zero
abbrev wH:=@Array.getElem?_eq_getElem
abbrev wI:=@Array.getElem?_modify
abbrev wJ:=@Array.getElem?_toList
abbrev wK:=@Bool.not_eq_true'
abbrev wQ:=@Int.add_mul_emod_self_left
abbrev wR:=@Int.tdiv_eq_ediv_of_nonneg
abbrev wT:=@List.append_of_mem
abbrev wU:=@List.filter_eq_nil_iff
abbrev wV:=@List.getElem_take
abbrev wW:=@List.map_toArray
abbrev wX:=@List.mem_toArray
abbrev zK:=@Array.getD_eq_getD_getElem?
abbrev zQ:=@Int.fdiv_eq_ediv_of_nonneg
abbrev zR:=@Int.lt_of_mul_lt_mul_left
abbrev zS:=@Int.tmod_eq_emod_of_nonneg
abbrev zT:=@List.getElem?_append
abbrev zU:=@List.length_pos_iff
abbrev zV:=@List.length_singleton
abbrev zW:=@List.mem_of_find?_eq_some
abbrev zX:=@List.singleton_append
abbrev zY:=@Nat.le_div_iff_mul_le
abbrev zZ:=@Nat.testBit_two_pow
abbrev z2:=@Option.isSome_some
abbrev DW:=@Array.getElem?_setIfInBounds_ne
abbrev DX:=@Classical.byContradiction
abbrev DZ:=@Int.mul_ediv_cancel_left
abbrev D3:=@List.drop_eq_getElem_cons
abbrev D4:=@List.length_eq_zero_iff
abbrev D6:=@Option.isSome_iff_exists
abbrev b4:=List (Int×(Int×(List Int×(Int×Unit))))×(Option (List (Int×(Int×(List Int×(Int×Unit)))))×Option (List Int)×Unit)×Unit
abbrev b6:=(List (List Int)×Unit)×List (Int×(Int×(List Int×(Int×Unit))))×Unit
abbrev b7:=List (Int×(Int×(List Int×(Int×Unit))))×(Option Int×Unit)×Unit
abbrev b8:=(List (List Int)×Unit)×(List (List Int)×Unit)×List Int×Unit
abbrev b9:=(Int×List Int×Unit)⊕((List Int×Unit)⊕(List Int×Bool×Unit))
abbrev ca:=(List Int×Unit)⊕((Int×List Int×Unit)⊕(Unit⊕(Int×Unit)))
abbrev cb:=Int×(List (List Int)×Unit)×(List (List Int)×Unit)×Unit
abbrev cc:=(List (List Int)×Unit)×(List (List Int)×Unit)×Unit
abbrev cd:=List Int×(Option (List (List Int)×Unit)×Unit)×Unit
abbrev cf:=(Int×Unit)⊕(Unit⊕((Int×Unit)⊕(Unit⊕(Int×Unit))))
abbrev cg:=Int×(List (List Int)×Unit)×List (List Bool)×Unit
abbrev ch:=List (Int×(Int×(List Int×(Int×Unit))))×Int×Unit
abbrev cj:=(List (List Int)×Unit)×List (List Bool)×Unit
abbrev ck:=Int×(List (List Bool)×(List Bool×Unit))×Unit
abbrev cl:=Unit⊕(Unit⊕((Int×Unit)⊕(Unit⊕(Int×Unit))))
abbrev cm:=(List (List Bool)×(List Bool×Unit))×Unit
abbrev cn:=(Int×List Bool×Unit)⊕(Unit⊕(Bool×Unit))
abbrev cp:=List (Int×(Int×(List Int×(Int×Unit))))
abbrev cq:=(Int×Int×Unit)⊕((Int×Unit)⊕(Int×Unit))
abbrev cr:=(Int×List Bool×Unit)⊕(List Bool×Unit)
abbrev cu:=(List (List Int)×Unit)×List Int×Unit
abbrev cw:=(List Int×Unit)⊕(List Int×Bool×Unit)
abbrev cx:=Unit⊕((Int×Unit)⊕(Unit⊕(Int×Unit)))
abbrev cy:=Int×(List Int×(List Int×Unit))×Unit
abbrev cA:=(Int×Int×Unit)⊕(Unit⊕(Bool×Unit))
abbrev cB:=List (List Bool)×(List Bool×Unit)
abbrev cC:=(List Int×(List Int×Unit))×Unit
abbrev cD:=(List (List Int)×Unit)×Int×Unit
abbrev cE:=Int×(Int×(List Int×(Int×Unit)))
abbrev cF:=(Int×Unit)⊕(Unit⊕(Bool×Unit))
abbrev cG:=(Int×Unit)⊕(Unit⊕(Int×Unit))
abbrev cH:=(List (List Int)×Unit)×Unit
abbrev cI:=Int×List (List Bool)×Unit
abbrev cJ:=Int×(List Int×(Int×Unit))
abbrev cK:=List Int×(List Int×Unit)
abbrev cL:=List (List Int)×Int×Unit
abbrev cM:=List (List Bool)×Unit
abbrev cN:=(Int×Unit)⊕(Int×Unit)
abbrev cO:=List (List Int)×Unit
abbrev cQ:=Int×List Bool×Unit
abbrev cR:=List Int×Bool×Unit
abbrev cS:=List Int×Int×Unit
abbrev cT:=Int×List Int×Unit
abbrev cU:=Nat×Nat×List Nat
abbrev cV:=Unit⊕(Bool×Unit)
abbrev cW:=Int×Int×Int×Unit
abbrev cX:=Unit⊕(Int×Unit)
abbrev cY:=List Bool×Unit
abbrev cZ:=Int×Bool×Unit
abbrev c0:=List Int×Unit
abbrev c3:=Bool×Int×Unit
abbrev c4:=Int×Int×Unit
abbrev c5:=Bool×Unit
abbrev c6:=Int×Unit
abbrev c7:=Nat×Nat
abbrev c8:=List (List Go.Value)
abbrev adQ:=Option (List Int)
abbrev adR:=List (Option Int)
abbrev adS:=List (List Bool)
abbrev adT:=List (List Nat)
abbrev adU:=List (List Int)
abbrev adV:=Option Go.Operand
abbrev adW:=Array Go.Value
abbrev adX:=List Go.TypeId
abbrev adY:=List Go.Value
abbrev adZ:=Option Int
abbrev ad0:=Option Nat
abbrev ad1:=List Bool
abbrev ad2:=Option c5
abbrev ad3:=Option c6
abbrev ad4:=List Nat
abbrev ad5:=List Int
abbrev ad6:=List c7
noncomputable section
namespace Go.h2
variable{a w H:TypeId}{b i:Operand}{c h N P:Nat}{e l:World}{g x:adY}{j:ad4}{m F W:Nat->Prop}{o:Nat->adY}{p:Nat->ad4}{r T:Option Addr}{s:Exit->Act->World->Prop}{t:Array MapEntry}{u:IntKind}{y:adW}{A G:Type}{D:Array (Nat×Operand)}{E:Value}{O:Program}{S:Int}{V:adT}
inductive dg where
 |bK
 |dt
 deriving DecidableEq
variable{f:dg->Nat->Prop}{Q:dg}
inductive aj where
 |int (k:IntKind)
 |bool
 |str
 |bb (m:dg) (t:aj)
 |ptr (m:dg) (t:aj)
 |osl (t:aj)
 |optr (t:aj)
 |st (t:aj)
 |pr (a b:aj)
 |nil
 |di
 |mp (t:aj)
 |dN (m:dg) (t:aj)
 deriving DecidableEq
variable{d q R:aj}{k:List (Nat×aj)}
def aj.size:aj->Nat
 |.pr a b=>a.size+b.size
 |.st c=>c.size
 |.nil|.di=>0
 |_=>1
@[reducible] def aj.den:aj->Type
 |.int _=>Int
 |.bool=>Bool
 |.str=>ByteArray
 |.bb _ a=>List a.den
 |.ptr _ a=>Option a.den
 |.osl a=>List a.den
 |.optr a=>a.den
 |.st a=>a.den
 |.pr b c=>b.den×c.den
 |.nil=>Unit
 |.di=>Unit
 |.mp a=>Option (List (Int×a.den)×Nat)
 |.dN _ a=>Option (List (Int×a.den)×Nat)
def jf {d:Type} (b:List (Int×Nat×d)) (c:List (Int×d)) (g:Nat):Prop:=
 c.Pairwise (λe f=>e.1<f.1)/\(b.map λa=>(a.1,a.2.2)).Perm c/\(b.map λa=>a.2.1).Nodup/\∀a∈b,a.2.1<g
def bO:aj->adY->Value
 |.st _,a=>.agg a.toArray
 |_,a=>a.headD undef
def dU (f:World) (c e:Nat) (d:adY):Prop:=∀a b,d[a]?=some b->f.cell? ⟨c,e+a,none⟩=some b
def h1 (c:World) (b e d:Nat):Prop:=∀a,e<=a->a<d->(c.cell? ⟨b,a,none⟩).isSome=true/\c.frozen? ⟨b,a,none⟩=false
def hL (d:World) (a:Nat):Option (Array MapEntry×Nat):=match d.heap[a]? with
 |some (.map c b)=>some (c,b)
 |_=>none
def bT (c d:World) (a:Nat):Prop:=(∀b,d.cell? ⟨a,b,none⟩=c.cell? ⟨a,b,none⟩/\d.frozen? ⟨a,b,none⟩=c.frozen? ⟨a,b,none⟩)/\hL d a=hL c a
def bT.refl (a:World) (b:Nat):bT a a b:=⟨λ_=>⟨rfl,rfl⟩,rfl⟩
theorem bT.of_heap (b:l.heap[c]?=e.heap[c]?):bT e l c:=
 ⟨λd=>⟨World.cell?_of_block (a:=⟨c,d,none⟩) b,World.frozen?_of_block (a:=⟨c,d,none⟩) b⟩,by grind [hL]⟩
def jv (j k:World) (d:Nat):Prop:=∀f b,hL j d=some (f,b)->∃g e,hL k d=some (g,e)/\b<=e/\∀(h:Nat) (a:MapEntry),g[h]?=some a->a.born<b->∃(i:Nat) (c:MapEntry),f[i]?=some c/\c.key=a.key/\c.born=a.born
def jv.of_eq (f:hL l c=hL e c):jv e l c:=
 λd a h=>⟨d,a,f.trans h,a2 _,λi b g _=>⟨i,b,g,rfl,rfl⟩⟩
def jv.refl (a:World) (b:Nat):jv a a b:=.of_eq rfl
def jv.of_heap {b c:World} {a:Nat} (d:c.heap[a]?=b.heap[a]?):jv b c a:=.of_eq (bT.of_heap d).2
theorem jv.trans {a:World} (h:jv e l c) (i:jv l a c):jv e a c:=λf b k=>by obtain⟨g,d,j,o,p⟩:=h f b k;obtain⟨n,m,q,r,s⟩:=i g d j;grind
def dU.eE (a:dU e c h g) (d:bT e l c):dU l c h g:=
 λf i b=>by rw[(d.1 _).1];exact a f i b
def h1.eE (b:h1 e c N h) (a:bT e l c):h1 l c N h:=
 λg d f=>by rw[(a.1 _).1,(a.1 _).2];exact b g d f
def aT (i:dg->Nat->Prop) (f:World):(A:aj)->adY->A.den->ad4->Prop
 |.int x,b,y,d=>d=[]/\b=[.int x y]
 |.bool,b,a,d=>d=[]/\b=[.bool a]
 |.str,b,z,d=>d=[]/\b=[.string z]
 |.bb s c,b,l,d=>d=[]/\∃k n,b=[.slice k l.length n]/\l.length<=n/\(k=none->n=0)/\(l=[]\/∃a h,k=some ⟨a,h,none⟩/\i s a/\∀j g,l[j]?=some g->∃e,e.length=c.size/\dU f a (h+j*c.size) e/\aT i f c e g [])
 |.ptr s c,b,g,d=>d=[]/\match g with
  |none=>b=[.pointer none]
  |some v=>∃a h e,b=[.pointer (some ⟨a,h,none⟩)]/\i s a/\e.length=c.size/\dU f a h e/\aT i f c e v []
 |.osl c,b,l,d=>∃k n,b=[.slice k l.length n]/\((
   k=none/\l=[]/\n=0/\d=[])\/∃(a h:Nat) (t:adT),k=some ⟨a,h,none⟩/\d=a::t.flatten/\t.length=l.length/\l.length<=n/\
   h1 f a h (h+n*c.size)/\∀j g r,l[j]?=some g->t[j]?=some r->∃e,e.length=c.size/\dU f a (h+j*c.size) e/\aT i f c e g r)
 |.optr c,b,v,d=>∃a h r e,b=[.pointer (some ⟨a,h,none⟩)]/\d=a::r/\e.length=c.size/\dU f a h e/\h1 f a h (h+c.size)/\aT i f c e v r
 |.st c,b,g,d=>aT i f c b g d
 |.pr k a,b,g,d=>∃w f2,d=w++f2/\aT i f k (b.take k.size) g.1 w/\aT i f a (b.drop k.size) g.2 f2
 |.nil,b,_,d=>d=[]/\b=[]
 |.di,b,_,_=>b=[]
 |.mp c,b,g,d=>match g with
  |none=>d=[]/\b=[.map none]
  |some (u,q)=>∃(a:Nat) (p:Array MapEntry) (o:List (Int×Nat×c.den)),b=[.map (some a)]/\d=[a]/\jf o u q/\hL f a=some (p,q)/\p.size=o.length/\∀(j:Nat) (m:Int×Nat×c.den),o[j]?=some m->∃e:adY,e.length=c.size/\p[j]?=some (MapEntry.mk (.int .i64 m.1) (bO c e) m.2.1)/\aT i f c e m.2.2 []
 |.dN s c,b,g,d=>match g with
  |none=>d=[]/\b=[.map none]
  |some (u,q)=>∃(a:Nat) (p:Array MapEntry) (o:List (Int×Nat×c.den)),b=[.map (some a)]/\d=[]/\jf o u q/\i s a/\hL f a=some (p,q)/\p.size=o.length/\∀(j:Nat) (m:Int×Nat×c.den),o[j]?=some m->∃e:adY,e.length=c.size/\p[j]?=some (MapEntry.mk (.int .i64 m.1) (bO c e) m.2.1)/\aT i f c e m.2.2 []
theorem aT.len {i:dg->Nat->Prop} {r:World}:∀{τ:aj} {e:adY} {b:τ.den} {l:ad4},aT i r τ e b l->e.length=τ.size
 |.int _,_,_,_,a=>by rw[a.2];rfl
 |.bool,_,_,_,a=>by rw[a.2];rfl
 |.str,_,_,_,a=>by rw[a.2];rfl
 |.bb _ _,_,_,_,a=>by obtain⟨_,c,g,a,_⟩:=a;rw[a];rfl
 |.ptr _ _,_,b,_,a=>by
  obtain⟨_,a⟩:=a;cases b with
  |none=>simp only at a;rw[a];rfl
  |some w=>obtain⟨d,v,j,a,_⟩:=a;rw[a];rfl
 |.osl _,_,_,_,a=>by obtain⟨c,g,a,_⟩:=a;rw[a];rfl
 |.optr _,_,_,_,a=>by obtain⟨c,g,s,j,a,_⟩:=a;rw[a];rfl
 |.st f,_,_,_,a=>aT.len (τ:=f) a
 |.pr c d,e,_,_,a=>by obtain⟨t,f2,_,m,n⟩:=a;have o:=aT.len (τ:=c) m;have p:=aT.len (τ:=d) n;simp only[dZ,j5] at o p;show e.length=c.size+d.size;omega
 |.nil,_,_,_,a=>by rw[a.2];rfl
 |.di,_,_,_,a=>by rw[show _=[] from a];rfl
 |.mp f,_,b,_,a=>by
  cases b with
  |none=>rw[a.2];rfl
  |some q=>obtain⟨d,k,h,a,_⟩:=a;rw[a];rfl
 |.dN u f,_,b,_,a=>by
  cases b with
  |none=>rw[a.2];rfl
  |some q=>obtain⟨d,k,h,a,_⟩:=a;rw[a];rfl
theorem aT.one {j:dg->Nat->Prop} {r:World}:∀{τ:aj} {cs:adY} {c:τ.den} {l:ad4},aT j r τ cs c l->∀e∈cs,e.oneCell'=true
 |.int _,_,_,_,a=>by rw[a.2];simp[Value.oneCell']
 |.bool,_,_,_,a=>by rw[a.2];simp[Value.oneCell']
 |.str,_,_,_,a=>by rw[a.2];simp[Value.oneCell']
 |.bb _ _,_,_,_,a=>by obtain⟨_,d,h,a,_⟩:=a;grind [Value.oneCell']
 |.ptr _ _,_,c,_,a=>by obtain⟨_,a⟩:=a;grind [Value.oneCell']
 |.osl _,_,_,_,a=>by obtain⟨d,h,a,_⟩:=a;grind [Value.oneCell']
 |.optr _,_,_,_,a=>by obtain⟨d,h,f,s,a,_⟩:=a;grind [Value.oneCell']
 |.st t,_,_,_,a=>aT.one (τ:=t) a
 |.pr d g,cs,_,_,a=>by
  obtain⟨u,f2,_,m,n⟩:=a;have o:=aT.one (τ:=d) m;have p:=aT.one (τ:=g) n;intro e b;rw[<-kW d.size cs] at b;rcases eN.1 b with b|b
  ·exact o e b
  exact p e b
 |.nil,_,_,_,a=>by rw[a.2];simp
 |.di,_,_,_,a=>by rw[show _=[] from a];simp
 |.mp t,_,c,_,a=>by
  cases c with
  |none=>rw[a.2];simp[Value.oneCell']
  |some q=>obtain⟨g,k,i,a,_⟩:=a;grind [Value.oneCell']
 |.dN v t,_,c,_,a=>by
  cases c with
  |none=>rw[a.2];simp[Value.oneCell']
  |some q=>obtain⟨g,k,i,a,_⟩:=a;grind [Value.oneCell']
theorem aT.mono {L M:dg->Nat->Prop} {A B:World} (d:∀j a,L j a->M j a/\bT A B a):∀{τ:aj} {E:adY} {g:τ.den} {w:ad4},aT L A τ E g w->(∀a∈w,bT A B a)->aT M B τ E g w
 |.int _,_,_,_,b,_=>b
 |.bool,_,_,_,b,_=>b
 |.str,_,_,_,b,_=>b
 |.bb j v,_,T,_,b,_=>by obtain⟨H,x,D,e,c,k,l⟩:=b;refine⟨H,x,D,e,c,k,l.imp id ?_⟩;rintro⟨a,u,J,i,K⟩;refine⟨a,u,J,(d j a i).1,λt g s=>?_⟩;obtain⟨h,n,o,p⟩:=K t g s;exact⟨h,n,o.eE (d j a i).2,aT.mono d p ac⟩
 |.ptr j v,_,g,_,b,_=>by
  obtain⟨H,b⟩:=b;refine⟨H,?_⟩;cases g with
  |none=>exact b
  |some U=>
   obtain⟨a,u,h,e,c,k,l,q⟩:=b;exact⟨a,u,h,e,(d j a c).1,k,l.eE (d j a c).2,aT.mono d q ac⟩
 |.osl v,_,T,w,b,f=>by obtain⟨x,D,e,c⟩:=b;refine⟨x,D,e,c.imp id ?_⟩;rintro⟨a,u,O,J,y,S,r,R,K⟩;have i:bT A B a:=f a (by grind);refine⟨a,u,O,J,y,S,r,R.eE i,λt g G s Q=>?_⟩;obtain⟨h,n,o,p⟩:=K t g G s Q;refine⟨h,n,o.eE i,aT.mono d p (λm r=>f m ?_)⟩;grind [List.mem_cons_of_mem,List.mem_flatten,List.mem_of_getElem?]
 |.optr v,_,_,_,b,f=>by obtain⟨a,u,G,h,e,c,k,l,q,P⟩:=b;have i:bT A B a:=f a (by grind);exact⟨a,u,G,h,e,c,k,l.eE i,q.eE i,aT.mono d P (λm r=>f m (by grind))⟩
 |.st v,_,_,_,b,f=>aT.mono (τ:=v) d b f
 |.pr x a,E,_,_,b,f=>by obtain⟨N,f2,y,e,c⟩:=b;exact⟨N,f2,y,aT.mono (τ:=x) d e (λm r=>f m (by rw[y];exact nw _ r)),aT.mono (τ:=a) d c (λm r=>f m (by rw[y];exact lw _ r))⟩
 |.nil,_,_,_,b,_=>b
 |.di,_,_,_,b,_=>b
 |.mp v,_,g,w,b,f=>by
  cases g with
  |none=>exact b
  |some z=>
   obtain⟨a,F,C,e,c,I,k,l,q⟩:=b;refine⟨a,F,C,e,c,I,(f a (by rw[c];simp)).2.trans k,l,λt z s=>?_⟩;obtain⟨h,n,o,p⟩:=q t z s;exact⟨h,n,o,aT.mono d p ac⟩
 |.dN j v,_,g,w,b,f=>by
  cases g with
  |none=>exact b
  |some z=>
   obtain⟨a,F,C,e,c,I,i,k,l,q⟩:=b;refine⟨a,F,C,e,c,I,(d j a i).1,(d j a i).2.2.trans k,l,λt z s=>?_⟩;obtain⟨h,n,o,p⟩:=q t z s;exact⟨h,n,o,aT.mono d p ac⟩
def aj.jq:aj->Bool
 |.di=>false
 |.bb _ a|.ptr _ a|.osl a|.optr a|.st a|.mp a|.dN _ a=>a.jq
 |.pr b c=>b.jq&&c.jq
 |_=>true
theorem aT.uniq {r:dg->Nat->Prop} {x:World}:∀{τ:aj} {p:adY} {e k:τ.den} {h u:ad4},τ.jq=true->aT r x τ p e h->aT r x τ p k u->h=u
 |.int _,_,_,_,_,_,_,a,b=>a.1.trans b.1.symm
 |.bool,_,_,_,_,_,_,a,b=>a.1.trans b.1.symm
 |.str,_,_,_,_,_,_,a,b=>a.1.trans b.1.symm
 |.bb _ _,_,_,_,_,_,_,a,b=>a.1.trans b.1.symm
 |.ptr _ _,_,_,_,_,_,_,a,b=>a.1.trans b.1.symm
 |.nil,_,_,_,_,_,_,a,b=>a.1.trans b.1.symm
 |.di,_,_,_,_,_,d,_,_=>by cases d
 |.dN F g,p,e,k,h,u,_,a,b=>by
  have am:∀{e:(aj.dN F g).den} {h:ad4},aT r x (.dN F g) p e h->h=[]:=λ{e h} a=>by
   cases e with
   |none=>exact a.1
   |some Q=>obtain⟨l,C,y,_,m,_⟩:=a;exact m
  grind
 |.mp g,_,e,k,_,_,_,a,b=>by
  cases e with
  |none=>
   cases k with
   |none=>exact a.1.trans b.1.symm
   |some R=>
    obtain⟨l,C,y,f,_⟩:=b;have:=a.2.symm.trans f;grind
  |some Q=>
   obtain⟨l,C,y,f,m,_⟩:=a;cases k with
   |none=>
    have:=f.symm.trans b.2;grind
   |some R=>
    obtain⟨A,an,W,i,D,_⟩:=b;grind
 |.st g,_,_,_,_,_,d,a,b=>aT.uniq (τ:=g) d a b
 |.pr z l,_,_,_,_,_,d,a,b=>by simp only[aj.jq,bp] at d;obtain⟨av,f2,rfl,f,m⟩:=a;obtain⟨a0,a3,rfl,E,v⟩:=b;rw[aT.uniq (τ:=z) d.1 f E,aT.uniq (τ:=l) d.2 m v]
 |.optr g,_,_,_,_,_,d,a,b=>by
  obtain⟨l,O,h,j,f,rfl,E,v,_,L⟩:=a;obtain⟨A,P,ap,n,i,rfl,a4,K,_,M⟩:=b;rw[f] at i;simp only[gu,Value.pointer.injEq,bS,Addr.mk.injEq,and_true] at i;obtain⟨rfl,rfl⟩:=i;obtain rfl:j=n:=by
   apply g4;intro c;rcases bg c j.length with w|w
   ·have ax:=v c j[c] (by grind);have S:=K c (n[c]'(by omega)) ac
    grind
   grind
  rw[aT.uniq (τ:=g) d L M]
 |.osl g,_,e,k,_,_,d,a,b=>by
  obtain⟨z,Y,f,m⟩:=a;obtain⟨X,Z,i,D⟩:=b;rw[f] at i;simp only[gu,Value.slice.injEq,and_true] at i;obtain⟨rfl,bd,rfl⟩:=i;rcases m with⟨rfl,rfl,rfl,rfl⟩|⟨l,O,s,rfl,rfl,ax,S,bB,T⟩
  ·grind
  rcases D with⟨q,_⟩|⟨A,P,t,q,rfl,bl,bs,ce,V⟩
  ·cases q
  simp only[bS,Addr.mk.injEq,and_true] at q;obtain⟨rfl,rfl⟩:=q;have:s=t:=by
   apply g4;intro c;rcases bg c e.length with w|w
   ·have al:s[c]?=some (s[c]'(by omega)):=a9 U
    have B:t[c]?=some (t[c]'(by omega)):=a9 U
    obtain⟨j,ab,G,I⟩:=T c e[c] _ (by grind) al;obtain⟨n,ad,H,J⟩:=V c (k[c]'(by omega)) _ ac B
    obtain rfl:j=n:=by
     apply g4;intro o;rcases bg o j.length with N|N
     ·have ci:=G o j[o] (by grind);have co:=H o (n[o]'(by omega)) ac
      grind
     grind
    rw[al,B,aT.uniq (τ:=g) d I J]
   grind
  grind
inductive a5 where
 |idx (i:Nat)
 |deref
 |unst
 |fst
 |snd
 deriving DecidableEq
variable{n:List a5}
def df:(τ:aj)->τ.den->List a5->(a:aj)->a.den->Prop
 |τ,d,[],a,b=>∃i:τ=a,i▸d=b
 |.osl e,k,.idx j::c,a,b=>∃f,k[j]?=some f/\df e f c a b
 |.optr e,d,.deref::c,a,b=>df e d c a b
 |.st e,d,.unst::c,a,b=>df e d c a b
 |.pr g _,d,.fst::c,a,b=>df g d.1 c a b
 |.pr _ h,d,.snd::c,a,b=>df h d.2 c a b
 |_,_,_,_,_=>False
def dK:(τ:aj)->τ.den->List a5->(a:aj)->a.den->τ.den->Prop
 |τ,_,[],a,b,e=>∃m:τ=a,m▸e=b
 |.osl g,j,.idx i::c,a,b,n=>∃h f,j[i]?=some h/\dK g h c a b f/\n=j.set i f
 |.optr g,d,.deref::c,a,b,e=>dK g d c a b e
 |.st g,d,.unst::c,a,b,e=>dK g d c a b e
 |.pr k _,d,.fst::c,a,b,e=>∃f,dK k d.1 c a b f/\e=(f,d.2)
 |.pr _ l,d,.snd::c,a,b,e=>∃f,dK l d.2 c a b f/\e=(d.1,f)
 |_,_,_,_,_,_=>False
theorem df.e1 {a:d.den} {b:q.den}:df d a [] q b↔∃c:d=q,c▸a=b:=by cases d<;>exact Iff.rfl
theorem dK.e1 {e a:d.den} {b:q.den}:dK d e [] q b a↔∃c:d=q,c▸a=b:=by cases d<;>exact Iff.rfl
abbrev Loc:=Option c7
variable{v:Loc}
def aW (k:World):(τ:aj)->Loc->adY->List a5->(a:aj)->Loc->adY->Prop
 |τ,i,b,[],a,d,c=>τ=a/\i=d/\b=c
 |.osl g,_,b,.idx m::f,a,d,c=>∃e j n p h,b=[.slice (some ⟨e,j,none⟩) n p]/\m<n/\h.length=g.size/\dU k e (j+m*g.size) h/\aW k g (some (e,j+m*g.size)) h f a d c
 |.optr g,_,b,.deref::f,a,d,c=>∃e j h,b=[.pointer (some ⟨e,j,none⟩)]/\h.length=g.size/\dU k e j h/\aW k g (some (e,j)) h f a d c
 |.st g,i,b,.unst::f,a,d,c=>aW k g i b f a d c
 |.pr l _,i,b,.fst::f,a,d,c=>aW k l i (b.take l.size) f a d c
 |.pr l e,i,b,.snd::f,a,d,c=>aW k e (i.map λo=>(o.1,o.2+l.size)) (b.drop l.size) f a d c
 |_,_,_,_,_,_,_=>False
theorem dU.eq (b:dU e c h g) (d:dU e c h x) (k:g.length=x.length):g=x:=by
 apply g4;intro a;rcases bg a g.length with f|f
 ·have i:=b a g[a] (by grind);have j:=d a (x[a]'(by omega)) ac
  grind
 grind
theorem aW.iF {w:World}:∀{p:List a5} {e:aj} {j:Loc} {f:adY} {u v:aj} {g h:Loc} {q r:adY},aW w e j f p u g q->aW w e j f p v h r->u=v/\g=h/\q=r
 |[],e,j,f,_,_,_,_,_,_,c,d=>by grind [aW]
 |s::p,e,j,f,_,_,_,_,_,_,c,d=>by
  cases e<;>cases s<;>simp only[aW] at c d
  case osl.idx t i=>
   obtain⟨m,A,E,C,y,al,_,g,k,n⟩:=c;obtain⟨x,B,F,D,z,b,_,h,l,o⟩:=d;rw[al] at b;simp only[gu,Value.slice.injEq,bS,Addr.mk.injEq,and_true] at b;obtain⟨⟨rfl,rfl⟩,rfl,rfl⟩:=b;obtain rfl:=k.eq l U;exact aW.iF n o
  case optr.deref t=>
   obtain⟨m,A,y,al,g,k,n⟩:=c;obtain⟨x,B,z,b,h,l,o⟩:=d;rw[al] at b;simp only[gu,Value.pointer.injEq,bS,Addr.mk.injEq,and_true] at b;obtain⟨rfl,rfl⟩:=b;obtain rfl:=k.eq l U;exact aW.iF n o
  case st.unst t=>exact aW.iF c d
  case pr.fst a m=>exact aW.iF c d
  case pr.snd a m=>exact aW.iF c d
def qE (c d:World) (f:Loc) (g:Nat) (b:Nat):Prop:=
 (∀a,(∀e,f=some (b,e)->a<e\/e+g<=a)->d.cell? ⟨b,a,none⟩=c.cell? ⟨b,a,none⟩)/\
 (∀a,d.frozen? ⟨b,a,none⟩=c.frozen? ⟨b,a,none⟩)/\(∀a,(d.cell? ⟨b,a,none⟩).isSome=(c.cell? ⟨b,a,none⟩).isSome)/\hL d b=hL c b
def qE.eE (a:qE e l v h c) (f:∀b,v≠some (c,b)):bT e l c:=
 ⟨λd=>⟨a.1 d (λb g=>absurd g (f b)),a.2.1 d⟩,a.2.2.2⟩
def qE.Kp (a:qE e l v P c) (f:h1 e c N h):h1 l c N h:=
 λg b d=>by rw[a.2.1,a.2.2.1];exact f g b d
def oj (c:World) (e:Loc) (d:adY) (f:Nat):Prop:=∀b a,e=some (b,a)->dU c b a d/\h1 c b a (a+f)
theorem dU.take {e:World} {b d h:Nat} {c:adY} (f:dU e b d c):dU e b d (c.take h):=λg i a=>by
 rw[uM] at a;split at a
 ·exact f g i a
 grind
theorem dU.drop {f:World} {b e a:Nat} {c:adY} (g:dU f b e c):dU f b (e+a) (c.drop a):=λh i d=>by rw[jA] at d;have:=g (a+h) i d;grind
theorem dU.append (d:dU e c h g) (f:dU e c (h+g.length) x):dU e c h (g++x):=λi b a=>by
 rw[zT] at a;split at a
 ·exact d i b a
 have:=f _ b a;grind
theorem Zr {a:List A} {d:A} (e:a[c]?=some d):∃b f,a=b++d::f/\b.length=c:=by obtain⟨g,rfl⟩:=eT.1 e;exact⟨a.take c,a.drop (c+1),by rw[List.getElem_cons_drop,kW],by grind⟩
theorem aW.eE {D:dg->Nat->Prop} {y C:World}:∀{x:List a5} {τ:aj} {u:Loc} {h:adY} {z:τ.den} {p:ad4} {A:aj} {v:Loc} {n:adY},aT D y τ h z p->(∀a∈p,bT y C a)->aW y τ u h x A v n->aW C τ u h x A v n
 |[],τ,_,_,_,_,_,_,_,_,_,b=>by cases τ<;>exact b
 |s::x,τ,u,h,z,p,A,v,n,g,d,b=>by
  cases τ<;>cases s<;>simp only[aW] at b
  case osl.idx t i=>
   obtain⟨a,w,V,F,o,rfl,N,q,f,r⟩:=b;obtain⟨m,Q,e,k⟩:=g;simp only[gu,Value.slice.injEq,and_true] at e;obtain⟨rfl,rfl,rfl⟩:=e;rcases k with⟨j,_⟩|⟨E,O,K,j,rfl,ax,W,X,P⟩
   ·cases j
   simp only[bS,Addr.mk.injEq,and_true] at j;obtain⟨rfl,rfl⟩:=j;obtain⟨I,R,G,H⟩:=P i z[i] (K[i]'(by omega)) (by grind) ac
   obtain rfl:=f.eq G U;exact⟨a,w,_,F,o,rfl,N,q,f.eE (d a ac),aW.eE H (λc l=>d c (fk _ (je.2 ⟨_,bA U,l⟩))) r⟩
  case optr.deref t=>
   obtain⟨a,w,o,rfl,q,f,r⟩:=b;obtain⟨E,O,S,I,B,rfl,T,L,_,M⟩:=g;simp only[gu,Value.pointer.injEq,bS,Addr.mk.injEq,and_true] at B;obtain⟨rfl,rfl⟩:=B;obtain rfl:=f.eq L U;exact⟨a,w,o,rfl,q,f.eE (d a ac),aW.eE M (λc l=>d c (by grind)) r⟩
  case st.unst t=>exact aW.eE (τ:=t) g d b
  case pr.fst m a=>
   obtain⟨J,f2,rfl,e,k⟩:=g;exact aW.eE (τ:=m) e (λc l=>d c (by grind)) b
  case pr.snd m a=>
   obtain⟨J,f2,rfl,e,k⟩:=g;exact aW.eE (τ:=a) k (λc l=>d c (by grind)) b
def nO:List a5->Bool
 |[]=>false
 |.idx _::_=>true
 |.deref::_=>true
 |_::a=>nO a
def fE:List a5->List a5->Bool
 |p,[]=>nO p
 |.idx _::p,.idx _::a=>fE p a
 |.deref::p,.deref::a=>fE p a
 |.unst::p,.unst::a=>fE p a
 |.fst::p,.fst::a=>fE p a
 |.snd::p,.snd::a=>fE p a
 |.fst::_,.snd::_=>true
 |.snd::_,.fst::_=>true
 |_,_=>false
theorem aW.mw {a:Loc}:aW e d v g [] q a x↔d=q/\v=a/\g=x:=by cases d<;>exact Iff.rfl
def jJ:List a5->List a5->Bool
 |.deref::a,.deref::b=>jJ a b
 |.unst::a,.unst::b=>jJ a b
 |.fst::a,.fst::b=>jJ a b
 |.snd::a,.snd::b=>jJ a b
 |.fst::_,.snd::_=>true
 |.snd::_,.fst::_=>true
 |_,_=>false
theorem tk (a:List a5):jJ [] a=false:=by cases a<;>rfl
theorem B3:∀{p q:List a5},jJ p q=true->fE p q=true
 |[],q,a=>by grind [tk]
 |s::p,[],a=>by cases s<;>cases a
 |s::p,b::q,a=>by cases s<;>cases b<;>first|(cases a;done)|exact B3 (p:=p) (q:=q) a|rfl
theorem tm:∀{p q:List a5} {τ:aj} {h j:τ.den} {k f:aj} {l:k.den} {i:f.den},jJ p q=true->dK τ h p k l j->df τ h q f i->df τ j q f i
 |[],q,_,_,_,_,_,_,_,d,_,_=>by grind [tk]
 |s::p,[],_,_,_,_,_,_,_,d,_,_=>by cases s<;>cases d
 |s::p,m::q,τ,h,j,k,f,l,i,d,c,e=>by
  cases τ<;>cases s<;>simp only[dK] at c<;>cases m<;>first|(cases d;done)|(simp only[df] at e;done)|skip
  case optr.deref.deref t=>exact tm (p:=p) (q:=q) (τ:=t) d c e
  case st.unst.unst t=>exact tm (p:=p) (q:=q) (τ:=t) d c e
  case pr.fst.fst a b=>
   obtain⟨g,c,rfl⟩:=c;exact tm (p:=p) (q:=q) (τ:=a) d c e
  case pr.snd.snd a b=>
   obtain⟨g,c,rfl⟩:=c;exact tm (p:=p) (q:=q) (τ:=b) d c e
  case pr.fst.snd a b=>
   obtain⟨g,c,rfl⟩:=c;exact e
  case pr.snd.fst a b=>
   obtain⟨g,c,rfl⟩:=c;exact e
theorem aT.sub {B:dg->Nat->Prop} {A:World}:∀{p:List a5} {τ:aj} {z:Loc} {o:adY} {m:τ.den} {q:ad4} {l:aj} {r:l.den} {y:Loc} {n:adY},aT B A τ o m q->df τ m p l r->aW A τ z o p l y n->∃d,aT B A l n r d/\∀b∈d,b∈q
 |[],τ,z,o,m,q,l,r,y,n,f,c,a=>by grind [aW.mw,df.e1]
 |s::p,τ,z,o,m,q,l,r,y,n,f,c,a=>by
  cases τ<;>cases s<;>simp only[df] at c<;>simp only[aW] at a
  case osl.idx t i=>
   obtain⟨J,D,c⟩:=c;obtain⟨G,Q,ab,W,I,e,u,L,v,a⟩:=a;obtain⟨T,V,rfl,f⟩:=f;rcases f with⟨_,rfl,_⟩|⟨F,P,C,rfl,rfl,Z,X,N,O⟩
   ·grind
   have Y:i<m.length:=(eT.1 D).1;obtain⟨d,E⟩:∃d,C[i]?=some d:=⟨C[i],a9 U⟩;obtain⟨H,M,w,x⟩:=O i J d D E;simp only[gu,Value.slice.injEq,bS,Addr.mk.injEq,and_true] at e;obtain⟨⟨rfl,rfl⟩,rfl,rfl⟩:=e;obtain rfl:=v.eq w U;obtain⟨g,j,k⟩:=aT.sub (p:=p) x c a;exact⟨g,j,λb h=>fk _ (je.2 ⟨d,lx E,k b h⟩)⟩
  case optr.deref t=>
   obtain⟨G,Q,I,e,L,v,a⟩:=a;obtain⟨F,P,d,H,rfl,rfl,M,w,N,x⟩:=f;simp only[gu,Value.pointer.injEq,bS,Addr.mk.injEq,and_true] at e;obtain⟨rfl,rfl⟩:=e;obtain rfl:=v.eq w U;obtain⟨g,j,k⟩:=aT.sub (p:=p) x c a;exact⟨g,j,λb h=>fk _ (k b h)⟩
  case st.unst t=>exact aT.sub (p:=p) (τ:=t) f c a
  case pr.fst R S=>
   obtain⟨K,f2,rfl,e,u⟩:=f;obtain⟨g,j,k⟩:=aT.sub (p:=p) e c a;exact⟨g,j,λb h=>nw _ (k b h)⟩
  case pr.snd R S=>
   obtain⟨K,f2,rfl,e,u⟩:=f;obtain⟨g,j,k⟩:=aT.sub (p:=p) u c a;exact⟨g,j,λb h=>lw _ (k b h)⟩
theorem yt:∀(Y:List a5) {τ:aj} {loc:Loc} {u:adY} {am:τ.den} {d9:ad4} {F:aj} {ic:F.den},aT f e τ u am d9->oj e loc u τ.size->d9.Nodup->(∀g d,loc=some (g,d)->g∉d9/\∀q,¬f q g)->(∀g∈d9,∀q,¬f q g)->df τ am Y F ic->∃y S av V,aW e τ loc u Y F y S/\aT f e F S ic av/\oj e y S F.size/\d9.Perm (av++V)/\(∀m h,y=some (m,h)->(∃d,loc=some (m,d)/\d<=h/\h+F.size<=d+τ.size)\/m∈V)/\(∀(
   s:World) (K:dg->Nat->Prop) (D:adY) (z:F.den) (W:ad4) (c1:τ.den),
   (∀q g,f q g->K q g)->(∀g,(∃q,f q g)\/g∈V\/(∃d,loc=some (g,d))->qE e s y F.size g)->
   aT K s F D z W->(y=none->Y≠[]->D=S)->(∀g d,y=some (g,d)->dU s g d D)->dK τ am Y F z c1->
   ∃n N,aT K s τ n c1 N/\(Y=[]->n=D)/\(loc=none->(y≠none\/D=S)->n=u)/\(∀g d,loc=some (g,d)->dU s g d n)/\N.Perm (W++V)/\aW s τ loc n Y F y D/\∀(c:List a5) (Q:aj) (P:Loc) (M:adY),fE Y c=true->aW e τ loc u c Q P M->aW s τ loc n c Q P M)/\
  (∀(c:List a5) (an:aj) (z:an.den) (ab:Loc) (co:adY) (f2:ad4),jJ Y c=true->an.jq=true->df τ am c an z->aW e τ loc u c an ab co->aT f e an co z f2->∀b∈f2,b∈V/\∀m h,y=some (m,h)->b≠m):=by
 intro Y
 induction Y with
 |nil=>
  intro τ loc u am d9 F ic d6 bB d4 X ce H;obtain⟨rfl,rfl⟩:=df.e1.1 H;refine⟨loc,u,d9,[],(by cases τ<;>exact⟨rfl,rfl,rfl⟩),d6,bB,ac,λm h a=>.inl ⟨h,a,U,U⟩,?_,λc _ _ _ _ _ a=>by grind [tk]⟩;intro s K D z W c1 _ _ A _ O B;obtain⟨_,rfl⟩:=dK.e1.1 B;exact⟨D,W,A,λ_=>rfl,λbs a=>a.resolve_left (λc=>c bs),O,ac,(by cases τ<;>exact⟨rfl,rfl,rfl⟩),λc _ _ _ o=>by grind [fE,nO]⟩
 |cons on Y gi=>
  intro τ loc u am d9 F ic d6 bB d4 X ce H;cases τ<;>cases on<;>simp only[df] at H
  case osl.idx t i=>
   obtain⟨ap,el,H⟩:=H;obtain⟨op,d8,rfl,d6⟩:=d6;rcases d6 with⟨_,rfl,_⟩|⟨g,d,f1,rfl,rfl,lp,nx,hs,jp⟩
   ·simp at el
   have i2:i<am.length:=(eT.1 el).1;obtain⟨f7,le⟩:∃f7,f1[i]?=some f7:=⟨f1[i],a9 U⟩;obtain⟨f4,is,fT,i0⟩:=jp i ap f7 el le;obtain⟨cv,ib,em,ol⟩:=Zr le;have pz:∀w,w<am.length->d+w*t.size+t.size<=d+d8*t.size:=λw o=>(by have:(w+1)*t.size<=d8*t.size:=fP _ U;grind);have f0:oj e (some (g,d+i*t.size)) f4 t.size:=(by rintro R r a;simp only[bS,gm] at a;obtain⟨rfl,rfl⟩:=a;exact⟨fT,λx l O=>hs x U (by grind)⟩);have i8:=d4;rw[em] at i8;simp only[qL,j3,jC,iq,eN,not_or] at i8;obtain⟨⟨nn,ft,no⟩,i3,⟨fn,f3,n5⟩,of⟩:=i8;obtain⟨y,S,av,V,dl,ds,d0,G,T,d1,ed⟩:=gi (loc:=some (g,d+i*t.size)) i0 f0 fn (by rintro R r a;simp only[bS,gm] at a;obtain⟨rfl,rfl⟩:=a;exact⟨ft,ce g ac⟩) (λb k=>ce b (by rw[em];simp[k])) H;refine⟨y,S,av,g::(cv.flatten++(V++ib.flatten)),⟨g,d,_,d8,f4,rfl,i2,is,fT,dl⟩,ds,d0,?_,?_,?_,λc _ _ _ _ _ a=>by cases c with|nil=>cases a|cons I c=>cases I<;>cases a⟩
   ·rw[em];simp only[qL,j3];rw[sA] at G|-;intro b;have:=G b;simp only[su,List.count_cons] at this|-;omega
   ·intro m h a;right;rcases T m h a with⟨r,l,_⟩|l
    ·simp only[bS,gm] at l;rw[l.1];simp
    simp[l]
   intro s K D z W c1 a3 v A d5 d2 B;simp only[dK] at B;obtain⟨mz,f5,lb,B,rfl⟩:=B;obtain rfl:mz=ap:=(by rw[el] at lb;exact(ee lb).symm);obtain⟨n,N,C,_,_,L,Z,d7,bl⟩:=d1 s K D z W f5 a3 (by
     rintro b (a|a|⟨r,a⟩)
     ·exact v b (.inl a)
     ·exact v b (.inr (.inl (by simp[a])))
     simp only[bS,gm] at a;exact v b (.inr (.inl (by rw[<-a.1];simp)))) A
    (by
     intro bs rd;exact d5 bs ac) d2 B
   have a4:∀m h,y=some (m,h)->(m=g/\d+i*t.size<=h/\h+F.size<=d+i*t.size+t.size)\/m∈f7:=by
    intro m h a;rcases T m h a with⟨r,l,O,hi⟩|l
    ·simp only[bS,gm] at l;omega
    exact .inr (G.mem_iff.2 (by simp[l]))
   have ek:=v g (.inr (.inl ac));have f9:∀q b,f q b->K q b/\bT e s b:=λq b k=>⟨a3 q b k,(v b (.inl ⟨q,k⟩)).eE (λr a=>by
    rcases a4 b r a with⟨rfl,_⟩|l
    ·exact ce b ac q k
    exact ce b (by rw[em];simp[l]) q k)⟩
   have lt:∀(w:Nat) (hc:t.den) (a0:ad4),w≠i->am[w]?=some hc->f1[w]?=some a0->∀c2:adY,c2.length=t.size->dU e g (d+w*t.size) c2->dU s g (d+w*t.size) c2/\∀b∈a0,bT e s b:=by
    intro w hc a0 ge o cs c2 hw go;have ra:w<am.length:=(eT.1 o).1;have i1:∀b∈a0,b∈cv.flatten\/b∈ib.flatten:=by
     intro b k;rw[em] at cs;rcases bg w cv.length with a|a
     ·rw[nt a] at cs;exact .inl (je.2 ⟨a0,lx cs,k⟩)
     rw[oh a] at cs;obtain⟨c,E⟩:∃c,w-cv.length=c+1:=⟨w-cv.length-1,U⟩;rw[E] at cs;simp only[py] at cs;exact .inr (je.2 ⟨a0,lx cs,k⟩)
    refine⟨?_,?_⟩
    ·intro x gv ex;have hv:x<c2.length:=(eT.1 ex).1;rw[ek.1]
     ·exact go x gv ex
     intro h a;rcases a4 g h a with⟨_,l,O⟩|l
     ·rcases Nat.lt_or_gt_of_ne ge with rb|ps
      ·left;have:(w+1)*t.size<=i*t.size:=fP _ U;rw[eO,hD] at this;omega
      right;have:(i+1)*t.size<=w*t.size:=fP _ U;rw[eO,hD] at this;omega
     exact absurd l ft
    intro b k;refine(v b (.inr (.inl ?_))).eE ?_
    ·rcases i1 b k with a|a<;>simp[a]
    intro h a;rcases a4 b h a with⟨rfl,_⟩|l
    ·rcases i1 b k with a|a
     ·exact nn a
     exact no a
    rcases i1 b k with a|a
    ·exact of b a b (.inl l) rfl
    exact n5 b l b a rfl
   refine⟨[.slice (some ⟨g,d,none⟩) am.length d8],g::(cv++N::ib).flatten,⟨some ⟨g,d,none⟩,d8,ac,.inr ⟨g,d,cv++N::ib,rfl,rfl,?_,by simpa using nx,ek.Kp hs,?_⟩⟩,ac,λ_ _=>rfl,?_,?_,⟨g,d,_,d8,n,rfl,i2,by rw[C.len],L g _ rfl,d7⟩,?_⟩
   ·rw[em] at lp;simpa using lp
   ·intro w hc a0 o H;by_cases ge:w=i
    ·subst ge;rw[kV i2] at o;obtain rfl:=ee o;rw[oh U,ol,Nat.sub_self] at H;simp only[j4,bS] at H;subst H;exact⟨n,by rw[C.len],L g _ rfl,C⟩
    rw[lZ (λa=>ge a.symm)] at o;have cs:f1[w]?=some a0:=by
     rw[em];rcases bg w cv.length with a|a
     ·rw[nt a] at H|-;exact H
     rw[oh a] at H|-;obtain⟨c,E⟩:∃c,w-cv.length=c+1:=⟨w-cv.length-1,U⟩;rw[E] at H|-;simpa using H
    obtain⟨c2,hw,go,kg⟩:=jp w hc a0 o cs;obtain⟨k0,la⟩:=lt w hc a0 ge o cs c2 hw go;exact⟨c2,hw,k0,kg.mono f9 la⟩
   ·intro R r a;have gc:=(X R r a).1;refine((bB R r a).1).eE ((v R (.inr (.inr ⟨r,a⟩))).eE ?_);intro h fs;rcases a4 R h fs with⟨rfl,_⟩|l
    ·exact gc ac
    exact gc (by rw[em];simp[l])
   ·rw[sA] at Z|-;intro b;have:=Z b;simp only[qL,j3,su,List.count_cons] at this|-;omega
   intro c Q P M o E;cases c with
   |nil=>exact E
   |cons I c=>
    cases I<;>simp only[fE] at o<;>first|(cases o;done)|skip
    rename_i x;obtain⟨R,r,rl,os,ii,l,O,hi,f8,hr⟩:=E;simp only[gu,Value.slice.injEq,bS,Addr.mk.injEq,and_true] at l;obtain⟨⟨rfl,rfl⟩,rfl,rfl⟩:=l;by_cases lo:x=i
    ·subst lo;obtain rfl:=f8.eq fT U;exact⟨g,d,_,d8,n,rfl,O,C.len,L g _ rfl,bl c Q P M o hr⟩
    have mo:am[x]?=some am[x]:=a9 O;have lk:f1[x]?=some (f1[x]'(by omega)):=a9 _
    obtain⟨c2,hw,go,kg⟩:=jp x _ _ mo lk;obtain rfl:=f8.eq go U;obtain⟨k0,la⟩:=lt x _ _ lo mo lk ii hi f8;exact⟨g,d,_,d8,ii,rfl,O,hi,k0,aW.eE kg la hr⟩
  case optr.deref t=>
   obtain⟨g,d,f7,f4,rfl,rfl,is,fT,hs,i0⟩:=d6;simp only[jC] at d4;obtain⟨pm,ok⟩:=d4;have f0:oj e (some (g,d)) f4 t.size:=(by rintro R r a;grind);obtain⟨y,S,av,V,dl,ds,d0,G,T,d1,ed⟩:=gi (loc:=some (g,d)) i0 f0 ok (by grind) (λb k=>ce b (by grind)) H;refine⟨y,S,av,g::V,⟨g,d,f4,rfl,is,fT,dl⟩,ds,d0,?_,?_,?_,?_⟩
   rotate_left 3
   ·intro c an z ab co f2 a fn d3 bd A b k;cases c with
    |nil=>cases a
    |cons I c=>
     cases I<;>first|(cases a;done)|skip
     simp only[aW] at bd;obtain⟨R,r,oN,al,pl,nd,bd⟩:=bd;simp only[gu,Value.pointer.injEq,bS,Addr.mk.injEq,and_true] at al;obtain⟨rfl,rfl⟩:=al;obtain rfl:=nd.eq fT U;obtain⟨ax,J⟩:=ed c an z ab co f2 a fn d3 bd A b k;exact⟨by simp[ax],J⟩
   ·rw[sA] at G|-;intro b;have:=G b;simp only[su,List.count_cons] at this|-;omega
   ·intro m h a;right;rcases T m h a with⟨r,l,_⟩|l
    ·simp only[bS,gm] at l;rw[l.1];simp
    simp[l]
   intro s K D z W c1 a3 v A d5 d2 B;simp only[dK] at B;obtain⟨n,N,C,_,_,L,Z,d7,bl⟩:=d1 s K D z W c1 a3 (by
     rintro b (a|a|⟨r,a⟩)
     ·exact v b (.inl a)
     ·exact v b (.inr (.inl (by simp[a])))
     simp only[bS,gm] at a;exact v b (.inr (.inl (by rw[<-a.1];simp)))) A
    (λbs _=>d5 bs ac) d2 B
   have ek:=v g (.inr (.inl ac));refine⟨[.pointer (some ⟨g,d,none⟩)],g::N,⟨g,d,N,n,rfl,rfl,C.len,L g d rfl,ek.Kp hs,C⟩,ac,λ_ _=>rfl,?_,?_,⟨g,d,n,rfl,C.len,L g d rfl,d7⟩,?_⟩
   ·intro R r a;have gc:=(X R r a).1;refine((bB R r a).1).eE ((v R (.inr (.inr ⟨r,a⟩))).eE ?_);intro h fs;rcases T R h fs with⟨mt,l,_⟩|l
    ·simp only[bS,gm] at l;exact gc (by rw[l.1];simp)
    exact gc (fk _ (G.mem_iff.2 (by simp[l])))
   ·rw[sA] at Z|-;intro b;have:=Z b;simp only[su,List.count_cons] at this|-;omega
   intro c Q P M o E;cases c with
   |nil=>exact E
   |cons I c=>
    cases I<;>simp only[fE] at o<;>first|(cases o;done)|skip
    obtain⟨R,r,ii,l,hi,f8,hr⟩:=E;simp only[gu,Value.pointer.injEq,bS,Addr.mk.injEq,and_true] at l;obtain⟨rfl,rfl⟩:=l;obtain rfl:=f8.eq fT U;exact⟨g,d,n,rfl,C.len,L g d rfl,bl c Q P M o hr⟩
  case st.unst t=>
   obtain⟨y,S,av,V,dl,ds,d0,G,T,d1,ed⟩:=gi (loc:=loc) (τ:=t) d6 bB d4 X ce H;refine⟨y,S,av,V,dl,ds,d0,G,T,?_,?_⟩
   rotate_left 1
   ·intro c an z ab co f2 a fn d3 bd A b k;cases c with
    |nil=>cases a
    |cons I c=>
     cases I<;>first|(cases a;done)|skip
     exact ed c an z ab co f2 a fn d3 bd A b k
   intro s K D z W c1 a3 v A d5 d2 B;obtain⟨n,N,C,rg,gl,L,Z,d7,bl⟩:=d1 s K D z W c1 a3 v A (λbs _=>d5 bs ac) d2 B;refine⟨n,N,C,ac,gl,L,Z,d7,?_⟩;intro c Q P M o E;cases c with
   |nil=>
    obtain⟨rfl,rfl,rfl⟩:=aW.mw.1 E;obtain⟨_,_,ap⟩:=aW.mw.1 (bl [] t loc u (by simpa[fE,nO] using o) (aW.mw.2 ⟨rfl,rfl,rfl⟩));exact aW.mw.2 ⟨rfl,rfl,ap⟩
   |cons I c=>
    cases I<;>simp only[fE] at o<;>first|(cases o;done)|skip
    exact bl c Q P M o E
  case pr.fst j ci=>
   obtain⟨fp,f2,rfl,l,O⟩:=d6;have kd:=l.len;have ab:=O.len;simp only[dZ,j5] at kd ab;have f0:oj e loc (u.take j.size) j.size:=λg d a=>⟨(bB g d a).1.take,λx ax J=>(bB g d a).2 x ax (by show x<d+(j.size+ci.size);omega)⟩;simp only[iq] at d4;obtain⟨i3,fn,f3⟩:=d4;obtain⟨y,S,av,V,dl,ds,d0,G,T,d1,ed⟩:=gi (loc:=loc) l f0 i3 (λg d a=>⟨λc=>(X g d a).1 (by simp[c]),(X g d a).2⟩) (λb k=>ce b (by grind)) H;refine⟨y,S,av,V++f2,dl,ds,d0,?_,?_,?_,?_⟩
   rotate_left 3
   ·intro c an z ab co io a gf d3 bd A b k;cases c with
    |nil=>cases a
    |cons I c=>
     cases I<;>first|(cases a;done)|skip
     ·obtain⟨ax,J⟩:=ed c an z ab co io a gf d3 bd A b k;exact⟨by simp[ax],J⟩
     obtain⟨a0,C,L⟩:=aT.sub (p:=c) O d3 bd;have fz:b∈f2:=L b (by rw[<-aT.uniq gf A C];exact k);refine⟨by simp[fz],λm h el ap=>?_⟩;subst ap;rcases T b h el with⟨r,al,_⟩|al
     ·exact(X b r al).1 (by simp[fz])
     exact f3 b (G.mem_iff.2 (by simp[al])) b fz rfl
   ·rw[sA] at G|-;intro b;have:=G b;simp only[su] at this|-;omega
   ·intro m h a;rcases T m h a with⟨r,ax,J,gs⟩|ax
    ·exact .inl ⟨r,ax,J,by show h+F.size<=r+(j.size+ci.size);omega⟩
    exact .inr (by simp[ax])
   intro s K D z W c1 a3 v A d5 d2 B;simp only[dK] at B;obtain⟨f5,B,rfl⟩:=B;obtain⟨n,N,C,_,gl,L,Z,d7,bl⟩:=d1 s K D z W f5 a3 (by
     rintro b (a|a|a)
     ·exact v b (.inl a)
     ·exact v b (.inr (.inl (by simp[a])))
     exact v b (.inr (.inr a))) A (λbs _=>d5 bs ac) d2 B
   have a4:∀m h,y=some (m,h)->(∃d,loc=some (m,d)/\d<=h/\h+F.size<=d+j.size)\/m∈fp:=λm h a=>(T m h a).imp id (λc=>G.mem_iff.2 (by simp[c]));have f9:∀q b,f q b->K q b/\bT e s b:=λq b k=>⟨a3 q b k,(v b (.inl ⟨q,k⟩)).eE (λr a=>by
    rcases a4 b r a with⟨d,c,_⟩|c
    ·exact(X b d c).2 q k
    exact ce b (by simp[c]) q k)⟩
   have mc:∀b∈f2,bT e s b:=λb k=>(v b (.inr (.inl (by simp[k])))).eE (λh a=>by
    rcases a4 b h a with⟨d,c,_⟩|c
    ·exact(X b d c).1 (by simp[k])
    exact f3 b c b k rfl)
   have mp:=C.len;refine⟨n++u.drop j.size,N++f2,⟨N,f2,rfl,?_,?_⟩,ac,?_,?_,?_,(by
    show aW s j loc ((n++u.drop j.size).take j.size) Y F y D;rw[sB U,dm U];exact d7),?_⟩
   ·rw[sB U,dm U];exact C
   ·rw[pq U,pu U,hC];exact O.mono f9 mc
   ·intro ax J;rw[gl ax J,kW]
   ·intro g d a;refine(L g d a).append ?_;rw[mp];intro x gv ex;have ek:=v g (.inr (.inr ⟨d,a⟩));have hv:x<(u.drop j.size).length:=(eT.1 ex).1;simp only[j5] at hv;rw[ek.1]
    ·exact((bB g d a).1.drop) x gv ex
    intro h fs;rcases a4 g h fs with⟨mt,ax,J,gs⟩|c
    ·rw[a] at ax;simp only[bS,gm,true_and] at ax;omega
    exact absurd (by simp[c]) (X g d a).1
   ·rw[sA] at Z|-;intro b;have:=Z b;simp only[su] at this|-;omega
   intro c Q P M o E;have al:(n++u.drop j.size).take j.size=n:=(by rw[sB U,dm U]);have f6:(n++u.drop j.size).drop j.size=u.drop j.size:=(by rw[pq U,pu U,hC]);cases c with
   |nil=>
    obtain⟨rfl,rfl,rfl⟩:=aW.mw.1 E;obtain⟨_,_,ap⟩:=aW.mw.1 (bl [] j loc (u.take j.size) (by simpa[fE,nO] using o) (aW.mw.2 ⟨rfl,rfl,rfl⟩));exact aW.mw.2 ⟨rfl,rfl,by rw[ap,kW]⟩
   |cons I c=>
    cases I<;>simp only[fE] at o<;>first|(cases o;done)|skip
    ·show aW s j loc ((n++u.drop j.size).take j.size) c Q P M;rw[al];exact bl c Q P M o E
    show aW s ci (loc.map λc=>(c.1,c.2+j.size)) ((n++u.drop j.size).drop j.size) c Q P M;rw[f6];exact aW.eE O mc E
  case pr.snd j ci=>
   obtain⟨fp,f2,rfl,l,O⟩:=d6;have kd:=l.len;have ab:=O.len;simp only[dZ,j5] at kd ab;have f0:oj e (loc.map λc=>(c.1,c.2+j.size)) (u.drop j.size) ci.size:=by
    intro g d a;cases loc with
    |none=>grind
    |some c=>
     obtain⟨or,ad⟩:=c;simp only[ga,bS,gm] at a;obtain⟨rfl,rfl⟩:=a;exact⟨(bB _ _ rfl).1.drop,λx ax J=>(bB _ _ rfl).2 x U (by show x<ad+(j.size+ci.size);omega)⟩
   simp only[iq] at d4;obtain⟨i3,fn,f3⟩:=d4;have ft:∀g d,(loc.map λc=>(c.1,c.2+j.size))=some (g,d)->∃ad,loc=some (g,ad)/\d=ad+j.size:=by
    intro g d a;cases loc with
    |none=>grind
    |some c=>
     grind
   obtain⟨y,S,av,V,dl,ds,d0,G,T,d1,ed⟩:=gi (loc:=loc.map λc=>(c.1,c.2+j.size)) O f0 fn (λg d a=>by grind) (λb k=>ce b (by grind)) H;refine⟨y,S,av,V++fp,dl,ds,d0,?_,?_,?_,?_⟩
   rotate_left 3
   ·intro c an z ab co io a gf d3 bd A b k;cases c with
    |nil=>cases a
    |cons I c=>
     cases I<;>first|(cases a;done)|skip
     ·obtain⟨a0,C,L⟩:=aT.sub (p:=c) l d3 bd;have fz:b∈fp:=L b (by rw[<-aT.uniq gf A C];exact k);refine⟨by simp[fz],λm h el ap=>?_⟩;subst ap;rcases T b h el with⟨r,al,_⟩|al
      ·obtain⟨ad,f6,_⟩:=ft _ _ al;exact(X b ad f6).1 (by simp[fz])
      exact f3 b fz b (G.mem_iff.2 (by simp[al])) rfl
     obtain⟨ax,J⟩:=ed c an z ab co io a gf d3 bd A b k;exact⟨by simp[ax],J⟩
   ·rw[sA] at G|-;intro b;have:=G b;simp only[su] at this|-;omega
   ·intro m h a;rcases T m h a with⟨r,ax,J,gs⟩|ax
    ·obtain⟨ad,gt,rfl⟩:=ft _ _ ax;exact .inl ⟨ad,gt,U,by show h+F.size<=ad+(j.size+ci.size);omega⟩
    exact .inr (by simp[ax])
   intro s K D z W c1 a3 v A d5 d2 B;simp only[dK] at B;obtain⟨f5,B,rfl⟩:=B;obtain⟨n,N,C,_,gl,L,Z,d7,bl⟩:=d1 s K D z W f5 a3 (by
     rintro b (a|a|⟨d,a⟩)
     ·exact v b (.inl a)
     ·exact v b (.inr (.inl (by simp[a])))
     obtain⟨ad,gt,rfl⟩:=ft _ _ a;exact v b (.inr (.inr ⟨ad,gt⟩))) A (λbs _=>d5 bs ac) d2 B
   have a4:∀m h,y=some (m,h)->(∃d,loc=some (m,d)/\d+j.size<=h/\h+F.size<=d+j.size+ci.size)\/m∈f2:=λm h a=>by
    rcases T m h a with⟨r,ax,J,gs⟩|c
    ·obtain⟨ad,gt,rfl⟩:=ft _ _ ax;exact .inl ⟨ad,gt,J,gs⟩
    exact .inr (G.mem_iff.2 (by simp[c]))
   have f9:∀q b,f q b->K q b/\bT e s b:=λq b k=>⟨a3 q b k,(v b (.inl ⟨q,k⟩)).eE (λr a=>by
    rcases a4 b r a with⟨d,c,_⟩|c
    ·exact(X b d c).2 q k
    exact ce b (by simp[c]) q k)⟩
   have l2:∀b∈fp,bT e s b:=λb k=>(v b (.inr (.inl (by simp[k])))).eE (λh a=>by
    rcases a4 b h a with⟨d,c,_⟩|c
    ·exact(X b d c).1 (by simp[k])
    exact f3 b k b c rfl)
   have mp:=C.len;refine⟨u.take j.size++n,fp++N,⟨fp,N,rfl,?_,?_⟩,ac,?_,?_,?_,(by
    show aW s ci (loc.map λc=>(c.1,c.2+j.size)) ((u.take j.size++n).drop j.size) Y F y D;rw[pq (by simp;omega),pu (by simp;omega),hC];exact d7),?_⟩
   ·rw[sB (by simp;omega),List.take_take,Nat.min_self];exact l.mono f9 l2
   ·rw[pq (by simp;omega),pu (by simp;omega),hC];exact C
   ·intro ax J;rw[gl (by rw[ax];rfl) J,kW]
   ·intro g d a;have ek:=v g (.inr (.inr ⟨d,a⟩));have ne:dU s g d (u.take j.size):=by
     intro x gv ex;have hv:x<(u.take j.size).length:=(eT.1 ex).1;simp only[dZ] at hv;rw[ek.1]
     ·exact((bB g d a).1.take) x gv ex
     intro h fs;rcases a4 g h fs with⟨mt,ax,J,gs⟩|c
     ·rw[a] at ax;simp only[bS,gm,true_and] at ax;omega
     exact absurd (by simp[c]) (X g d a).1
    refine ne.append ?_;have:=L g (d+j.size) (by rw[a];rfl);rwa[dZ,fu U]
   ·rw[sA] at Z|-;intro b;have:=Z b;simp only[su] at this|-;omega
   intro c Q P M o E;have al:(u.take j.size++n).take j.size=u.take j.size:=(by rw[sB (by simp;omega),List.take_take,Nat.min_self]);have f6:(u.take j.size++n).drop j.size=n:=(by rw[pq (by simp;omega),pu (by simp;omega),hC]);cases c with
   |nil=>
    obtain⟨rfl,rfl,rfl⟩:=aW.mw.1 E;obtain⟨_,_,ap⟩:=aW.mw.1 (bl [] ci (loc.map λc=>(c.1,c.2+j.size)) (u.drop j.size) (by simpa[fE,nO] using o) (aW.mw.2 ⟨rfl,rfl,rfl⟩));exact aW.mw.2 ⟨rfl,rfl,by rw[ap,kW]⟩
   |cons I c=>
    cases I<;>simp only[fE] at o<;>first|(cases o;done)|skip
    ·show aW s j loc ((u.take j.size++n).take j.size) c Q P M;rw[al];exact aW.eE l l2 E
    show aW s ci (loc.map λc=>(c.1,c.2+j.size)) ((u.take j.size++n).drop j.size) c Q P M;rw[f6];exact bl c Q P M o E
theorem Ck (i:List a5) {loc:Loc} {u:d.den} {τ':aj} {y:τ'.den} (D:aT f e d g u j) (E:oj e loc g d.size) (F:j.Nodup) (G:∀a b,loc=some (a,b)->a∉j/\∀h,¬f h a) (H:∀a∈j,∀h,¬f h a) (I:df d u i τ' y):∃c l r o,aW e d loc g i τ' c l/\aT f e τ' l y r/\oj e c l τ'.size/\j.Perm (r++o)/\(∀q s,c=some (q,s)->(∃b,loc=some (q,b)/\b<=s/\s+τ'.size<=b+d.size)\/q∈o)/\(∀(
   k:World) (p:dg->Nat->Prop) (m:adY) (B:τ'.den) (w:ad4) (A:d.den),
   (∀h a,f h a->p h a)->(∀a,(∃h,f h a)\/a∈o\/(∃b,loc=some (a,b))->qE e k c τ'.size a)->
   aT p k τ' m B w->(c=none->i≠[]->m=l)->(∀a b,c=some (a,b)->dU k a b m)->dK d u i τ' B A->
   ∃n x,aT p k d n A x/\(i=[]->n=m)/\(loc=none->(c≠none\/m=l)->n=g)/\(∀a b,loc=some (a,b)->dU k a b n)/\x.Perm (w++o)/\aW k d loc n i τ' c m/\∀(t:List a5) (C:aj) (z:Loc) (v:adY),fE i t=true->aW e d loc g t C z v->aW k d loc n t C z v):=by
 obtain⟨c,l,r,o,J,K,L,M,N,O,_⟩:=yt i D E F G H I;grind
def bj (a c:Nat->Prop):dg->Nat->Prop
 |.bK=>a
 |.dt=>λb=>a b\/c b
theorem mq (a:bj F m Q c):F c\/m c:=by cases Q;exact .inl a;exact a
inductive ao where
 |dead
 |val (τ:aj) (x:τ.den)
 |ref (id:Nat) (p:List a5)
 |addr (id:Nat) (p:List a5)
 |view (id:Nat) (p:List a5) (lo hi:Nat)
 |app (id:Nat) (p:List a5) (τ:aj) (zI:List τ.den) (own:ad4)
 |cv (v:Value)
 |dM (l:List ao)
 |agg (l:List ao)
 |dv (f:Nat) (l:List ao)
 |jL (id:Nat) (p:List a5) (k:Int)
variable{L:ao}{M:List (Nat×ao)}
abbrev aH:=(a:aj)×a.den
variable{z:List (Nat×aH)}{C:aH}
structure aQ where
 g:List (Nat×ao)
 h:List (Nat×aH)
variable{B:aQ}
def au {a:Type}:List (Nat×a)->Nat->Option a
 |[],_=>none
 |(k,v)::r,n=>bif Nat.beq k n then some v else au r n
def b1 (b:Nat) (e:A) (d:List (Nat×A)) (a:Nat):au ((b,e)::d) a=if b=a then some e else au d a:=by
 show(bif Nat.beq b a then some e else au d a)=_;by_cases c:b=a
 ·rw[ai c,c];simp
 rw[ah c];have:Nat.beq b a=false:=by
  cases f:Nat.beq b a
  ·rfl
  exact absurd (eF f) c
 rw[this];rfl
def gt (a:List (Nat×ao)) (b:Nat):ao:=match au a b with|some c=>c|none=>.dead
structure dD where
 I0:Nat->Prop
 B:Nat->Prop
 F0:Nat->Prop
 w0:World
 n:Nat
 pin:ad4
 vs:Nat->Value
variable{I:dD}
def dD.ok (a:dD) (d:Nat):Prop:=d<a.n/\d∉a.pin
inductive bL (M:dg->Nat->Prop) (w:World) (h:List (Nat×aH)) (rt:Nat->adY) (fp:Nat->ad4):ao->Value->Prop
 |dead (v:Value):bL M w h rt fp .dead v
 |cv (v:Value):bL M w h rt fp (.cv v) v
 |val {τ:aj} {x:τ.den} {cs:adY} (r:aT M w τ cs x []):bL M w h rt fp (.val τ x) (bO τ cs)
 |ref {id:Nat} {p:List a5} {t:aH} {τ':aj} {loc:Loc} {cs:adY} (tF:au h id=some t) (Ct:aW w t.1 none (rt id) p τ' loc cs):bL M w h rt fp (.ref id p) (bO τ' cs)
 |addr {id:Nat} {p:List a5} {t:aH} {τ':aj} {b o:Nat} {cs:adY} (tF:au h id=some t) (Ct:aW w t.1 none (rt id) p τ' (some (b,o)) cs):bL M w h rt fp (.addr id p) (.pointer (some ⟨b,o,none⟩))
 |view {id:Nat} {p:List a5} {lo hi:Nat} {t:aH} {τ':aj} {loc:Loc} {b o len cap:Nat} (tF:au h id=some t) (Ct:aW w t.1 none (rt id) p (.osl τ') loc [.slice (some ⟨b,o,none⟩) len cap]) (Tb:lo<=hi) (Tc:hi<=len) (aaP:len<=cap):bL M w h rt fp (.view id p lo hi) (.slice (some ⟨b,if cap=lo then o else o+lo*τ'.size,none⟩) (hi-lo) (cap-lo))
 |kR (id:Nat) (p:List a5):bL M w h rt fp (.view id p 0 0) (.slice none 0 0)
 |app {id:Nat} {p:List a5} {τ:aj} {zI:List τ.den} {own:ad4} {t:aH} {loc:Loc} {xb:adY} {xs:List τ.den} {f1 f2:ad4} {v:Value} (tF:au h id=some t) (aaU:τ.jq=true) (Ct:aW w t.1 none (rt id) p (.osl τ) loc xb) (aaS:df t.1 t.2 p (.osl τ) xs) (Tb:aT M w (.osl τ) xb xs f1) (aaR:∀b∈f1,b∈fp id) (Tc:aT M w (.osl τ) [v] (xs++zI) f2) (aaW:∀i∈own,i≠id/\∃u,au h i=some u) (aaX:∀b∈f2,b∈f1\/∃i∈own,b∈fp i) (aaV:f2.Nodup):bL M w h rt fp (.app id p τ zI own) v
 |dM {l:List ao} {vs:adW} (KG:l.length=vs.size) (Cs:∀(i:Nat) (a:ao) (v:Value),l[i]?=some a->vs[i]?=some v->bL M w h rt fp a v):bL M w h rt fp (.dM l) (.tuple vs)
 |agg {l:List ao} {vs:adY} (KG:l.length=vs.length) (Cs:∀(i:Nat) (a:ao) (v:Value),l[i]?=some a->vs[i]?=some v->bL M w h rt fp a v):bL M w h rt fp (.agg l) (.agg (vs.map λv=>v.cells.toList).flatten.toArray)
 |jL {id:Nat} {p:List a5} {k:Int} {t:aH} {τ':aj} {loc:Loc} {b c i:Nat} {dC:Array MapEntry} {e:MapEntry} (tF:au h id=some t) (Ct:aW w t.1 none (rt id) p (.mp τ') loc [.map (some b)]) (aaQ:b∈fp id) (KH:hL w b=some (dC,c)) (hi:dC[i]?=some e) (aaT:e.key=.int .i64 k):bL M w h rt fp (.jL id p k) (.int .i64 (e.born:Int))
 |dv {f:Nat} {l:List ao} {vs:adW} (KG:l.length=vs.size) (Cs:∀(i:Nat) (a:ao) (v:Value),l[i]?=some a->vs[i]?=some v->bL M w h rt fp a v):bL M w h rt fp (.dv f l) (.func (.func f) #[] vs)
structure bC (C:dD) (st:aQ) (HJ:adW) (w:World) (I:Nat->Prop) (rt:Nat->adY) (fp:Nat->ad4):Prop where
 n:HJ.size=C.n
 i0:∀b,C.I0 b->I b
 i1:∀b,I b->C.I0 b\/C.w0.heap.size<=b\/C.F0 b
 ib:∀b,I b\/C.B b->b<w.heap.size
 tree:∀id t,au st.h id=some t->aT (bj I C.B) w t.1 (rt id) t.2 (fp id)/\(fp id).Nodup/\∀b∈fp id,¬I b/\¬C.B b/\b<w.heap.size/\(C.w0.heap.size<=b\/C.F0 b)
 dis:∀i j t u,au st.h i=some t->au st.h j=some u->i≠j->∀b∈fp i,b∉fp j
 tmp:∀k,bL (bj I C.B) w st.h rt fp (gt st.g k) (HJ.getD k undef)
 frame:∀b,b<C.w0.heap.size->¬C.F0 b->w.heap[b]?=C.w0.heap[b]?
 evo:∀b,b<C.w0.heap.size->jv C.w0 w b
 size:C.w0.heap.size<=w.heap.size
 os:w.os=C.w0.os
 tape:w.tape=C.w0.tape
 output:w.output=C.w0.output
 pin:∀k∈C.pin,HJ.getD k undef=C.vs k
def ff (a:dD) (e:aQ) (f:adW) (g:World):Prop:=∃b d c,bC a e f g b d c
structure gQ (w w':World):Prop where
 os:w'.os=w.os
 tape:w'.tape=w.tape
 output:w'.output=w.output
 size:w.heap.size<=w'.heap.size
 heap:∀b,b<w.heap.size->w'.heap[b]?=w.heap[b]?
def gQ.refl (a:World):gQ a a:=⟨rfl,rfl,rfl,a2 _,λ_ _=>rfl⟩
def gQ.trans {c d e:World} (a:gQ c d) (b:gQ d e):gQ c e:=
 ⟨b.os.trans a.os,b.tape.trans a.tape,b.output.trans a.output,dh a.size b.size,λg f=>(b.heap g (he f a.size)).trans (a.heap g f)⟩
def gQ.drew {b c:World} (a:gQ b c):gQ b c.drew:=⟨a.os,a.tape,a.output,a.size,a.heap⟩
def gQ.alloc (a:World) (b:Obj):gQ a (a.alloc b):=⟨rfl,rfl,rfl,ac,λc d=>by
 show(a.heap.push b)[c]?=_;rw[Array.getElem?_push,ah U]⟩
def bL.mono {w E:dg->Nat->Prop} {t v:World} {x G:List (Nat×aH)} {D K:Nat->adY} {u F:Nat->ad4} (y:∀I b,w I b->E I b/\bT t v b) (f:∀id o,au x id=some o->aT w t o.1 (D id) o.2 (u id)/\∀b∈u id,bT t v b) {l:ao} {e:Value} (M:bL w t x D u l e) (n:∀id o,au x id=some o->au G id=some o/\K id=D id/\F id=u id):bL E v G K F l e:=by
 induction M with
 |dead e=>exact .dead e
 |cv e=>exact .cv e
 |val V=>exact .val (V.mono y ac)
 |ref a i=>
  obtain⟨j,k,_⟩:=n _ _ a;exact .ref j (by rw[k];exact i.eE (f _ _ a).1 (f _ _ a).2)
 |addr a i=>
  obtain⟨j,k,_⟩:=n _ _ a;exact .addr j (by rw[k];exact i.eE (f _ _ a).1 (f _ _ a).2)
 |kR id J=>exact .kR id J
 |view a i g h L=>
  obtain⟨j,k,_⟩:=n _ _ a;exact .view j (by rw[k];exact i.eE (f _ _ a).1 (f _ _ a).2) g h L
 |@app id J τ ad Z o Y W ab X f2 e a R i O g z h A H S=>
  obtain⟨j,k,C⟩:=n _ _ a;obtain⟨T,B⟩:=f _ _ a;have N:∀b∈f2,bT t v b:=λb c=>by
   rcases H b c with c|⟨d,m,c⟩
   ·exact B b (z b c)
   obtain⟨_,p,r⟩:=A d m;exact(f d p r).2 b c
  refine .app j R (by rw[k];exact i.eE T B) O (g.mono y (λb c=>B b (z b c))) (by rw[C];exact z) (h.mono y N) ?_ ?_ S
  ·intro d m;obtain⟨U,p,r⟩:=A d m;exact⟨U,p,(n d p r).1⟩
  intro b c;rcases H b c with c|⟨d,m,c⟩
  ·exact .inl c
  obtain⟨_,p,r⟩:=A d m;exact .inr ⟨d,m,by rw[(n d p r).2.2];exact c⟩
 |jL a i c Q m P=>
  obtain⟨j,k,C⟩:=n _ _ a;exact .jL j (by rw[k];exact i.eE (f _ _ a).1 (f _ _ a).2) (by rw[C];exact c) (by rw[((f _ _ a).2 _ c).2];exact Q) m P
 |dM q _ s=>exact .dM q (λd l e g h=>s d l e g h)
 |agg q _ s=>exact .agg q (λd l e g h=>s d l e g h)
 |dv q _ s=>exact .dv q (λd l e g h=>s d l e g h)
def aV (c:List (Nat×ao)):Operand->ao
 |.tmp g=>gt c g
 |.const (.int d e)=>.val (.int d) e
 |.const (.bool a)=>.val .bool a
 |.const (.string f)=>.val .str f
 |.const h=>.cv h
 |.func b=>.dv b []
 |.global _=>.dead
def bL.int {c:dg->Nat->Prop} {g:World} {e:List (Nat×aH)} {f:Nat->adY} {d:Nat->ad4} (a:IntKind) (b:Int):bL c g e f d (.val (.int a) b) (.int a b):=
 .val (τ:=.int a) (cs:=[.int a b]) ⟨rfl,rfl⟩
def bL.bool {b:dg->Nat->Prop} {f:World} {d:List (Nat×aH)} {e:Nat->adY} {c:Nat->ad4} (a:Bool):bL b f d e c (.val .bool a) (.bool a):=
 .val (τ:=.bool) (cs:=[.bool a]) ⟨rfl,rfl⟩
def bL.str {b:dg->Nat->Prop} {f:World} {d:List (Nat×aH)} {e:Nat->adY} {c:Nat->ad4} (a:ByteArray):bL b f d e c (.val .str a) (.string a):=
 .val (τ:=.str) (cs:=[.string a]) ⟨rfl,rfl⟩
def bC.aV {e:dD} {c:aQ} {a:Act} {l:World} {f:Nat->Prop} {j:Nat->adY} {i:Nat->ad4} (m:bC e c a.tmps l f j i) (d:Operand):bL (bj f e.B) l c.h j i (aV c.g d) (a.eval d):=by
 cases d with
 |tmp o=>exact m.tmp o
 |const p=>
  cases p<;>simp only[h2.aV,Act.eval]
  case int k n=>exact .int k n
  case bool b=>exact .bool b
  case string s=>exact .str s
  all_goals exact .cv _
 |func q=>exact .dv (vs:=#[]) ac ac
 |global r=>exact .dead _
theorem jo {d:Type}:∀(c b:List (Nat×d)) (a:Nat),au (c++b) a=(au c a).or (au b a)
 |[],b,a=>by simp[au]
 |(k,v)::c,b,a=>by rw[jb,b1,b1,jo c b a];split<;>simp
theorem hJ (b:Nat) (c:ao) (d:List (Nat×ao)) (a:Nat):gt ((b,c)::d) a=if b=a then c else gt d a:=by unfold gt;rw[b1];by_cases e:b=a<;>simp[e]
def bC.put {f:aQ} (a:bC I f y e m o p) (i:I.ok c) {av:ao} {v:Value} (l:bL (bj m I.B) e f.h o p av v):bC I ⟨(c,av)::f.g,f.h⟩ (y.setIfInBounds c v) e m o p where
 n:=by simpa using a.n
 i0:=a.i0
 i1:=a.i1
 ib:=a.ib
 tree:=a.tree
 dis:=a.dis
 tmp:=λb=>by
  show bL _ _ _ _ _ (gt ((c,av)::f.g) b) _;unfold gt;rw[b1];have k:c<y.size:=(by rw[a.n];exact i.1);by_cases d:c=b
  ·subst d;rw[ai rfl];have:(y.setIfInBounds c v).getD c undef=v:=(by simp[Array.getD,k]);rw[this];exact l
  rw[ah d];have:(y.setIfInBounds c v).getD b undef=y.getD b undef:=(by simp only[zK,DW d]);rw[this];exact a.tmp b
 frame:=a.frame
 evo:=a.evo
 size:=a.size
 os:=a.os
 tape:=a.tape
 output:=a.output
 pin:=λb d=>by have:c≠b:=λj=>i.2 (j▸d);rw[<-a.pin b d];simp only[zK,DW this]
structure uU (C:dD) (st:aQ) (w w':World) (I':Nat->Prop) (new:List (Nat×aH)) (rtn:Nat->adY) (fpn:Nat->ad4):Prop where
 tree:∀id t,au new id=some t->au st.h id=none/\aT (bj I' C.B) w' t.1 (rtn id) t.2 (fpn id)/\(fpn id).Nodup/\∀b∈fpn id,w.heap.size<=b/\b<w'.heap.size/\¬I' b
 dis:∀i j t u,au new i=some t->au new j=some u->i≠j->∀b∈fpn i,b∉fpn j
def uU.nil:uU I B e l m [] o p:=
 ⟨(λ_ _ a=>by cases a),(λ_ _ _ _ a=>by cases a)⟩
def uU.one {C:dD} {st:aQ} {e w':World} {I':Nat->Prop} {id:Nat} {t:aH} {cs:adY} {f:ad4} (m:au st.h id=none) (n:aT (bj I' C.B) w' t.1 cs t.2 f) (k:f.Nodup) (j:∀b∈f,e.heap.size<=b/\b<w'.heap.size/\¬I' b):uU C st e w' I' [(id,t)] (λ_=>cs) (λ_=>f) where
 tree:=λo p a=>by
  rw[b1] at a;split at a
  ·rename_i g;subst g;obtain rfl:=ee a;exact⟨m,n,k,j⟩
  cases a
 dis:=λo q r p c d l=>by
  rw[b1] at c d;split at c
  ·split at d
   ·rename_i al i;exact absurd (al.symm.trans i) l
   cases d
  cases c
def dI (d:List (Nat×aH)) {a:Type} (b c:Nat->a):Nat->a:=λid=>match au d id with|some _=>b id|none=>c id
def bC.ext {k:aQ} {rtn:Nat->adY} {fpn:Nat->ad4} (d:bC I k y e F o p) (i:gQ e l) (C:∀a,F a->m a) (D:∀a,m a->F a\/(e.heap.size<=a/\a<l.heap.size)) {new:List (Nat×aH)} (u:uU I k e l m new rtn fpn):bC I ⟨k.g,new++k.h⟩ y l m (dI new rtn o) (dI new fpn p):=by
 have M:∀z a,bj F I.B z a->bj m I.B z a/\bT e l a:=λz a b=>by
  refine⟨?_,.of_heap (i.heap a (d.ib a (mq b)))⟩;cases z
  ·exact C a b
  exact b.imp (C a) id
 have U:∀id c,au k.h id=some c->au (new++k.h) id=some c/\dI new rtn o id=o id/\dI new fpn p id=p id:=λid c f=>by
  have:au new id=none:=by
   cases q:au new id with
   |none=>rfl
   |some r=>have:=(u.tree id r q).1;rw[f] at this;cases this
  refine⟨by rw[jo,this,f];rfl,by simp[dI,this],by simp[dI,this]⟩
 have E:∀id c,au (new++k.h) id=some c->(au new id=some c/\dI new rtn o id=rtn id/\dI new fpn p id=fpn id)\/(au k.h id=some c/\dI new rtn o id=o id/\dI new fpn p id=p id):=λid c f=>by
  rw[jo] at f;cases q:au new id with
  |none=>rw[q] at f;exact .inr ⟨by simpa using f,by simp[dI,q],by simp[dI,q]⟩
  |some r=>rw[q] at f;exact .inl ⟨by simpa using f,by simp[dI,q],by simp[dI,q]⟩
 have N:∀id c,au k.h id=some c->∀a∈p id,bT e l a:=λid c f a b=>.of_heap (i.heap a ((d.tree id c f).2.2 a b).2.2.1);refine{n:=d.n,i0:=λa b=>C a (d.i0 a b),i1:=?_,ib:=?_,tree:=?_,dis:=?_,tmp:=?_,frame:=?_,evo:=λa b=>(d.evo a b).trans (.of_heap (i.heap a (he b d.size))),size:=dh d.size i.size,os:=i.os.trans d.os,tape:=i.tape.trans d.tape,output:=i.output.trans d.output,pin:=d.pin}
 ·intro a b;rcases D a b with b|⟨b,_⟩
  ·exact d.i1 a b
  exact .inr (.inl (dh d.size b))
 ·intro a b;rcases b with b|b
  ·rcases D a b with b|⟨_,b⟩
   ·exact he (d.ib a (.inl b)) i.size
   exact b
  exact he (d.ib a (.inr b)) i.size
 ·intro id c f;rcases E id c f with⟨j,A,s⟩|⟨j,A,s⟩
  ·obtain⟨_,ax,G,H⟩:=u.tree id c j;rw[A,s];refine⟨ax,G,λa b=>?_⟩;obtain⟨J,K,L⟩:=H a b;exact⟨L,λQ=>by have:=d.ib a (.inr Q);omega,K,.inl (dh d.size J)⟩
  obtain⟨ax,G,H⟩:=d.tree id c j;rw[A,s];refine⟨ax.mono M (N id c j),G,λa b=>?_⟩;obtain⟨J,K,L,aR⟩:=H a b;exact⟨λt=>(D a t).elim J (λW=>by omega),K,he L i.size,aR⟩
 ·intro v w c r S T O a b;rcases E v c S with⟨j,_,s⟩|⟨j,_,s⟩<;>rcases E w r T with⟨x,_,P⟩|⟨x,_,P⟩<;>rw[s] at b<;>rw[P]
  ·exact u.dis v w c r j x O a b
  ·intro t;have:=((u.tree v c j).2.2.2 a b).1;have:=((d.tree w r x).2.2 a t).2.2.1;omega
  ·intro t;have:=((u.tree w r x).2.2.2 a t).1;have:=((d.tree v c j).2.2 a b).2.2.1;omega
  exact d.dis v w c r j x O a b
 ·intro V;exact(d.tmp V).mono M (λid c f=>⟨(d.tree id c f).1,N id c f⟩) U
 intro a b R;rw[i.heap a (he b d.size)];exact d.frame a b R
def bC.S9 (a:bC I B y e m o p) (b:gQ e l):bC I B y l m o p:=by have:=a.ext (rtn:=o) (fpn:=p) b (λ_ a=>a) (λ_ a=>.inl a) (new:=[]) .nil;exact this
def nF:List (Nat×ao)->aQ->Prop
 |[],_=>True
 |(k,a)::r,st=>gt st.g k=a/\nF r st
def nG:List (Nat×aH)->aQ->Prop
 |[],_=>True
 |(k,t)::r,st=>au st.h k=some t/\nG r st
def nF.get (b:nF M B):∀a,gt M a=.dead\/gt M a=gt B.g a:=by
 induction M with
 |nil=>exactλa=>.inl rfl
 |cons e M d=>
  obtain⟨h,f⟩:=e;intro a;rw[hJ];split
  ·rename_i c;subst c;exact .inr b.1.symm
  exact d b.2 a
def nG.get (c:nG z B):∀a b,au z a=some b->au B.h a=some b:=by
 induction z with
 |nil=>intro a b c;cases c
 |cons g z f=>
  obtain⟨j,i⟩:=g;intro a b d;rw[b1] at d;split at d
  ·rename_i e;subst e;rw[<-d];exact c.1
  exact f c.2 a b d
mutual
def ao.ids:ao->ad4
 |.dead|.val _ _|.cv _=>[]
 |.ref id _|.addr id _|.view id _ _ _|.jL id _ _=>[id]
 |.app id _ _ _ b=>id::b
 |.dM a|.agg a|.dv _ a=>ao.mZ a
def ao.mZ:List ao->ad4
 |[]=>[]
 |a::b=>a.ids++ao.mZ b
end
def ao.yP {l:List ao} {i:Nat} (a:l[i]?=some L) {id:Nat} (b:id∈L.ids):id∈ao.mZ l:=by
 induction l generalizing i with
 |nil=>simp at a
 |cons e d c=>
  simp only[ao.mZ,eN];cases i with
  |zero=>simp at a;subst a;exact .inl b
  |succ i=>simp at a;exact .inr (c a)
def bL.rO {F:dg->Nat->Prop} {H:List (Nat×aH)} {M:Nat->adY} {G:Nat->ad4} (y:∀J a,f J a->F J a/\bT e l a) (O:bL f e z o p L E) (h:∀id∈L.ids,∀x,au z id=some x->au H id=some x/\M id=o id/\G id=p id/\aT f e x.1 (o id) x.2 (p id)/\∀a∈p id,bT e l a):bL F l H M G L E:=by
 induction O with
 |dead E=>exact .dead E
 |cv E=>exact .cv E
 |val X=>exact .val (X.mono y ac)
 |ref k j=>
  obtain⟨m,n,_,r,q⟩:=h _ (by simp[ao.ids]) _ k;exact .ref m (by rw[n];exact j.eE r q)
 |addr k j=>
  obtain⟨m,n,_,r,q⟩:=h _ (by simp[ao.ids]) _ k;exact .addr m (by rw[n];exact j.eE r q)
 |kR id K=>exact .kR id K
 |view k j d i N=>
  obtain⟨m,n,_,r,q⟩:=h _ (by simp[ao.ids]) _ k;exact .view m (by rw[n];exact j.eE r q) d i N
 |@app id K ap an ad x ab Y am Z f2 E k T j Q d A i B I U=>
  obtain⟨m,n,D,V,C⟩:=h _ (by simp[ao.ids]) _ k;have P:∀a∈f2,bT e l a:=λa b=>by
   rcases I a b with b|⟨c,g,b⟩
   ·exact C a (A a b)
   obtain⟨_,s,v⟩:=B c g;exact(h c (by simp[ao.ids,g]) s v).2.2.2.2 a b
  refine .app m T (by rw[n];exact j.eE V C) Q (d.mono y (λa b=>C a (A a b))) (by rw[D];exact A) (i.mono y P) ?_ ?_ U
  ·intro c g;obtain⟨W,s,v⟩:=B c g;exact⟨W,s,(h c (by simp[ao.ids,g]) s v).1⟩
  intro a b;rcases I a b with b|⟨c,g,b⟩
  ·exact .inl b
  obtain⟨_,s,v⟩:=B c g;exact .inr ⟨c,g,by rw[(h c (by simp[ao.ids,g]) s v).2.2.1];exact b⟩
 |jL k j b S g R=>
  obtain⟨m,n,D,r,q⟩:=h _ (by simp[ao.ids]) _ k;exact .jL m (by rw[n];exact j.eE r q) (by rw[D];exact b) (by rw[(q _ b).2];exact S) g R
 |dM u _ w=>exact .dM u (λc L E d i=>w c L E d i (λid t=>h id (ao.yP d t)))
 |agg u _ w=>exact .agg u (λc L E d i=>w c L E d i (λid t=>h id (ao.yP d t)))
 |dv u _ w=>exact .dv u (λc L E d i=>w c L E d i (λid t=>h id (ao.yP d t)))
def bC.xi {q:aQ} (a:bC I q y e m o p) (v:nF B.g q) (d:nG B.h q) (w:∀c,∀id∈(gt B.g c).ids,(au B.h id).isSome=true):bC I B y e m o p where
 n:=a.n
 i0:=a.i0
 i1:=a.i1
 ib:=a.ib
 tree:=λid b f=>a.tree id b (d.get id b f)
 dis:=λs t b i l x=>a.dis s t b i (d.get s b l) (d.get t i x)
 tmp:=λc=>by
  rcases v.get c with k|k
  ·rw[k];exact .dead _
  have:=w c;rw[k] at this|-;refine(a.tmp c).rO (λz j u=>⟨u,bT.refl e j⟩) (λid l b f=>?_);obtain⟨i,r⟩:=D6.1 (this id l);have:=d.get id i r;rw[f] at this;obtain rfl:=ee this;exact⟨r,rfl,rfl,(a.tree id b f).1,λj _=>bT.refl e j⟩
 frame:=a.frame
 evo:=a.evo
 size:=a.size
 os:=a.os
 tape:=a.tape
 output:=a.output
 pin:=a.pin
def k8 (a:List (Nat×ao)) (b:List (Nat×aH)):Bool:=a.all λc=>c.2.ids.all λid=>(au b id).isSome
def k8.get (d:k8 M z=true) (c:Nat):∀id∈(gt M c).ids,(au z id).isSome=true:=by
 intro id b;unfold gt at b;cases a:au M c with
 |none=>rw[a] at b;simp[ao.ids] at b
 |some e=>
  rw[a] at b;have g:(c,e)∈M:=by
   clear d b
   induction M with
   |nil=>cases a
   |cons i l h=>
    obtain⟨k,j⟩:=i;rw[b1] at a;split at a
    ·rename_i f;subst f;obtain rfl:=ee a;simp
    exact fk _ (h a)
  simp only[k8,fd] at d;exact d (c,e) g id b
section
mutual
def dP (P:Program):aj->TypeId->Prop
 |.int f,T=>∃a,P.info? T=some a/\a.size=1/\a.bytes<=24/\a.zero=some (.int f 0)/\P.underlying T=some (.int f)
 |.bool,T=>∃a,P.info? T=some a/\a.size=1/\a.bytes<=24/\a.zero=some (.bool false)/\P.underlying T=some .bool
 |.str,T=>∃a,P.info? T=some a/\a.size=1/\a.bytes<=24/\a.zero=some (.string ByteArray.empty)/\P.underlying T=some .string
 |.bb _ b,T=>∃a E,P.info? T=some a/\a.size=1/\a.bytes<=24/\a.zero=some (.slice none 0 0)/\P.underlying T=some (.slice E)/\dP P b E
 |.osl b,T=>∃a E,P.info? T=some a/\a.size=1/\a.bytes<=24/\a.zero=some (.slice none 0 0)/\P.underlying T=some (.slice E)/\dP P b E
 |.ptr _ b,T=>∃a E,P.info? T=some a/\a.size=1/\a.bytes<=24/\a.zero=some (.pointer none)/\P.underlying T=some (.pointer E)/\dP P b E
 |.optr b,T=>∃a E,P.info? T=some a/\a.size=1/\a.bytes<=24/\a.zero=some (.pointer none)/\P.underlying T=some (.pointer E)/\dP P b E
 |.st b,T=>0<b.size/\∃a e d,P.info? T=some a/\a.size=b.size/\a.bytes<=24*b.size/\a.zero=some (.agg d)/\P.underlying T=some (.struct e)/\hz P b e.toList 0 d.toList/\d.size=b.size
 |.mp b,T=>∃a c E,P.info? T=some a/\a.size=1/\a.bytes<=24/\a.zero=some (.map none)/\P.underlying T=some (.map c E)/\P.underlying c=some (.int .i64)/\dP P b E
 |.dN _ b,T=>∃a c E,P.info? T=some a/\a.size=1/\a.bytes<=24/\a.zero=some (.map none)/\P.underlying T=some (.map c E)/\P.underlying c=some (.int .i64)/\dP P b E
 |_,_=>False
def hz (P:Program):aj->List Field->Nat->adY->Prop
 |.pr a g,c::h,e,b=>c.offset=e/\dP P a c.type/\0<a.size/\(∃d f,P.info? c.type=some d/\d.zero=some f/\b.take a.size=f.cells.toList)/\hz P g h (e+a.size) (b.drop a.size)
 |.nil,[],_,b=>b=[]
 |_,_,_,_=>False
end
def oX:aj->Bool
 |.st _=>true
 |_=>false
structure PU (P:Program) (τ:aj) (T:TypeId) (i:TypeInfo):Prop where
 info:P.info? T=some i
 size:i.size=τ.size
 bytes:i.bytes<=24*τ.size
 pos:0<τ.size
def dP.info {P:Program}:∀{τ:aj} {T:TypeId},dP P τ T->∃a g,PU P τ T a/\P.underlying T=some g/\(match g with|.struct _|.array _ _=>true|_=>false)=oX τ
 |.int _,_,⟨a,b,c,d,_,e⟩=>⟨a,_,⟨b,c,d,by simp[aj.size]⟩,e,rfl⟩
 |.bool,_,⟨a,b,c,d,_,e⟩=>⟨a,_,⟨b,c,d,by simp[aj.size]⟩,e,rfl⟩
 |.str,_,⟨a,b,c,d,_,e⟩=>⟨a,_,⟨b,c,d,by simp[aj.size]⟩,e,rfl⟩
 |.bb _ _,_,⟨a,_,b,c,d,_,e,_⟩=>⟨a,_,⟨b,c,d,by simp[aj.size]⟩,e,rfl⟩
 |.osl _,_,⟨a,_,b,c,d,_,e,_⟩=>⟨a,_,⟨b,c,d,by simp[aj.size]⟩,e,rfl⟩
 |.ptr _ _,_,⟨a,_,b,c,d,_,e,_⟩=>⟨a,_,⟨b,c,d,by simp[aj.size]⟩,e,rfl⟩
 |.optr _,_,⟨a,_,b,c,d,_,e,_⟩=>⟨a,_,⟨b,c,d,by simp[aj.size]⟩,e,rfl⟩
 |.st i,_,⟨h,a,_,_,b,c,d,_,e,_⟩=>⟨a,_,⟨b,c,d,h⟩,e,rfl⟩
 |.pr _ _,_,f=>f.elim
 |.nil,_,f=>f.elim
 |.di,_,f=>f.elim
 |.mp _,_,⟨a,_,_,b,c,d,_,e,_⟩=>⟨a,_,⟨b,c,d,by simp[aj.size]⟩,e,rfl⟩
 |.dN _ _,_,⟨a,_,_,b,c,d,_,e,_⟩=>⟨a,_,⟨b,c,d,by simp[aj.size]⟩,e,rfl⟩
def dP.FO {P:Program}:∀{τ:aj} {T:TypeId},dP P τ T->∃g,g.cells.size=τ.size/\∀d,P.info? T=some d->d.zero=some g
 |.int _,_,⟨d,a,_,_,b,_⟩|.bool,_,⟨d,a,_,_,b,_⟩|.str,_,⟨d,a,_,_,b,_⟩=>⟨_,rfl,λf c=>by rw[a] at c;cases c;exact b⟩
 |.bb _ _,_,⟨d,_,a,_,_,b,_⟩|.osl _,_,⟨d,_,a,_,_,b,_⟩|.ptr _ _,_,⟨d,_,a,_,_,b,_⟩|.optr _,_,⟨d,_,a,_,_,b,_⟩=>⟨_,rfl,λf c=>by rw[a] at c;cases c;exact b⟩
 |.st n,_,⟨j,d,_,i,a,k,l,b,m,_,h⟩=>⟨.agg i,h,λf c=>by rw[a] at c;cases c;exact b⟩
 |.pr _ _,_,e=>e.elim
 |.nil,_,e=>e.elim
 |.di,_,e=>e.elim
 |.mp _,_,⟨d,_,_,a,_,_,b,_⟩=>⟨_,rfl,λf c=>by rw[a] at c;cases c;exact b⟩
 |.dN _ _,_,⟨d,_,_,a,_,_,b,_⟩=>⟨_,rfl,λf c=>by rw[a] at c;cases c;exact b⟩
section
variable {P:Program} {τ:aj} {T:TypeId}
def dP.sizeOf (c:dP P τ T) (b:World):(Go.sizeOf T).run P b=.ok τ.size b:=by obtain⟨e,d,a,_⟩:=c.info;simp[Go.sizeOf,typeInfo,a.info,a.size]
def dP.isAgg (c:dP P τ T) (a:World):(Go.isAgg T).run P a=.ok (oX τ) a:=by obtain⟨g,b,f,e,d⟩:=c.info;simp only[Go.isAgg,Sem.run_bind,run_underlying e,Result.andThen_ok];rw[<-d];cases b<;>rfl
def dP.pos (a:dP P τ T):0<τ.size:=by obtain⟨d,c,b,_⟩:=a.info;exact b.pos
def GU:∀{τ:aj} {T:TypeId},dP P τ T->oX τ=false->τ.size=1
 |.int _,_,_,_|.bool,_,_,_|.str,_,_,_|.bb _ _,_,_,_|.osl _,_,_,_|.ptr _ _,_,_,_|.optr _,_,_,_|.mp _,_,_,_|.dN _ _,_,_,_=>rfl
 |.st _,_,_,a=>by cases a
 |.pr _ _,_,a,_=>a.elim
 |.nil,_,a,_=>a.elim
 |.di,_,a,_=>a.elim
def Dk (a:oX τ=false):bO τ g=g.headD undef:=by cases τ<;>first|rfl|cases a
def Dl (a:oX τ=true):bO τ g=.agg g.toArray:=by cases τ<;>first|rfl|cases a
def nW (d:dP P τ T) (c:g.length=τ.size) (e:∀a∈g,a.oneCell'=true):(bO τ g).cells=g.toArray:=by
 cases b:oX τ with
 |true=>rw[Dl b];rfl
 |false=>
  rw[Dk b];rw[GU d b] at c;obtain⟨a,rfl⟩:=uN.1 c;have:=e a ac;cases a<;>first|rfl|(simp[Value.oneCell'] at this)
def NW (a:dP P τ T) (i:dU e c h g) (b:g.length=τ.size):(loadVar T ⟨c,h,none⟩).run P e=.ok (bO τ g) e:=by
 simp only[loadVar,Sem.run_bind,a.isAgg,Result.andThen_ok];cases d:oX τ with
 |true=>
  simp only[if_true,Sem.run_bind,a.sizeOf,Result.andThen_ok];rw[<-b,run_loadCells_list e ⟨c,h,none⟩ g (λk f j=>by rw[Addr.add_lit];exact i k f j)];rw[Dl d];rfl
 |false=>
  rw[GU a d] at b;obtain⟨f,rfl⟩:=uN.1 b;have:=i 0 f rfl;simp only[j6] at this;rw[Dk d];simp[this]
end
def kS:(τ:aj)->Option τ.den
 |.int _=>some (0:Int)
 |.bool=>some false
 |.str=>some ByteArray.empty
 |.bb _ _=>some []
 |.osl _=>some []
 |.ptr _ _=>some none
 |.optr _=>none
 |.st c=>kS c
 |.pr a b=>match kS a,kS b with|some d,some e=>some (d,e)|_,_=>none
 |.nil=>some ()
 |.di=>none
 |.mp _=>some none
 |.dN _ _=>some none
mutual
theorem uD {P:Program}:∀{τ:aj} {T:TypeId} {g:τ.den},dP P τ T->kS τ=some g->∃a l,P.info? T=some a/\a.zero=some l/\l=bO τ l.cells.toList/\∀(e:dg->Nat->Prop) (f:World),aT e f τ l.cells.toList g []
 |.int p,_,g,⟨a,c,h,i,d,j⟩,b=>⟨a,_,c,d,rfl,λe f=>by cases b;exact⟨rfl,rfl⟩⟩
 |.bool,_,g,⟨a,c,h,i,d,j⟩,b=>⟨a,_,c,d,rfl,λe f=>by cases b;exact⟨rfl,rfl⟩⟩
 |.str,_,g,⟨a,c,h,i,d,j⟩,b=>⟨a,_,c,d,rfl,λe f=>by cases b;exact⟨rfl,rfl⟩⟩
 |.bb _ _,_,g,⟨a,_,c,h,i,d,j,_⟩,b=>⟨a,_,c,d,rfl,λe f=>by cases b;exact⟨rfl,none,0,rfl,a2 _,λ_=>rfl,.inl rfl⟩⟩
 |.osl _,_,g,⟨a,_,c,h,i,d,j,_⟩,b=>⟨a,_,c,d,rfl,λe f=>by cases b;exact⟨none,0,rfl,.inl ⟨rfl,rfl,rfl,rfl⟩⟩⟩
 |.ptr _ _,_,g,⟨a,_,c,h,i,d,j,_⟩,b=>⟨a,_,c,d,rfl,λe f=>by cases b;exact⟨rfl,rfl⟩⟩
 |.optr _,_,_,_,b=>by cases b
 |.st n,_,g,⟨_,a,o,q,c,h,i,d,j,m,_⟩,b=>⟨a,_,c,d,rfl,λe f=>O9 (τ:=n) m b e f⟩
 |.pr _ _,_,_,k,_=>k.elim
 |.nil,_,_,k,_=>k.elim
 |.di,_,_,k,_=>k.elim
 |.mp _,_,g,⟨a,_,_,c,h,i,d,j,_⟩,b=>⟨a,_,c,d,rfl,λe f=>by cases b;exact⟨rfl,rfl⟩⟩
 |.dN _ _,_,g,⟨a,_,_,c,h,i,d,j,_⟩,b=>⟨a,_,c,d,rfl,λe f=>by cases b;exact⟨rfl,rfl⟩⟩
theorem O9 {P:Program}:∀{τ:aj} {l:List Field} {g:Nat} {f:adY} {e:τ.den},hz P τ l g f->kS τ=some e->∀(b:dg->Nat->Prop) (d:World),aT b d τ f e []
 |.pr j k,t::y,g,f,e,a,c,b,d=>by
  obtain⟨u,m,v,⟨w,B,ax,q,r⟩,n⟩:=a;simp only[kS] at c;split at c
  ·rename_i z A o p;cases c;obtain⟨x,C,h,i,_,s⟩:=uD (τ:=j) m o;rw[ax] at h;obtain rfl:=ee h;rw[q] at i;obtain rfl:=ee i;exact⟨[],[],rfl,by rw[r];exact s b d,O9 (τ:=k) n p b d⟩
  cases c
 |.nil,[],_,f,e,a,c,b,d=>⟨rfl,a⟩
 |.pr _ _,[],_,_,_,a,_,_,_=>a.elim
 |.nil,_::_,_,_,_,a,_,_,_=>a.elim
 |.int _,_,_,_,_,a,_,_,_=>by cases a
 |.bool,_,_,_,_,a,_,_,_=>by cases a
 |.str,_,_,_,_,a,_,_,_=>by cases a
 |.bb _ _,_,_,_,_,a,_,_,_=>by cases a
 |.osl _,_,_,_,_,a,_,_,_=>by cases a
 |.ptr _ _,_,_,_,_,a,_,_,_=>by cases a
 |.optr _,_,_,_,_,a,_,_,_=>by cases a
 |.st _,_,_,_,_,a,_,_,_=>by cases a
 |.di,_,_,_,_,a,_,_,_=>by cases a
 |.mp _,_,_,_,_,a,_,_,_=>by cases a
 |.dN _ _,_,_,_,_,a,_,_,_=>by cases a
end
def ba:aj->aj->Bool
 |.int g,.int h=>if g=h then true else false
 |.bool,.bool|.str,.str|.nil,.nil=>true
 |.bb _ a,.bb _ b|.bb _ a,.osl b|.osl a,.bb _ b|.osl a,.osl b=>ba a b
 |.ptr _ a,.ptr _ b|.ptr _ a,.optr b|.optr a,.ptr _ b|.optr a,.optr b=>ba a b
 |.st a,.st b=>ba a b
 |.mp a,.mp b|.mp a,.dN _ b|.dN _ a,.mp b|.dN _ a,.dN _ b=>ba a b
 |.pr c d,.pr e f=>ba c e&&ba d f
 |_,_=>false
theorem ba.size:∀{τ b:aj},ba τ b=true->τ.size=b.size:=by
 intro τ
 induction τ with
 |st h c=>intro b a;cases b<;>simp only[ba] at a<;>first|(simp only[aj.size];exact c a)|cases a
 |pr f g d e=>
  intro b a;cases b<;>simp only[ba] at a<;>try (cases a;done)
  simp only[bp] at a;simp only[aj.size];rw[d a.1,e a.2]
 |_=>intro b a;cases b<;>simp[ba] at a<;>simp[aj.size]
mutual
theorem dP.lay {P:Program}:∀{τ c:aj} {T:TypeId},ba τ c=true->dP P τ T->dP P c T
 |.int q,c,_,a,b=>by cases c<;>simp[ba] at a;subst a;exact b
 |.bool,c,_,a,b=>by cases c<;>simp[ba] at a;exact b
 |.str,c,_,a,b=>by cases c<;>simp[ba] at a;exact b
 |.bb _ k,c,_,a,b=>by obtain⟨h,E,d,i,j,e,f,g⟩:=b;cases c<;>simp only[ba] at a<;>first|exact⟨h,E,d,i,j,e,f,dP.lay a g⟩|cases a
 |.osl k,c,_,a,b=>by obtain⟨h,E,d,i,j,e,f,g⟩:=b;cases c<;>simp only[ba] at a<;>first|exact⟨h,E,d,i,j,e,f,dP.lay a g⟩|cases a
 |.ptr _ k,c,_,a,b=>by obtain⟨h,E,d,i,j,e,f,g⟩:=b;cases c<;>simp only[ba] at a<;>first|exact⟨h,E,d,i,j,e,f,dP.lay a g⟩|cases a
 |.optr k,c,_,a,b=>by obtain⟨h,E,d,i,j,e,f,g⟩:=b;cases c<;>simp only[ba] at a<;>first|exact⟨h,E,d,i,j,e,f,dP.lay a g⟩|cases a
 |.st k,c,_,a,b=>by
  obtain⟨p,h,n,o,d,i,j,e,f,g,l⟩:=b;cases c<;>simp only[ba] at a<;>try (cases a;done)
  have:=ba.size a;exact⟨U,h,n,o,d,U,U,e,f,hz.lay a g,U⟩
 |.pr _ _,_,_,_,b=>b.elim
 |.nil,_,_,_,b=>b.elim
 |.di,_,_,_,b=>b.elim
 |.mp k,c,_,a,b=>by obtain⟨h,m,E,d,i,j,e,f,g,l⟩:=b;cases c<;>simp only[ba] at a<;>first|exact⟨h,m,E,d,i,j,e,f,g,dP.lay a l⟩|cases a
 |.dN _ k,c,_,a,b=>by obtain⟨h,m,E,d,i,j,e,f,g,l⟩:=b;cases c<;>simp only[ba] at a<;>first|exact⟨h,m,E,d,i,j,e,f,g,dP.lay a l⟩|cases a
theorem hz.lay {P:Program}:∀{τ c:aj} {f:List Field} {d:Nat} {e:adY},ba τ c=true->hz P τ f d e->hz P c f d e
 |.pr k l,c,m::o,d,e,b,a=>by
  obtain⟨g,h,n,i,j⟩:=a;cases c<;>simp only[ba] at b<;>try (cases b;done)
  simp only[bp] at b;have:=ba.size b.1;exact⟨g,dP.lay b.1 h,U,by rw[<-this];exact i,by rw[<-this];exact hz.lay b.2 j⟩
 |.nil,c,[],_,_,b,a=>by cases c<;>simp[ba] at b;exact a
 |.pr _ _,_,[],_,_,_,a=>a.elim
 |.nil,_,_::_,_,_,_,a=>a.elim
 |.int _,_,_,_,_,_,a=>by cases a
 |.bool,_,_,_,_,_,a=>by cases a
 |.str,_,_,_,_,_,a=>by cases a
 |.bb _ _,_,_,_,_,_,a=>by cases a
 |.osl _,_,_,_,_,_,a=>by cases a
 |.ptr _ _,_,_,_,_,_,a=>by cases a
 |.optr _,_,_,_,_,_,a=>by cases a
 |.st _,_,_,_,_,_,a=>by cases a
 |.di,_,_,_,_,_,a=>by cases a
 |.mp _,_,_,_,_,_,a=>by cases a
end
structure sI where
 b:Nat
 T:TypeId
 k:IntKind
 xs:ad5
def Ip (P:Program) (a:sI):Prop:=∃b,P.underlying a.T=some (.array a.xs.length b)/\dP P (.int a.k) b
structure eh where
 P:Program
 tt:List (TypeId×aj)
 ok:∀T τ,au tt T=some τ->dP P τ T
 mix:P.follows .mixedOrders=true
 glob:List sI:=[]
 gok:∀g∈glob,Ip P g:=by intro g h;cases h
end
section
def fm:Nat:=4294967296
def aC {b:Type} (c:List b) (a:Int):Option b:=if 0<=a then c[a.toNat]? else none
def Kz {b:List A} {c:A} (a:aC b S=some c):S=(S.toNat:Int)/\S.toNat<b.length/\b[S.toNat]?=some c:=by
 unfold aC at a;split at a
 ·exact⟨U,(eT.1 a).1,a⟩
 cases a
inductive gR where
 |dw (av:ao) (new:List (Nat×aH))
 |part (α:Type) (φ:α->Prop) (f:α->ao×List (Nat×aH))
 |bad
def gR.K (e:gR) (Q:ao->List (Nat×aH)->Prop):Prop:=
 match e with
 |.dw c d=>Q c d
 |.part f g b=>∃a:f,g a/\Q (b a).1 (b a).2
 |.bad=>False
def aj.pure:aj->Bool
 |.osl _|.optr _|.di|.mp _=>false
 |.st c=>c.pure
 |.pr a b=>a.pure&&b.pure
 |_=>true
def dR:aj->List a5->Option aj
 |τ,[]=>some τ
 |.osl c,.idx _::b=>dR c b
 |.optr c,.deref::b=>dR c b
 |.mp c,.deref::b=>dR c b
 |.st c,.unst::b=>dR c b
 |.pr a _,.fst::b=>dR a b
 |.pr _ d,.snd::b=>dR d b
 |_,_=>none
def eb:aj->Nat->Option (List a5×aj)
 |.pr a _,0=>some ([.fst],a)
 |.pr _ c,d+1=>match eb c d with|some b=>some (.snd::b.1,b.2)|none=>none
 |_,_=>none
def dF:aj->Nat->Nat
 |.pr _ _,0=>0
 |.pr a b,c+1=>a.size+dF b c
 |_,_=>0
def p7:(e:aj)->e.den->Nat->Option aH
 |.pr a _,b,0=>some ⟨a,b.1⟩
 |.pr _ c,b,d+1=>p7 c b.2 d
 |_,_,_=>none
def Fz {h:Program}:∀{τ:aj} {j:List Field} {f:Nat} {g:adY} {e:Nat} {s:List a5} {τf:aj},hz h τ j f g->eb τ e=some (s,τf)->∃c,j[e]?=some c/\c.offset=f+dF τ e/\dP h τf c.type
 |.pr a i,c::q,f,g,0,s,τf,d,b=>by simp only[eb,bS,gm] at b;obtain⟨rfl,rfl⟩:=b;exact⟨c,rfl,by rw[d.1];rfl,d.2.1⟩
 |.pr a i,c::q,f,g,e+1,s,τf,d,b=>by
  simp only[eb] at b;split at b
  ·rename_i k p;simp only[bS,gm] at b;obtain⟨rfl,rfl⟩:=b;obtain⟨l,m,n,o⟩:=Fz (τ:=i) d.2.2.2.2 (s:=k.1) (τf:=k.2) p;exact⟨l,by simpa using m,by rw[n];simp only[dF];omega,o⟩
  cases b
 |.pr _ _,[],_,_,_,_,_,d,_=>d.elim
 |.int _,_,_,_,_,_,_,_,b=>by cases b
 |.bool,_,_,_,_,_,_,_,b=>by cases b
 |.str,_,_,_,_,_,_,_,b=>by cases b
 |.bb _ _,_,_,_,_,_,_,_,b=>by cases b
 |.osl _,_,_,_,_,_,_,_,b=>by cases b
 |.ptr _ _,_,_,_,_,_,_,_,b=>by cases b
 |.optr _,_,_,_,_,_,_,_,b=>by cases b
 |.st _,_,_,_,_,_,_,_,b=>by cases b
 |.nil,_,_,_,_,_,_,_,b=>by cases b
 |.di,_,_,_,_,_,_,_,b=>by cases b
def FC:∀{τ:aj} {f:τ.den} {d:Nat} {c:aH},p7 τ f d=some c->∃e,eb τ d=some (e,c.1)
 |.pr a g,f,0,c,b=>by simp only[p7,bS] at b;subst b;exact⟨_,rfl⟩
 |.pr a g,f,d+1,c,b=>by obtain⟨e,h⟩:=FC (τ:=g) b;exact⟨.snd::e,by simp[eb,h]⟩
 |.int _,_,_,_,b=>by cases b
 |.bool,_,_,_,b=>by cases b
 |.str,_,_,_,b=>by cases b
 |.bb _ _,_,_,_,b=>by cases b
 |.osl _,_,_,_,b=>by cases b
 |.ptr _ _,_,_,_,b=>by cases b
 |.optr _,_,_,_,b=>by cases b
 |.st _,_,_,_,b=>by cases b
 |.nil,_,_,_,b=>by cases b
 |.di,_,_,_,b=>by cases b
def vN:∀{τ:aj} {c:Nat} {s:List a5} {tf:aj},eb τ c=some (s,tf)->dF τ c+tf.size<=τ.size
 |.pr a d,0,s,tf,b=>by simp only[eb,bS,gm] at b;obtain⟨_,rfl⟩:=b;simp[dF,aj.size]
 |.pr a d,c+1,s,tf,b=>by
  simp only[eb] at b;split at b
  ·rename_i e f;simp only[bS,gm] at b;obtain⟨_,rfl⟩:=b;have:=vN (τ:=d) (s:=e.1) (tf:=e.2) f;simp only[dF,aj.size];omega
  cases b
 |.int _,_,_,_,b=>by cases b
 |.bool,_,_,_,b=>by cases b
 |.str,_,_,_,b=>by cases b
 |.bb _ _,_,_,_,b=>by cases b
 |.osl _,_,_,_,b=>by cases b
 |.ptr _ _,_,_,_,b=>by cases b
 |.optr _,_,_,_,b=>by cases b
 |.st _,_,_,_,b=>by cases b
 |.nil,_,_,_,b=>by cases b
 |.di,_,_,_,b=>by cases b
def FB {j:dg->Nat->Prop} {w:World}:∀{τ:aj} {f:τ.den} {e:Nat} {c:aH} {d:adY},aT j w τ d f []->p7 τ f e=some c->aT j w c.1 ((d.drop (dF τ e)).take c.1.size) c.2 []/\dF τ e+c.1.size<=τ.size
 |.pr a k,f,0,c,d,i,b=>by simp only[p7,bS] at b;subst b;obtain⟨g,f2,h,l,m⟩:=i;obtain⟨rfl,rfl⟩:g=[]/\f2=[]:=(by simpa[eq_comm] using h);exact⟨by simpa[dF] using l,by simp[dF,aj.size]⟩
 |.pr a k,f,e+1,c,d,i,b=>by obtain⟨g,f2,h,l,m⟩:=i;obtain⟨rfl,rfl⟩:g=[]/\f2=[]:=(by simpa[eq_comm] using h);obtain⟨n,o⟩:=FB (τ:=k) m b;refine⟨?_,by simp only[dF,aj.size];omega⟩;simp only[dF];rwa[pt] at n
 |.int _,_,_,_,_,_,b=>by cases b
 |.bool,_,_,_,_,_,b=>by cases b
 |.str,_,_,_,_,_,b=>by cases b
 |.bb _ _,_,_,_,_,_,b=>by cases b
 |.osl _,_,_,_,_,_,b=>by cases b
 |.ptr _ _,_,_,_,_,_,b=>by cases b
 |.optr _,_,_,_,_,_,b=>by cases b
 |.st _,_,_,_,_,_,b=>by cases b
 |.nil,_,_,_,_,_,b=>by cases b
 |.di,_,_,_,_,_,b=>by cases b
theorem aW.e1 {w:World} {a:Loc}:aW w d v g [] q a x↔d=q/\v=a/\g=x:=by cases d<;>exact Iff.rfl
def aW.append {w:World}:∀{p c:List a5} {τ u v:aj} {n q r:Loc} {m k l:adY},aW w τ n m p u q k->aW w u q k c v r l->aW w τ n m (p++c) v r l
 |[],c,τ,_,_,_,_,_,_,_,_,a,b=>by obtain⟨rfl,rfl,rfl⟩:=aW.e1.1 a;exact b
 |s::p,c,τ,_,_,_,_,_,_,_,_,a,b=>by
  cases τ<;>cases s<;>simp only[aW] at a
  case osl.idx t i=>
   obtain⟨d,o,z,x,e,f,g,h,j,y⟩:=a;exact⟨d,o,z,x,e,f,g,h,j,y.append b⟩
  case optr.deref t=>
   obtain⟨d,o,e,f,g,h,j⟩:=a;exact⟨d,o,e,f,g,h,j.append b⟩
  case st.unst t=>exact aW.append (p:=p) (τ:=t) a b
  case pr.fst t1 t2=>exact aW.append (p:=p) (τ:=t1) a b
  case pr.snd t1 t2=>exact aW.append (p:=p) (τ:=t2) a b
def aW.here {w:World}:aW w d v g [] d v g:=by cases d<;>exact⟨rfl,rfl,rfl⟩
def aW.ty {w:World}:∀{p:List a5} {τ c:aj} {m n:Loc} {e f:adY},aW w τ m e p c n f->dR τ p=some c
 |[],τ,_,_,_,_,_,a=>by obtain⟨rfl,_⟩:=aW.e1.1 a;cases τ<;>rfl
 |s::p,τ,_,_,_,_,_,a=>by
  cases τ<;>cases s<;>simp only[aW] at a
  case osl.idx t i=>obtain⟨d,o,r,q,g,h,j,k,b,l⟩:=a;exact l.ty
  case optr.deref t=>obtain⟨d,o,g,h,j,k,b⟩:=a;exact b.ty
  case st.unst t=>exact aW.ty (p:=p) (τ:=t) a
  case pr.fst t1 t2=>exact aW.ty (p:=p) (τ:=t1) a
  case pr.snd t1 t2=>exact aW.ty (p:=p) (τ:=t2) a
def aW.at {w:World}:∀{q:List a5} {τ r:aj} {h p:Loc} {g j:adY},aW w τ h g q r p j->g.length=τ.size->(∀b o,h=some (b,o)->dU w b o g)->j.length=r.size/\∀b o,p=some (b,o)->dU w b o j
 |[],τ,_,_,_,_,_,d,f,e=>by obtain⟨rfl,rfl,rfl⟩:=aW.e1.1 d;exact⟨f,e⟩
 |s::q,τ,_,h,_,g,_,d,f,e=>by
  cases τ<;>cases s<;>simp only[aW] at d
  case osl.idx t i=>
   obtain⟨b,o,A,z,u,v,n,k,l,x⟩:=d;exact x.at k (λm y c=>by simp only[bS,gm] at c;obtain⟨rfl,rfl⟩:=c;exact l)
  case optr.deref t=>
   obtain⟨b,o,u,v,n,k,l⟩:=d;exact l.at n (λm y c=>by simp only[bS,gm] at c;obtain⟨rfl,rfl⟩:=c;exact k)
  case st.unst t=>exact aW.at (τ:=t) d f e
  case pr.fst a b=>
   exact aW.at (τ:=a) d (by simp only[aj.size] at f;simp;omega) (λb o c=>(e b o c).take)
  case pr.snd a b=>
   refine aW.at (τ:=b) d (by simp only[aj.size] at f;simp;omega) (λm o c=>?_);cases h with
   |none=>simp at c
   |some B=>
    simp only[ga,bS,gm] at c;obtain⟨rfl,rfl⟩:=c;exact(e _ _ rfl).drop
def aW.Cj {w:World}:∀{τ:aj} {e:Nat} {s:List a5} {τf:aj} {l:Loc} {cs:adY},eb τ e=some (s,τf)->aW w τ l cs s τf (l.map λc=>(c.1,c.2+dF τ e)) ((cs.drop (dF τ e)).take τf.size)
 |.pr a f,0,s,τf,l,cs,d=>by
  simp only[eb,bS,gm] at d;obtain⟨rfl,rfl⟩:=d;have:(l.map λc=>(c.1,c.2+dF (.pr a f) 0))=l:=(by cases l<;>simp[dF]);rw[this];simp only[aW,dF,lv]
  first|exact aW.here|exact⟨rfl,rfl,rfl⟩|trivial|simp
 |.pr a f,e+1,s,τf,l,cs,d=>by
  simp only[eb] at d;split at d
  ·rename_i c g;simp only[bS,gm] at d;obtain⟨rfl,rfl⟩:=d;have:=aW.Cj (w:=w) (τ:=f) (s:=c.1) (τf:=c.2) (l:=l.map λc=>(c.1,c.2+a.size)) (cs:=cs.drop a.size) g;simp only[aW,dF];rw[pt] at this;cases l with
   |none=>exact this
   |some h=>simp only[ga,oo] at this|-;exact this
  cases d
 |.int _,_,_,_,_,_,b=>by cases b
 |.bool,_,_,_,_,_,b=>by cases b
 |.str,_,_,_,_,_,b=>by cases b
 |.bb _ _,_,_,_,_,_,b=>by cases b
 |.osl _,_,_,_,_,_,b=>by cases b
 |.ptr _ _,_,_,_,_,_,b=>by cases b
 |.optr _,_,_,_,_,_,b=>by cases b
 |.st _,_,_,_,_,_,b=>by cases b
 |.nil,_,_,_,_,_,b=>by cases b
 |.di,_,_,_,_,_,b=>by cases b
def df.uniq:∀{p:List a5} {τ:aj} {e:τ.den} {c:aj} {f g:c.den},df τ e p c f->df τ e p c g->f=g
 |[],τ,_,_,_,_,a,b=>by obtain⟨rfl,a⟩:=df.e1.1 a;obtain⟨_,b⟩:=df.e1.1 b;exact a.symm.trans b
 |s::p,τ,_,_,_,_,a,b=>by
  cases τ<;>cases s<;>simp only[df] at a b
  case osl.idx=>
   obtain⟨i,h,a⟩:=a;obtain⟨j,d,b⟩:=b;rw[h] at d;obtain rfl:=ee d;exact a.uniq b
  case optr.deref=>exact df.uniq (p:=p) a b
  case st.unst=>exact df.uniq (p:=p) a b
  case pr.fst=>exact df.uniq (p:=p) a b
  case pr.snd=>exact df.uniq (p:=p) a b
def Yields (E:eh) (C:dD) (st:aQ) (a:Act) (w:World) (I:Nat->Prop) (rt:Nat->adY) (fp:Nat->ad4) (o:Oper) (Q:ao->List (Nat×aH)->Prop):Prop:=
 ∃j d e i g f c,(execOp a.eval o).run E.P w=.ok (.value j) d/\gQ w d/\(∀b,I b->e b)/\(∀b,e b->I b\/(w.heap.size<=b/\b<d.heap.size))/\uU C st w d e c i g/\bL (bj e C.B) d (c++st.h) (dI c i rt) (dI c g fp) f j/\Q f c
section
variable {E:eh} {C:dD} {st:aQ} {a:Act} {w:World} {I:Nat->Prop} {rt:Nat->adY} {fp:Nat->ad4} {o:Oper} {Q:ao->List (Nat×aH)->Prop}
def Yields.pure {v:Value} (d:(execOp a.eval o).run E.P w=.ok (.value v) w) (e:bL (bj I C.B) w st.h rt fp L v) (c:Q L []):Yields E C st a w I rt fp o Q:=
 ⟨v,w,I,rt,fp,L,[],d,.refl w,λ_ b=>b,λ_ b=>.inl b,.nil,e,c⟩
def Yields.wp (t:bC C st a.tmps w I rt fp) (k:Yields E C st a w I rt fp o Q) {next:Act->World->Prop} {j:Exit->Act->World->Prop} {f:Nat} (u:o.dst=some f) (v:C.ok f) (x:∀b c e d,Q b c->e.defers=a.defers->ff C ⟨(f,b)::st.g,c++st.h⟩ e.tmps d->next e d):o.wp E.P a w next j:=by
 obtain⟨y,d,i,A,z,b,c,l,m,n,p,q,r,s⟩:=k;unfold Oper.wp;rw[l];show next (a.put o.dst y) d
 rw[u];exact x b c _ _ s rfl ⟨i,_,_,(t.ext m n p q).put v r⟩
def kF (h:BinOp) (a:IntKind) (d:Int) (g:IntKind) (b:Int):gR:=
 let c (i:Prop) (f:Int):gR:=if a=g then .part Int (λc=>i/\f=c) (λc=>(.val (.int a) c,[])) else .bad
 let e (f:Bool):gR:=if a=g then .dw (.val .bool f) [] else .bad
 match h with
 |.add=>c True (a.wrap (d+b))
 |.sub=>c True (a.wrap (d-b))
 |.mul=>c True (a.wrap (d*b))
 |.quo=>c (b≠0) (a.wrap (d.tdiv b))
 |.rem=>c (b≠0) (d.tmod b)
 |.and=>c True (a.wrap (BitVec.ofInt a.bits d&&&BitVec.ofInt a.bits b).toNat)
 |.or=>c True (a.wrap (BitVec.ofInt a.bits d|||BitVec.ofInt a.bits b).toNat)
 |.xor=>c True (a.wrap (BitVec.ofInt a.bits d^^^BitVec.ofInt a.bits b).toNat)
 |.andNot=>c True (a.wrap (BitVec.ofInt a.bits d&&&~~~BitVec.ofInt a.bits b).toNat)
 |.shl=>.part Int (λc=>0<=b/\a.wrap (d*2^min b.toNat a.bits)=c) (λc=>(.val (.int a) c,[]))
 |.shr=>.part Int (λc=>0<=b/\d.fdiv (2^min b.toNat a.bits)=c) (λc=>(.val (.int a) c,[]))
 |.eql=>e (d==b)
 |.neq=>e (d !=b)
 |.lss=>e (decide (d<b))
 |.leq=>e (decide (d<=b))
 |.gtr=>e (decide (d>b))
 |.geq=>e (decide (d>=b))
def Ey (c:BinOp) (a b:ao):gR:=
 match a,b with
 |.val (.int d) a,.val (.int e) b=>kF c d a e b
 |.val .bool a,.val .bool b=>match c with
  |.eql=>.dw (.val .bool (a==b)) []
  |.neq=>.dw (.val .bool (!(a==b))) []
  |_=>.bad
 |_,_=>.bad
def QD {d:BinOp} {r:TypeId} {j:IntKind} {m:Int} (f:o.op=.binOp d H b i r) (g:a.eval b=.int u m) (h:a.eval i=.int j S) (c:(kF d u m j S).K Q):Yields E C st a w I rt fp o Q:=by
 have e:∀w,(eqGuard d H b i (.int u m) (.int j S)).run E.P w=.ok () w:=λw=>(by unfold eqGuard;cases d<;>simp);have n:d=.shl->Yields E C st a w I rt fp o Q:=(by rintro rfl;simp only[kF] at c;obtain⟨k,⟨l,rfl⟩,c⟩:=c;exact .pure (v:=.int u _) (by simp[execOp,f,g,h,e,binOp,Op.shift,(U:¬S<0)]) (.int u _) c);have p:d=.shr->Yields E C st a w I rt fp o Q:=(by rintro rfl;simp only[kF] at c;obtain⟨k,⟨l,rfl⟩,c⟩:=c;exact .pure (v:=.int u _) (by simp[execOp,f,g,h,e,binOp,Op.shift,(U:¬S<0)]) (.int u _) c);by_cases q:u=j
 case neg=>
  cases d<;>simp only[kF,q,if_false] at c
  case shl=>exact n rfl
  case shr=>exact p rfl
  all_goals exact c.elim
 subst q;cases d<;>simp only[kF,if_true] at c
 case shl=>exact n rfl
 case shr=>exact p rfl
 case quo|rem=>
  obtain⟨k,⟨l,rfl⟩,c⟩:=c;exact .pure (v:=.int u _) (by simp[execOp,f,g,h,e,binOp,Op.intDiv,l]) (.int u _) c
 case add|sub|mul=>
  obtain⟨k,⟨_,rfl⟩,c⟩:=c;exact .pure (v:=.int u _) (by simp[execOp,f,g,h,e,binOp,Op.intArith]) (.int u _) c
 case and|or|xor|andNot=>
  obtain⟨k,⟨_,rfl⟩,c⟩:=c;exact .pure (v:=.int u _) (by simp only[execOp,f,g,h,Sem.run_bind,e,binOp,Op.intBits];simp) (.int u _) c
 all_goals exact .pure (v:=.bool _) (by simp[execOp,f,g,h,e,binOp,Op.intCmp]) (.bool _) c
def run_equalIn_bool (w:World) (c:Nat) (a b:Bool) (d:O.underlying H=some .bool):(Op.equalIn (c+1) H (.bool a) (.bool b)).run O w=.ok (a==b) w:=by simp[Op.equalIn,run_underlying d]
def run_eql_bool (w:World) (a b:Bool) (c:O.underlying H=some .bool):(binOp .eql H (.bool a) (.bool b)).run O w=.ok (.bool (a==b)) w:=by simp only[binOp];simp[Op.equal,Op.maxDepth,run_equalIn_bool w 9999 a b c]
def run_neq_bool (w:World) (a b:Bool) (c:O.underlying H=some .bool):(binOp .neq H (.bool a) (.bool b)).run O w=.ok (.bool (!(a==b))) w:=by simp only[binOp];simp[Op.equal,Op.maxDepth,run_equalIn_bool w 9999 a b c]
def I8 (t:bC C st a.tmps w I rt fp) {h:BinOp} {D:TypeId} (q:o.op=.binOp h H b i D) (B:∀j k:Bool,(h=.eql\/h=.neq)->(aV st.g b=.val .bool j/\aV st.g i=.val .bool k)->E.P.underlying H=some .bool) (d:(Ey h (aV st.g b) (aV st.g i)).K Q):Yields E C st a w I rt fp o Q:=by
 have e:=t.aV b;have f:=t.aV i;unfold Ey at d;split at d
 ·rename_i G L J M n p;rw[n] at e;rw[p] at f;obtain⟨c,m⟩:∃c,c=a.eval b:=⟨_,rfl⟩;obtain⟨F,l⟩:∃c,c=a.eval i:=⟨_,rfl⟩;rw[<-m] at e;rw[<-l] at f;cases e with|val r=>cases f with|val s=>
  obtain⟨_,rfl⟩:=r;obtain⟨_,rfl⟩:=s;exact QD q m.symm l.symm d
 ·rename_i j k n p;have l:=B j k;have A:aV st.g b=.val .bool j/\aV st.g i=.val .bool k:=⟨n,p⟩;rw[n] at e;rw[p] at f;obtain⟨c,m⟩:∃c,c=a.eval b:=⟨_,rfl⟩;obtain⟨F,x⟩:∃c,c=a.eval i:=⟨_,rfl⟩;rw[<-m] at e;rw[<-x] at f;cases e with|val r=>cases f with|val s=>
  obtain⟨_,rfl⟩:=r;obtain⟨_,rfl⟩:=s;have z:a.eval b=.bool j:=m.symm;have y:a.eval i=.bool k:=x.symm;have u:∀w,(eqGuard h H b i (.bool j) (.bool k)).run E.P w=.ok () w:=λw=>(by unfold eqGuard;cases h<;>simp);split at d
  ·have:=l (.inl rfl) A;exact .pure (v:=.bool _) (by simp only[execOp,q,z,y,Sem.run_bind,u,Result.andThen_ok,run_eql_bool _ _ _ this];rfl) (.bool _) d
  ·have:=l (.inr rfl) A;exact .pure (v:=.bool _) (by simp only[execOp,q,z,y,Sem.run_bind,u,Result.andThen_ok,run_neq_bool _ _ _ this];rfl) (.bool _) d
  exact d.elim
 exact d.elim
end
end
section
section
variable {E:eh} {C:dD} {st:aQ} {a:Act} {w:World} {I:Nat->Prop} {rt:Nat->adY} {fp:Nat->ad4} {o:Oper} {Q:ao->List (Nat×aH)->Prop}
theorem bC.notM (d:bC C st y w I rt fp) {id:Nat} {c:aH} (f:au st.h id=some c):∀a∈fp id,∀b,¬bj I C.B b a:=λa e b g=>by have:=(d.tree id c f).2.2 a e;grind [mq]
theorem bC.jO (e:bC C st y w I rt fp) {id:Nat} {a:aH} (f:au st.h id=some a) {p:List a5} {τ:aj} {i:τ.den} (l:df a.1 a.2 p τ i) (m:aW w a.1 none (rt id) p d v g):∃_e:d=τ,∃b,aT (bj I C.B) w τ g i b/\oj w v g τ.size/\∀j∈b,j∈fp id:=by obtain⟨o,n,_⟩:=e.tree id a f;obtain⟨u,q,b,x,k,r,s,t,_⟩:=Ck p (loc:=none) o (λ_ _ c=>by cases c) n (λ_ _ c=>by cases c) (e.notM f) l;obtain⟨rfl,rfl,rfl⟩:=m.iF k;grind
def bC.NN (e:bC C st y w I rt fp) {id:Nat} {a:aH} (i:au st.h id=some a) (f:aW w a.1 none (rt id) n d v g):g.length=d.size/\∀b o,v=some (b,o)->dU w b o g:=f.at (e.tree id a i).1.len (λ_ _ c=>by cases c)
theorem nT {u:dg->Nat->Prop}:∀{p:List a5} {τ:aj} {E:Loc} {j:adY} {m:τ.den} {g:ad4} {c:aj} {F:Loc} {n:adY},aT u w τ j m g->aW w τ E j p (.optr c) F n->∃d o e,n=[.pointer (some ⟨d,o,none⟩)]/\e.length=c.size/\dU w d o e
 |[],τ,_,_,_,_,_,_,_,a,b=>by obtain⟨rfl,rfl,rfl⟩:=aW.e1.1 b;obtain⟨d,o,g,e,q,_,t,h,_⟩:=a;grind
 |s::p,τ,_,j,m,g,_,_,_,a,b=>by
  cases τ<;>cases s<;>simp only[aW] at b
  case osl.idx c i=>
   obtain⟨d,o,N,J,e,rfl,r,t,h,l⟩:=b;obtain⟨I,K,f,a⟩:=a;simp only[gu,Value.slice.injEq,and_true] at f;obtain⟨rfl,rfl,rfl⟩:=f;rcases a with⟨k,_⟩|⟨v,G,B,k,_,ax,O,P,H⟩
   ·cases k
   cases k;obtain⟨z,L,x,y⟩:=H i m[i] (B[i]'(by omega)) ac ac
   obtain rfl:=h.eq x U;exact nT (p:=p) y l
  case optr.deref c=>
   obtain⟨d,o,e,rfl,t,h,l⟩:=b;obtain⟨v,G,g,z,f,_,M,C,_,D⟩:=a;simp only[gu,Value.pointer.injEq,bS,Addr.mk.injEq,and_true] at f;obtain⟨rfl,rfl⟩:=f;obtain rfl:=h.eq C U;exact nT (p:=p) D l
  case st.unst c=>exact nT (p:=p) (τ:=c) a b
  case pr.fst t1 t2=>obtain⟨A,f2,_,q,_⟩:=a;exact nT (p:=p) (τ:=t1) q b
  case pr.snd t1 t2=>obtain⟨A,f2,_,_,r⟩:=a;exact nT (p:=p) (τ:=t2) r b
def fh (tt:List (TypeId×aj)) (a:TypeId):Option aj:=match au tt a with|some (.bb _ b)=>some b|_=>none
def kl (tt:List (TypeId×aj)) (a:TypeId):Option aj:=match au tt a with|some (.st b)=>some b|_=>none
theorem fh.ok {a:TypeId} {e:aj} (c:fh E.tt a=some e):∃d b,E.P.info? a=some d/\E.P.underlying a=some (.slice b)/\dP E.P e b:=by
 unfold fh at c;split at c
 ·rename_i j k f;cases c;obtain⟨d,b,g,_,_,_,h,i⟩:=E.ok a _ f;grind
 grind
theorem kl.ok {a:TypeId} {d:aj} (c:kl E.tt a=some d):∃b e,E.P.underlying a=some (.struct b)/\hz E.P d b.toList 0 e:=by
 unfold kl at c;split at c
 ·rename_i k f;cases c;obtain⟨_,j,b,e,g,_,_,_,h,i,_⟩:=E.ok a _ f;grind
 grind
def tL (tt:List (TypeId×aj)) (e:List (Nat×aH)) (g:TypeId) (b:ao):gR:=
 match fh tt g with
 |none=>.bad
 |some _=>match b with
  |.val (.bb _ _) a=>.dw (.val (.int .i64) (a.length:Int)) []
  |.cv (.slice none 0 0)=>.dw (.val (.int .i64) (0:Int)) []
  |.ref id d=>match au e id with
   |some ⟨c,b⟩=>match dR c d with
    |some (.osl f)=>.part (List f.den) (λa=>df c b d (.osl f) a) (λa=>(.val (.int .i64) (a.length:Int),[]))
    |_=>.bad
   |none=>.bad
  |.view _ _ i h=>.dw (.val (.int .i64) ((h-i:Nat):Int)) []
  |.app id d c j _=>match au e id with
   |some ⟨k,b⟩=>.part (List c.den) (λa=>df k b d (.osl c) a) (λa=>(.val (.int .i64) ((a.length+j.length:Nat):Int),[]))
   |none=>.bad
  |_=>.bad
def vU (f:fh E.tt H=some d) (g:o.op=.call {callee:=.builtin .len,args:=#[b],argTypes:=#[H]}) (i:a.eval b=.slice r c h):(execOp a.eval o).run E.P w=.ok (.value (.int .i64 c)) w:=by obtain⟨k,j,_,e,_⟩:=fh.ok f;simp[execOp,g,resolve,invoke,builtin,i,Builtin.len_,run_underlying e,goInt]
def TV (s:bC C st a.tmps w I rt fp) (j:o.op=.call {callee:=.builtin .len,args:=#[b],argTypes:=#[H]}) (c:(tL E.tt st.h H (aV st.g b)).K Q):Yields E C st a w I rt fp o Q:=by
 have d:=s.aV b;unfold tL at c;split at c
 ·exact c.elim
 rename_i T i;generalize f:a.eval b=U at d;split at c
 ·rename_i R B u e;rw[e] at d;cases d with|val A=>
  obtain⟨_,p,q,rfl,_⟩:=A;exact .pure (vU i j f) (.int _ _) c
 ·rename_i e;rw[e] at d;cases d;exact .pure (vU i j f) (.int _ _) c
 ·rename_i id t e;rw[e] at d;split at c
  ·rename_i F D l;split at c
   ·rename_i B O;obtain⟨u,m,c⟩:=c;cases d with|ref k n=>
    rw[l] at k;cases k;obtain⟨rfl,G,z,_⟩:=s.jO l m n;obtain⟨p,q,rfl,_⟩:=z;exact .pure (vU i j f) (.int _ _) c
   exact c.elim
  exact c.elim
 ·rename_i id t P M e;rw[e] at d;cases d with
  |kR=>exact .pure (vU i j f) (.int _ _) c
  |view k n=>exact .pure (vU i j f) (.int _ _) c
 ·rename_i id t F V S e;rw[e] at d;split at c
  ·rename_i W D l;obtain⟨u,m,c⟩:=c;cases d with|app k N n x J L v=>
   rw[l] at k;cases k;obtain⟨p,q,r,_⟩:=v;simp only[gu,and_true] at r;have y:=df.uniq m x;subst y;rw[r] at f;have:=vU (w:=w) i j f;rw[oi] at this;exact .pure this (.int _ _) c
  exact c.elim
 exact c.elim
def aW.KM {o:Nat} (a:h<N) (b:g.length=d.size) (e:dU w c (o+h*d.size) g):aW w (.osl d) v [.slice (some ⟨c,o,none⟩) N P] [.idx h] d (some (c,o+h*d.size)) g:=⟨c,o,N,P,g,rfl,a,b,e,aW.here⟩
def aW.E8 {o:Nat} (a:g.length=d.size) (b:dU w c o g):aW w (.optr d) v [.pointer (some ⟨c,o,none⟩)] [.deref] d (some (c,o)) g:=⟨c,o,g,rfl,a,b,aW.here⟩
def tG (
 tt:List (TypeId×aj)) (i:List (Nat×aH)) (k:TypeId) (e d:ao):gR:=
 match fh tt k with
 |none=>.bad
 |some g=>match d with
  |.val (.int _) d=>match e with
   |.val (.bb m b) n=>bif ba g b then .part b.den (λh=>aC n d=some h) (λh=>(.val (.ptr m b) (some h),[])) else .bad
   |.ref id c=>match au i id with
    |some ⟨f,e⟩=>match dR f c with
     |some (.osl b)=>bif ba g b then .part (List b.den×Nat) (λa=>df f e c (.osl b) a.1/\d=(a.2:Int)/\a.2<a.1.length) (λa=>(.addr id (c++[.idx a.2]),[])) else .bad
     |_=>.bad
    |none=>.bad
   |.view id c j l=>match au i id with
    |some ⟨f,e⟩=>match dR f c with
     |some (.osl b)=>bif ba g b then .part (List b.den×Nat) (λa=>df f e c (.osl b) a.1/\d=(a.2:Int)/\a.2<l-j) (λa=>(.addr id (c++[.idx (j+a.2)]),[])) else .bad
     |_=>.bad
    |none=>.bad
   |_=>.bad
  |_=>.bad
def FQ (k:fh E.tt H=some q) (m:ba q d=true) (n:o.op=.indexAddr H i b) {e f:Nat} (r:a.eval i=.slice (some ⟨N,e,none⟩) h f) (l:a.eval b=.int u c) (t:c<h):(execOp a.eval o).run E.P w=.ok (.value (.pointer (some ⟨N,e+c*d.size,none⟩))) w:=by obtain⟨v,s,_,g,j⟩:=fh.ok k;have p:=(j.lay m).sizeOf w;have:(0:Int)<=(c:Int)/\(c:Int)<(h:Int):=⟨U,U⟩;simp[execOp,n,r,l,Instr.indexAt,asIntOf,run_underlying g,this,p,Addr.add_lit];omega
theorem Tp (B:bC C st a.tmps w I rt fp) (N:o.op=.indexAddr H i b) (c:(tG E.tt st.h H (aV st.g i) (aV st.g b)).K Q):Yields E C st a w I rt fp o Q:=by
 have l:=B.aV i;have M:=B.aV b;unfold tG at c;split at c
 ·exact c.elim
 rename_i V L;generalize O:a.eval i=d2 at l;generalize P:a.eval b=d3 at M;split at c
 case h_2=>exact c.elim
 rename_i ab R a0;rw[a0] at M;cases M with|val T=>
 obtain⟨_,rfl⟩:=T;split at c
 ·rename_i ce f z r;cases d:ba V f with
  |false=>rw[d] at c;exact c.elim
  |true=>
   rw[d] at c;obtain⟨W,bB,c⟩:=c;rw[r] at l;cases l with|val T=>
   obtain⟨_,X,Y,rfl,ax,ad,S⟩:=T;obtain⟨al,ap,av⟩:=Kz bB;rcases S with rfl|⟨A,v,rfl,a4,y⟩
   ·grind
   obtain⟨F,p,q,D⟩:=y _ _ av;have bs:a.eval b=.int ab (R.toNat:Nat):=(by rw[P];show Value.int ab R=_;grind);exact .pure (FQ L d N O bs ap) (.val (τ:=.ptr ce f) (x:=some W) (cs:=[.pointer (some ⟨A,v+R.toNat*f.size,none⟩)]) ⟨rfl,A,_,F,rfl,a4,p,q,D⟩) c
 ·rename_i id ci r;split at c
  case h_2=>exact c.elim
  rename_i am W k;split at c
  case h_2=>exact c.elim
  rename_i f bl;cases d:ba V f with
  |false=>rw[d] at c;exact c.elim
  |true=>
   rw[d] at c;obtain⟨⟨z,e⟩,⟨s,rfl,m⟩,c⟩:=c;simp only at s m c;rw[r] at l;cases l with|ref u t=>
   rw[k] at u;cases u;obtain⟨rfl,a3,j,_⟩:=B.jO k s t;obtain⟨X,Y,rfl,j⟩:=j;rcases j with⟨_,rfl,_⟩|⟨A,v,G,rfl,_,ax,ad,S,y⟩
   ·grind
   obtain⟨F,p,q,D⟩:=y e z[e] (G[e]'(by omega)) ac ac
   exact .pure (FQ L d N O P m) (.addr k (t.append (aW.KM m p q))) c
 ·rename_i id ci n c1 r;split at c
  case h_2=>exact c.elim
  rename_i am W k;split at c
  case h_2=>exact c.elim
  rename_i f bl;cases d:ba V f with
  |false=>rw[d] at c;exact c.elim
  |true=>
   rw[d] at c;obtain⟨⟨z,e⟩,⟨s,rfl,m⟩,c⟩:=c;simp only at s m c;rw[r] at l;cases l with|kR=>omega|view u t c2 dl ds=>
   rename_i A v d0 Y;rw[k] at u;cases u;obtain⟨an,a3,j,_⟩:=B.jO k s t;cases an;obtain⟨X,cv,Z,j⟩:=j;simp only[gu,Value.slice.injEq,and_true] at Z;obtain⟨rfl,rfl,rfl⟩:=Z;rcases j with⟨J,_⟩|⟨co,d1,G,J,_,ax,ad,S,y⟩
   ·cases J
   cases J;have bd:n+e<z.length:=U;obtain⟨F,p,q,D⟩:=y (n+e) z[n+e] (G[n+e]'(by omega)) ac ac
   have:=FQ (w:=w) L d N O P m;rw[ah U,show v+n*f.size+e*f.size=v+(n+e)*f.size by grind] at this;exact .pure this (.addr k (t.append (aW.KM bd p q))) c
 exact c.elim
def aT.pure {h:dg->Nat->Prop} {w:World}:∀{τ:aj} {i:adY} {e:τ.den} {g:ad4},τ.pure=true->aT h w τ i e g->g=[]
 |.int _,_,_,_,_,b=>b.1
 |.bool,_,_,_,_,b=>b.1
 |.str,_,_,_,_,b=>b.1
 |.bb _ _,_,_,_,_,b=>b.1
 |.ptr _ _,_,_,_,_,b=>b.1
 |.nil,_,_,_,_,b=>b.1
 |.st k,_,_,_,c,b=>aT.pure (τ:=k) c b
 |.pr a f,_,_,_,c,b=>by simp only[aj.pure,bp] at c;obtain⟨n,f2,rfl,j,d⟩:=b;rw[aT.pure (τ:=a) c.1 j,aT.pure (τ:=f) c.2 d];rfl
 |.osl _,_,_,_,c,_=>by cases c
 |.optr _,_,_,_,c,_=>by cases c
 |.dN _ _,_,e,_,_,b=>by
  cases e with
  |none=>exact b.1
  |some o=>obtain⟨f,m,l,_,d,_⟩:=b;exact d
 |.di,_,_,_,c,_=>by cases c
def ui (d:aj) (e:d.den) (id:Nat) (c:List a5) (a:aj):gR:=
 bif a.pure then .part a.den (λb=>df d e c a b) (λb=>(.val a b,[])) else .dw (.ref id c) []
def tM (tt:List (TypeId×aj)) (f:List (Nat×aH)) (g:TypeId) (c:ao):gR:=
 match au tt g with
 |none=>.bad
 |some e=>match c with
  |.val (.ptr _ a) (some h)=>bif ba e a then .dw (.val a h) [] else .bad
  |.addr id b=>match au f id with
   |some ⟨d,c⟩=>match dR d b with
    |some a=>bif ba e a then ui d c id b a else .bad
    |none=>.bad
   |none=>.bad
  |.ref id b=>match au f id with
   |some ⟨d,c⟩=>match dR d b with
    |some (.optr a)=>bif ba e a then ui d c id (b++[.deref]) a else .bad
    |_=>.bad
   |none=>.bad
  |_=>.bad
theorem Ge (e:au E.tt H=some q) (j:ba q d=true) (k:o.op=.load H b) (l:a.eval b=.pointer (some ⟨c,h,none⟩)) (f:dU w c h g) (i:g.length=d.size):(execOp a.eval o).run E.P w=.ok (.value (bO d g)) w:=by have:=NW ((E.ok H q e).lay j) f i;simp_all [execOp,Instr.loadAt,Instr.sureAddr]
theorem Hf (l:bC C st a.tmps w I rt fp) {id:Nat} {k:q.den} (j:au st.h id=some ⟨q,k⟩) (e:aW w q none (rt id) n d v g) (f:(execOp a.eval o).run E.P w=.ok (.value (bO d g)) w) (b:(ui q k id n d).K Q):Yields E C st a w I rt fp o Q:=by
 unfold ui at b;cases c:d.pure with
 |true=>
  rw[c] at b;obtain⟨r,m,b⟩:=b;obtain⟨_,p,i,_⟩:=l.jO j m e;have:=i.pure c;subst this;exact .pure f (.val i) b
 |false=>
  rw[c] at b;exact .pure f (.ref j e) b
theorem T2 (m:bC C st a.tmps w I rt fp) (t:o.op=.load H b) (c:(tM E.tt st.h H (aV st.g b)).K Q):Yields E C st a w I rt fp o Q:=by
 have e:=m.aV b;unfold tM at c;split at c
 ·exact c.elim
 rename_i p s;generalize u:a.eval b=O at e;split at c
 ·rename_i N l x j;cases d:ba p l with
  |false=>rw[d] at c;exact c.elim
  |true=>
   rw[d] at c;rw[j] at e;cases e with|val G=>
   obtain⟨_,y,A,z,rfl,ax,v,D,F⟩:=G;exact .pure (Ge s d t u D v) (.val F) c
 ·rename_i id B j;split at c
  case h_2=>exact c.elim
  rename_i J x i;split at c
  case h_2=>exact c.elim
  rename_i l n;cases d:ba p l with
  |false=>rw[d] at c;exact c.elim
  |true=>
   rw[d] at c;rw[j] at e;cases e with|addr k f=>
   rw[i] at k;cases k;have:=f.ty;rw[n] at this;cases this;obtain⟨ax,v⟩:=m.NN i f;grind [Hf,Ge]
 ·rename_i id B j;split at c
  case h_2=>exact c.elim
  rename_i J x i;split at c
  case h_2=>exact c.elim
  rename_i l n;cases d:ba p l with
  |false=>rw[d] at c;exact c.elim
  |true=>
   rw[d] at c;rw[j] at e;cases e with|ref k f=>
   rename_i P M L;rw[i] at k;cases k;have:=f.ty;rw[n] at this;cases this;obtain⟨y,A,z,rfl,q,r⟩:=nT (m.tree id _ i).1 f;exact Hf m i (f.append (aW.E8 q r)) (Ge s d t u r q) c
 exact c.elim
def tw (tt:List (TypeId×aj)) (g:List (Nat×aH)) (h:TypeId) (k:ao) (c:Nat):gR:=
 match kl tt h with
 |none=>.bad
 |some e=>match k with
  |.val (.ptr i (.st a)) (some l)=>bif ba e a then match p7 a l c with
   |some ⟨j,m⟩=>.dw (.val (.ptr i j) (some m)) []
   |none=>.bad
   else .bad
  |.ref id b=>match au g id with
   |some ⟨f,_⟩=>match dR f b with
    |some (.optr (.st a))=>bif ba e a then match eb a c with
     |some (d,_)=>.dw (.addr id (b++(.deref::.unst::d))) []
     |none=>.bad
     else .bad
    |_=>.bad
   |none=>.bad
  |.addr id b=>match au g id with
   |some ⟨f,_⟩=>match dR f b with
    |some (.st a)=>bif ba e a then match eb a c with
     |some (d,_)=>.dw (.addr id (b++(.unst::d))) []
     |none=>.bad
     else .bad
    |_=>.bad
   |none=>.bad
  |_=>.bad
theorem Fy (k:kl E.tt H=some R) (m:ba R d=true) (s:eb d c=some (n,q)) (p:o.op=.fieldAddr H b c) (t:a.eval b=.pointer (some ⟨h,N,none⟩)):(execOp a.eval o).run E.P w=.ok (.value (.pointer (some ⟨h,N+dF d c,none⟩))) w:=by obtain⟨g,x,i,j⟩:=kl.ok k;obtain⟨f,v,r,e⟩:=Fz (hz.lay m j) s;have u:q.size≠0:=(by have:=e.pos;omega);have l:g[c]?=some f:=(by grind);simp[execOp,p,t,Instr.fieldAt,run_underlying i,l,Instr.sureAddr,fieldPlace,e.sizeOf,u,Addr.add_lit,r]
theorem SO (G:bC C st a.tmps w I rt fp) (y:o.op=.fieldAddr H b c) (d:(tw E.tt st.h H (aV st.g b) c).K Q):Yields E C st a w I rt fp o Q:=by
 have m:=G.aV b;unfold tw at d;split at d
 ·exact d.elim
 rename_i D v;generalize A:a.eval b=ad at m;split at d
 ·rename_i U e N r;cases i:ba D e with
  |false=>rw[i] at d;exact d.elim
  |true=>
   rw[i] at d;simp only[cond_true] at d;split at d
   case h_2=>exact d.elim
   rename_i n Z J;rw[r] at m;cases m with|val X=>
   obtain⟨_,f,j,u,rfl,ax,ab,W,L⟩:=X;obtain⟨t,k⟩:=FC J;obtain⟨M,Y⟩:=FB (τ:=e) L J;have S:=L.len;simp only[aj.size] at S M Y;exact .pure (Fy v i k y A) (.val (τ:=.ptr U n) (x:=some Z) (cs:=[.pointer (some ⟨f,j+dF e c,none⟩)]) ⟨rfl,f,_,_,rfl,ax,by grind,W.drop.take,M⟩) d
 ·rename_i id V r;split at d
  case h_2=>exact d.elim
  rename_i O N q;split at d
  case h_2=>exact d.elim
  rename_i e z;cases i:ba D e with
  |false=>rw[i] at d;exact d.elim
  |true=>
   rw[i] at d;simp only[cond_true] at d;split at d
   case h_2=>exact d.elim
   rename_i t n k;rw[r] at m;cases m with|ref s p=>
   rw[q] at s;cases s;have:=p.ty;rw[z] at this;cases this;obtain⟨f,j,u,rfl,P,R⟩:=nT (G.tree id _ q).1 p;rename_i T;have B:aW w (.optr (.st e)) T [.pointer (some ⟨f,j,none⟩)] (.deref::.unst::t) n (some (f,j+dF e c)) ((u.drop (dF e c)).take n.size):=⟨f,j,u,rfl,P,R,aW.Cj (l:=some (f,j)) k⟩;exact .pure (Fy v i k y A) (.addr q (p.append B)) d
 ·rename_i id V r;split at d
  case h_2=>exact d.elim
  rename_i O N q;split at d
  case h_2=>exact d.elim
  rename_i e z;cases i:ba D e with
  |false=>rw[i] at d;exact d.elim
  |true=>
   rw[i] at d;simp only[cond_true] at d;split at d
   case h_2=>exact d.elim
   rename_i t n k;rw[r] at m;cases m with|addr s p=>
   rw[q] at s;cases s;have:=p.ty;rw[z] at this;cases this;rename_i f j F;have B:aW w (.st e) (some (f,j)) F (.unst::t) n (some (f,j+dF e c)) ((F.drop (dF e c)).take n.size):=aW.Cj (l:=some (f,j)) k;exact .pure (Fy v i k y A) (.addr q (p.append B)) d
 exact d.elim
def vM (
 tt:List (TypeId×aj)) (i:List (Nat×aH)) (h:TypeId) (c:ao) (d:Nat):gR:=
 match kl tt h with
 |none=>.bad
 |some f=>match c with
  |.val (.st a) k=>bif ba f a then match p7 a k d with
   |some ⟨b,l⟩=>.dw (.val b l) []
   |none=>.bad
   else .bad
  |.ref id e=>match au i id with
   |some ⟨g,c⟩=>match dR g e with
    |some (.st a)=>bif ba f a then match eb a d with
     |some (j,b)=>ui g c id (e++(.unst::j)) b
     |none=>.bad
     else .bad
    |_=>.bad
   |none=>.bad
  |_=>.bad
theorem Kl (p:kl E.tt H=some R) (s:ba R d=true) (u:eb d c=some (n,q)) (t:o.op=.field H b c) (v:a.eval b=bO (.st d) g) (z:dF d c+q.size<=g.length):(execOp a.eval o).run E.P w=.ok (.value (bO q ((g.drop (dF d c)).take q.size))) w:=by
 obtain⟨j,D,l,m⟩:=kl.ok p;obtain⟨f,A,i,e⟩:=Fz (hz.lay s m) u;have C:=e.pos;have r:j[c]?=some f:=(by grind);simp only[jg] at i;have x:a.eval b=.agg g.toArray:=v;have y:(part f.type g.toArray f.offset).run E.P w=.ok (bO q ((g.drop (dF d c)).take q.size)) w:=by
  simp only[part,Sem.run_bind,e.isAgg,Result.andThen_ok,i];cases h:oX q with
  |true=>
   rw[Dl h];simp only[if_true,Sem.run_bind,e.sizeOf,Result.andThen_ok,Sem.run_pure];grind
  |false=>
   have k:=GU e h;rw[Dk h,k];have B:dF d c<g.length:=U;have:(g.drop (dF d c)).take 1=[g[dF d c]]:=(by grind [List.drop_eq_getElem_cons]);simp_all
 simp[execOp,t,x,Instr.field,run_underlying l,r,asAgg,y]
def SQ (m:bC C st a.tmps w I rt fp) (u:o.op=.field H b c) (d:(vM E.tt st.h H (aV st.g b) c).K Q):Yields E C st a w I rt fp o Q:=by
 have j:=m.aV b;unfold vM at d;split at d
 ·exact d.elim
 rename_i B s;generalize x:a.eval b=P at j;split at d
 ·rename_i f J l;cases e:ba B f with
  |false=>rw[e] at d;exact d.elim
  |true=>
   rw[e] at d;simp only[cond_true] at d;split at d
   case h_2=>exact d.elim
   rename_i q R t;rw[l] at j;cases j with|val z=>
   obtain⟨A,i⟩:=FC t;obtain⟨G,O⟩:=FB (τ:=f) z t;have F:=z.len;simp only[aj.size] at F;exact .pure (Kl s e i u x U) (.val G) d
 ·rename_i id M l;split at d
  case h_2=>exact d.elim
  rename_i L J p;split at d
  case h_2=>exact d.elim
  rename_i f D;cases e:ba B f with
  |false=>rw[e] at d;exact d.elim
  |true=>
   rw[e] at d;simp only[cond_true] at d;split at d
   case h_2=>exact d.elim
   rename_i A q i;rw[l] at j;cases j with|ref v n=>
   rename_i S y r;rw[p] at v;cases v;have:=n.ty;rw[D] at this;cases this;obtain⟨ax,N⟩:=m.NN p n;have k:aW w (.st f) y r (.unst::A) q (y.map λk=>(k.1,k.2+dF f c)) ((r.drop (dF f c)).take q.size):=aW.Cj i;exact Hf m p (n.append k) (Kl s e i u x (by rw[ax];exact vN i)) d
 exact d.elim
def tV (f:List (Nat×aH)) (b:ao):gR:=
 match b with
 |.val (.ptr h d) b=>.part d.den (λc=>b=some c) (λc=>(.val (.ptr h d) (some c),[]))
 |.ref id a=>match au f id with
  |some ⟨i,_⟩=>match dR i a with
   |some (.optr _)=>.dw (.ref id a) []
   |_=>.bad
  |none=>.bad
 |.addr id a=>.dw (.addr id a) []
 |.dv e g=>.dw (.dv e g) []
 |_=>.bad
theorem UP (p:bC C st a.tmps w I rt fp) (M:o.op=.nilCheck b) (c:(tV st.h (aV st.g b)).K Q):Yields E C st a w I rt fp o Q:=by
 have d:=p.aV b;unfold tV at c;generalize N:a.eval b=F at d;split at c
 ·rename_i u l m e;obtain⟨m,rfl,c⟩:=c;rw[e] at d;cases d with|val D=>
  obtain⟨_,f,k,n,rfl,ax,z,A,B⟩:=D;exact .pure (v:=.pointer (some ⟨f,k,none⟩)) (by simp_all [execOp,bO]) (.val (τ:=.ptr u l) (x:=some m) (cs:=[.pointer (some ⟨f,k,none⟩)]) ⟨rfl,f,k,n,rfl,ax,z,A,B⟩) c
 ·rename_i id y e;split at c
  case h_2=>exact c.elim
  rename_i G m j;split at c
  case h_2=>exact c.elim
  rename_i l t;rw[e] at d;cases d with|ref q i=>
  rw[j] at q;cases q;have:=i.ty;rw[t] at this;cases this;obtain⟨f,k,n,rfl,H,J⟩:=nT (p.tree id _ j).1 i;exact .pure (v:=.pointer (some ⟨f,k,none⟩)) (by simp_all [execOp,bO]) (.ref (τ':=.optr l) j i) c
 ·rename_i id y e;rw[e] at d;cases d with|addr j i=>
  exact .pure (by simp_all [execOp]) (.addr j i) c
 ·rename_i L O e;rw[e] at d;cases d with|dv s r=>
  exact .pure (by simp_all [execOp]) (.dv s r) c
 exact c.elim
def qZ (d:Option ao) (b a:Nat):Prop:=
 match d with
 |none=>a=b
 |some (.val (.int _) c)=>c=(a:Int)
 |some _=>False
def ur (tt:List (TypeId×aj)) (k:List (Nat×aH)) (j:TypeId) (d:ao) (g f:Option ao):gR:=
 match fh tt j with
 |none=>.bad
 |some h=>match d with
  |.val (.bb l b) e=>bif ba h b then
   .part c7 (λa=>qZ g 0 a.1/\qZ f e.length a.2/\a.1<=a.2/\a.2<=e.length) (λa=>(.val (.bb l b) ((e.take a.2).drop a.1),[])) else .bad
  |.ref id c=>match au k id with
   |some ⟨i,d⟩=>match dR i c with
    |some (.osl b)=>bif ba h b then
     .part (List b.den×Nat×Nat) (λa=>df i d c (.osl b) a.1/\qZ g 0 a.2.1/\qZ f a.1.length a.2.2/\a.2.1<=a.2.2/\a.2.2<=a.1.length) (λa=>(.view id c a.2.1 a.2.2,[])) else .bad
    |_=>.bad
   |none=>.bad
  |_=>.bad
def EC (a:Act) (e:adV) (c b:Nat):Prop:=
 match e with
 |none=>b=c
 |some f=>∃d,a.eval f=.int d b
theorem Hx (n:fh E.tt H=some q) (s:ba q d=true) {i e:adV} (t:o.op=.slice H b i e none) {f:Nat} (v:a.eval b=.slice r f N) (j:EC a i 0 h) (g:EC a e f c) (B:h<=c) (C:c<=N):(execOp a.eval o).run E.P w=.ok (.value (.slice (if N=h then r else r.map (·.add (h*d.size))) (c-h) (N-h))) w:=by
 obtain⟨F,z,_,l,m⟩:=fh.ok n;have u:=(m.lay s).sizeOf w;have al:(0:Int)<=(c:Int)/\(c:Int)<=(N:Int):=⟨U,U⟩;have A:(0:Int)<=(h:Int)/\(h:Int)<=(c:Int):=⟨U,U⟩;have k:(Instr.sliceBounds true f N (i.map a.eval) (e.map a.eval) none).run E.P w=.ok (h,c,N) w:=by
  cases i with
  |none=>
   obtain rfl:h=0:=j;cases e with
   |none=>obtain rfl:c=f:=g;simp[Instr.sliceBounds]
   |some y=>obtain⟨x,p⟩:=g;simp_all [Instr.sliceBounds,Instr.sliceBound,asIntOf]
  |some I=>
   obtain⟨G,D⟩:=j;cases e with
   |none=>obtain rfl:c=f:=g;simp_all [Instr.sliceBounds,Instr.sliceBound,asIntOf]
   |some y=>
    obtain⟨x,p⟩:=g;simp_all [Instr.sliceBounds,Instr.sliceBound,asIntOf]
 simp[execOp,t,v,Instr.sliceAt,Instr.slice,run_underlying l,k,u]
theorem vb (i:bC C st a.tmps w I rt fp) {d:adV} (b:qZ (d.map (aV st.g)) c h):EC a d c h:=by
 cases d with
 |none=>exact b
 |some f=>
  have:=i.aV f;simp only[ga,qZ] at b;split at b
  ·grind
  ·rename_i k m e;simp only[bS] at e;rw[e] at this;subst b;generalize j:a.eval f=n at this;cases this with|val l=>obtain⟨_,rfl⟩:=l;exact⟨k,j⟩
  grind
theorem Zj (e:bC C st a.tmps w I rt fp) {M y:adV} (z:o.op=.slice H b M y none) (c:(ur E.tt st.h H (aV st.g b) (M.map (aV st.g)) (y.map (aV st.g))).K Q):Yields E C st a w I rt fp o Q:=by
 have r:=e.aV b;unfold ur at c;split at c
 ·exact c.elim
 rename_i P v;generalize D:a.eval b=bl at r;split at c
 ·rename_i X i F u;cases f:ba P i with
  |false=>rw[f] at c;exact c.elim
  |true=>
   rw[f] at c;obtain⟨⟨d,m⟩,⟨j,k,l,s⟩,c⟩:=c;simp only at j k l s c;rw[u] at r;cases r with|val ab=>
   obtain⟨_,R,q,rfl,ax,N,O⟩:=ab;have t:=Hx (w:=w) v f z D (vb e j) (vb e k) l U;have W:((F.take m).drop d).length=m-d:=(by grind);refine .pure t (.val (τ:=.bb X i) (x:=(F.take m).drop d) (cs:=[_]) ⟨rfl,_,q-d,by rw[W],U,?_,?_⟩) c
   ·intro av;by_cases a0:q=d
    ·omega
    simp_all
   by_cases a3:m=d
   ·grind
   right;rcases O with rfl|⟨p,n,rfl,S,Z⟩
   ·grind
   refine⟨p,n+d*i.size,by rw[ah U];simp[Addr.add_lit],S,λbd ad y=>?_⟩;grind
 ·rename_i id Y u;split at c
  case h_2=>exact c.elim
  rename_i am ad B;split at c
  case h_2=>exact c.elim
  rename_i i a4;cases f:ba P i with
  |false=>rw[f] at c;exact c.elim
  |true=>
   rw[f] at c;obtain⟨⟨F,d,m⟩,⟨G,j,k,l,s⟩,c⟩:=c;simp only at G j k l s c;rw[u] at r;cases r with|ref L J=>
   rw[B] at L;cases L;obtain⟨rfl,an,A,_⟩:=e.jO B G J;obtain⟨R,q,rfl,A⟩:=A;rcases A with⟨rfl,rfl,rfl,_⟩|⟨p,n,ap,rfl,_,ax,N,O,Z⟩
   ·have T:m=0:=(by grind);subst T;have V:d=0:=U;subst V;exact .pure (Hx (w:=w) v f z D (vb e j) (vb e k) (a2 _) (a2 _)) (.kR id Y) c
   have t:=Hx (w:=w) v f z D (vb e j) (vb e k) l U;have:(if q=d then some (⟨p,n,none⟩:Addr) else(some (⟨p,n,none⟩:Addr)).map (·.add (d*i.size)))=some ⟨p,if q=d then n else n+d*i.size,none⟩:=(by grind [Addr.add_lit]);rw[this] at t;exact .pure t (.view B J l s N) c
 exact c.elim
end
end
section
def hG:(i:aj)->adY->Option i.den
 |.int d,b=>match b with
  |[.int e n]=>if d=e then some n else none
  |_=>none
 |.bool,b=>match b with
  |[.bool c]=>some c
  |_=>none
 |.str,b=>match b with
  |[.string s]=>some s
  |_=>none
 |.bb _ _,b=>match b with
  |[.slice none 0 0]=>some []
  |_=>none
 |.osl _,b=>match b with
  |[.slice none 0 0]=>some []
  |_=>none
 |.ptr _ _,b=>match b with
  |[.pointer none]=>some none
  |_=>none
 |.st f,b=>hG f b
 |.pr a c,b=>match hG a (b.take a.size),hG c (b.drop a.size) with
  |some g,some h=>some (g,h)
  |_,_=>none
 |.nil,b=>match b with
  |[]=>some ()
  |_=>none
 |.optr _,_=>none
 |.di,_=>none
 |.mp _,_=>none
 |.dN _ _,_=>none
theorem oK {M:dg->Nat->Prop} {w:World}:∀{τ:aj} {d:adY} {c:τ.den},hG τ d=some c->aT M w τ d c []
 |.int j,d,c,b=>by
  simp only[hG] at b;split at b
  ·split at b
   ·rename_i f;cases b;subst f;exact⟨rfl,rfl⟩
   cases b
  cases b
 |.bool,d,c,b=>by simp only[hG] at b;split at b<;>cases b;exact⟨rfl,rfl⟩
 |.str,d,c,b=>by simp only[hG] at b;split at b<;>cases b;exact⟨rfl,rfl⟩
 |.bb _ _,d,c,b=>by simp only[hG] at b;split at b<;>cases b;exact⟨rfl,none,0,rfl,a2 _,λ_=>rfl,.inl rfl⟩
 |.osl _,d,c,b=>by simp only[hG] at b;split at b<;>cases b;exact⟨none,0,rfl,.inl ⟨rfl,rfl,rfl,rfl⟩⟩
 |.ptr _ _,d,c,b=>by simp only[hG] at b;split at b<;>cases b;exact⟨rfl,rfl⟩
 |.st i,d,c,b=>oK (τ:=i) (by simp only[hG] at b;exact b)
 |.pr a e,d,c,b=>by
  simp only[hG] at b;split at b
  ·rename_i c k g h;cases b;exact⟨[],[],rfl,oK (τ:=a) g,oK (τ:=e) h⟩
  cases b
 |.nil,d,c,b=>by simp only[hG] at b;split at b<;>cases b;exact⟨rfl,rfl⟩
 |.optr _,d,c,b=>by simp only[hG] at b;cases b
 |.di,d,c,b=>by simp only[hG] at b;cases b
 |.mp _,d,c,b=>by simp only[hG] at b;cases b
 |.dN _ _,d,c,b=>by simp only[hG] at b;cases b
def Kn (d:Nat):∀(e:adY) (b:Nat) (c:adW),let h:=(e.zipIdx b).foldl (λc (j:Value×Nat)=>c.setIfInBounds (d+j.2) j.1) c
 h.size=c.size/\(∀a,a<d+b\/d+b+e.length<=a->h[a]?=c[a]?)/\(d+b+e.length<=c.size->∀a f,e[a]?=some f->h[d+b+a]?=some f)
 |[],b,c=>⟨rfl,λ_ _=>rfl,λ_ a f k=>by simp at k⟩
 |x::e,b,c=>by
  obtain⟨l,i,m⟩:=Kn d e (b+1) (c.setIfInBounds (d+b) x);simp only[List.zipIdx_cons,List.foldl_cons];refine⟨by rw[l];simp,λa n=>?_,λo a f g=>?_⟩
  ·simp only[im] at n;rw[i a U,DW U]
  simp only[im] at o;cases a with
  |zero=>
   simp only[j4,bS] at g;subst g;rw[j6,i _ U];have:d+b<c.size:=U;simp[this]
  |succ a=>
   simp only[py] at g;have:=m (by simp;omega) a f g;rwa[(U:d+(b+1)+a=d+b+(a+1))] at this
def yr (n:Nat->Option c7):∀(m:List (Nat×Value)) (d:adW),(∀a∈m,∃f c,n a.1=some (f,c)/\a.2.cells.size=c/\f+c<=d.size)->(m.Pairwise λa j=>∀o c h k,n a.1=some (o,c)->n j.1=some (h,k)->o+c<=h\/h+k<=o)->∃j,Instr.fill n d m=some j/\j.size=d.size/\(∀b,(∀a∈m,∀o c,n a.1=some (o,c)->b<o\/o+c<=b)->j[b]?=d[b]?)/\(∀a∈m,∀o c,n a.1=some (o,c)->∀b e,a.2.cells[b]?=some e->j[o+b]?=some e)
 |[],d,_,_=>⟨d,rfl,rfl,λ_ _=>rfl,λa g=>by cases g⟩
 |(i,e)::m,d,w,u=>by
  obtain⟨f,c,p,I,N⟩:=w (i,e) ac;simp only at p I;rw[mI] at u;have H:e.cells.zipIdx.foldl (λl (a:Value×Nat)=>l.setIfInBounds (f+a.2) a.1) d=(e.cells.toList.zipIdx 0).foldl (λl (a:Value×Nat)=>l.setIfInBounds (f+a.2) a.1) d:=(by rw[<-Array.foldl_toList,Array.toList_zipIdx]);obtain⟨q,f2,r⟩:=Kn f e.cells.toList 0 d;rw[<-H] at q f2 r;simp only[Array.length_toList] at f2 r;generalize F:e.cells.zipIdx.foldl (λl (a:Value×Nat)=>l.setIfInBounds (f+a.2) a.1) d=v at q f2 r;obtain⟨j,J,K,y,aR⟩:=yr n m v (λa g=>by
   obtain⟨h,k,B,C,D⟩:=w a (fk _ g);exact⟨h,k,B,C,by rw[q];exact D⟩) u.2
  refine⟨j,?_,by rw[K,q],λb x=>?_,λa g h k s b z t=>?_⟩
  ·have E:(decide (e.cells.size≠c)||decide (f+e.cells.size>d.size))=false:=(by simp;omega);simp only[Instr.fill,p,E];rw[show(e.cells.zipIdx.foldl (λl L=>match L with|(A,b)=>l.setIfInBounds (f+b) A) d)=v from F];simpa using J
  ·rw[y b (λa g=>x a (fk _ g)),f2 b (by have:=x (i,e) ac f c p;omega)]
  rcases dx.1 g with rfl|g
  ·simp only at s t;rw[p] at s;cases s;have M:b<e.cells.size:=(nm.1 t).1;rw[y (f+b) (λa g h k G=>by
    have:=u.1 a g f c h k p G;omega)]
   exact r U b z (by simpa using t)
  exact aR a g h k s b z t
section
variable {E:eh} {C:dD} {st:aQ} {a:Act} {w:World} {I:Nat->Prop} {rt:Nat->adY} {fp:Nat->ad4} {o:Oper} {Q:ao->List (Nat×aH)->Prop}
def dU.alloc {w:World} {c:adW} {e:TypeId} {o:Nat} {d:adY} (f:∀a b,d[a]?=some b->c[o+a]?=some b):dU (w.alloc (.cells c e)) w.heap.size o d:=λa b g=>by rw[World.cell?_alloc_new];exact f a b g
def h1.alloc {w:World} {a:adW} {c:TypeId} {d b:Nat} (e:b<=a.size):h1 (w.alloc (.cells a c)) w.heap.size d b:=λg _ f=>by rw[World.cell?_alloc_new,World.frozen?_alloc_new];exact⟨by simp;omega,rfl⟩
def Yields.new {d:Nat} {t:aH} {e:Value} {cs:adY} {f:ad4} {cells:adW} {T:TypeId} (l:au st.h d=none) (g:bC C st a.tmps w I rt fp) (p:(execOp a.eval o).run E.P w=.ok (.value e) (w.alloc (.cells cells T))) (r:e=bO t.1 cs) (q:aT (bj I C.B) (w.alloc (.cells cells T)) t.1 cs t.2 f) (j:∀c∈f,c=w.heap.size) (m:f.Nodup) (n:Q (.ref d []) [(d,t)]):Yields E C st a w I rt fp o Q:=by
 refine⟨e,_,I,λ_=>cs,λ_=>f,.ref d [],[(d,t)],p,.alloc w _,λ_ b=>b,λ_ b=>.inl b,.one l q m (λc i=>?_),?_,n⟩
 ·rw[j c i];exact⟨a2 _,ac,λb=>by have:=g.ib _ (.inl b);omega⟩
 rw[r];have k:au ([(d,t)]++st.h) d=some t:=(by rw[zX,b1,ai rfl]);refine .ref (t:=t) (τ':=t.1) (loc:=none) k ?_;have:dI [(d,t)] (λ_=>cs) rt d=cs:=(by simp[dI,b1]);rw[this];exact aW.here
def tQ (tt:List (TypeId×aj)) (g:List (Nat×aj)) (h:List (Nat×aH)) (b:Nat) (f:TypeId) (e d:ao):gR:=
 match fh tt f,au g b,au h b with
 |some i,some (.osl c),none=>match kS c,e,d with
  |some j,.val (.int _) e,.val (.int _) d=>bif ba i c&&Nat.ble c.size 2000 then
   .part c7 (λa=>e=(a.1:Int)/\d=(a.2:Int)/\a.1<=a.2/\a.2<=fm) (λa=>(.ref b [],[(b,⟨.osl c,List.replicate a.1 j⟩)])) else .bad
  |_,_,_=>.bad
 |_,_,_=>.bad
def Ue (a:adW) (e c b:Nat) (g:Value) (_hz:0<a.size) (f:a[b]?=some g) (j:c<e):(madeCells a (e*a.size))[c*a.size+b]?=some g:=by have d:b<a.size:=(nm.1 f).1;have h:(c+1)*a.size<=e*a.size:=fP _ j;rw[eO,hD] at h;have i:(c*a.size+b) %a.size=b:=(by rw[Nat.add_comm,Nat.add_mul_mod_self_right,Nat.mod_eq_of_lt d]);simp only[madeCells,Array.getElem?_map,Array.getElem?_range];rw[ai U];simp only[ga,i];rw[<-f,getElem!_pos a b d,wH d]
def Ug (t:bC C st a.tmps w I rt fp) (ad:o.op=.makeSlice H i b) (e:(tQ E.tt k st.h c H (aV st.g i) (aV st.g b)).K Q):Yields E C st a w I rt fp o Q:=by
 have v:=t.aV i;have u:=t.aV b;unfold tQ at e;split at e
 case h_2=>exact e.elim
 rename_i bB A X co Z;split at e
 case h_2=>exact e.elim
 rename_i ci a4 dl a3 c2 ap O N;cases l:(ba bB A&&Nat.ble A.size 2000) with
 |false=>rw[l] at e;exact e.elim
 |true=>
  rw[l] at e;simp only[bp] at l;obtain⟨⟨q,j⟩,⟨rfl,rfl,G,r⟩,e⟩:=e;simp only at G r e;have cv:=e4 l.2;rw[O] at v;rw[N] at u;generalize an:a.eval i=d2 at v;generalize am:a.eval b=d1 at u;cases v with|val bl=>cases u with|val bs=>
  obtain⟨_,rfl⟩:=bl;obtain⟨_,rfl⟩:=bs;obtain⟨av,D,_,V,W⟩:=fh.ok X;have s:=W.lay l.1;obtain⟨p,n,ax,bd,ds,M⟩:=uD s ap;obtain⟨c1,_,z,_⟩:=s.info;have F:=z.info;rw[ax] at F;cases F;have m:n.cells.size=A.size:=(by have:=(M (bj I C.B) w).len;simpa using this);have Y:(p.bytes:Int)*(j:Int)<=281474976710656:=(by have:p.bytes*j<=48000*fm:=it (by have:=z.bytes;omega) r;have S:((p.bytes*j:Nat):Int)<=281474976710656:=(by unfold fm at this;omega);rwa[ja] at S);have x:=run_make (P:=E.P) w H D p n V ax bd a4 a3 (q:Int) (j:Int) U U Y (by unfold fm at r;omega);simp only[db,z.size] at x;rw[<-m] at x;refine .new (d:=c) (cells:=madeCells n.cells (j*n.cells.size)) (T:=D) (cs:=[.slice (some ⟨w.heap.size,0,none⟩) q j]) (f:=[w.heap.size]) Z t ?_ rfl ?_ ac ac e
  ·simp[execOp,ad,an,am,bO,x]
  refine⟨some ⟨w.heap.size,0,none⟩,j,ac,.inr ⟨w.heap.size,0,List.replicate q [],rfl,ac,ac,by simpa using G,h1.alloc (by rw[size_madeCells,m];omega),λa0 ce R y J=>?_⟩⟩;have L:a0<q:=(by have:=(eT.1 y).1;simpa using this);obtain rfl:ci=ce:=(by rw[lY,ai L] at y;exact ee y);obtain rfl:[]=R:=(by rw[lY,ai L] at J;exact ee J);refine⟨n.cells.toList,by simpa using m,dU.alloc (λav d0 ab=>?_),M _ _⟩;rw[jg,<-m];exact Ue _ _ _ _ _ (by rw[m];exact s.pos) (by simpa using ab) U
def u2 (tt:List (TypeId×aj)) (d:List (Nat×aj)) (e:List (Nat×aH)) (a:Nat) (c:TypeId):gR:=
 match au tt c,au d a,au e a with
 |some f,some b,none=>match kS b with
  |some g=>bif ba f b then .dw (.ref a []) [(a,⟨.optr b,g⟩)] else .bad
  |none=>.bad
 |_,_,_=>.bad
def Yields.box {g:q.den} {cs:adY} (r:au st.h c=none) (i:bC C st a.tmps w I rt fp) (_hT:dP E.P q H) (u:(execOp a.eval o).run E.P w=.ok (.value (.pointer (some ⟨w.heap.size,0,none⟩))) (w.alloc (.cells cs.toArray H))) (v:∀l,(∀e b,bj I C.B e b->bT w l b)->aT (bj I C.B) l q cs g []) (s:Q (.ref c []) [(c,⟨.optr q,g⟩)]):Yields E C st a w I rt fp o Q:=by have m:∀e b,bj I C.B e b->bT w (w.alloc (.cells cs.toArray H)) b:=λe b n=>.of_heap ((gQ.alloc w _).heap b (i.ib b (mq n)));have k:=v _ m;have j:=k.len;refine .new (d:=c) (t:=⟨.optr q,g⟩) (cs:=[.pointer (some ⟨w.heap.size,0,none⟩)]) (f:=[w.heap.size]) r i u rfl ⟨w.heap.size,0,[],cs,rfl,rfl,j,dU.alloc (λx y p=>by simpa using p),h1.alloc (by simp[j]),k⟩ ac ac s
def Qd (g:bC C st a.tmps w I rt fp) (l:o.op=.alloc H) (b:(u2 E.tt k st.h c H).K Q):Yields E C st a w I rt fp o Q:=by
 unfold u2 at b;split at b
 case h_2=>exact b.elim
 rename_i f q i s j;split at b
 case h_2=>exact b.elim
 rename_i x m;cases d:ba f q with
 |false=>rw[d] at b;exact b.elim
 |true=>
  rw[d] at b;have e:=(E.ok H f i).lay d;obtain⟨t,r,ax,n,u,p⟩:=uD e m;refine .box (cs:=r.cells.toList) j g e ?_ (λv _=>p _ _) b;simp[execOp,l,Instr.alloc,zeroValue,typeInfo,ax,n,newVar,newRow]
def xa (tt:List (TypeId×aj)) (e:List (Nat×aH)) (a:Nat) (d:TypeId) (b:ao):gR:=
 match au tt d,au e a with
 |some f,none=>match b with
  |.val c b=>bif ba f c then .dw (.ref a []) [(a,⟨.optr c,b⟩)] else .bad
  |_=>.bad
 |_,_=>.bad
def QM (j:bC C st a.tmps w I rt fp) (t:o.op=.box H b) (d:(xa E.tt st.h c H (aV st.g b)).K Q):Yields E C st a w I rt fp o Q:=by
 have f:=j.aV b;unfold xa at d;split at d
 case h_2=>exact d.elim
 rename_i l r s;split at d
 case h_2=>exact d.elim
 rename_i x A p;cases e:ba l x with
 |false=>rw[e] at d;exact d.elim
 |true=>
  rw[e] at d;rw[p] at f;generalize u:a.eval b=y at f;cases f with|val i=>
  rename_i m;have k:=(E.ok H l r).lay e;refine .box (cs:=m) s j k ?_ (λz q=>i.mono (λv n e=>⟨e,q v n e⟩) ac) d;simp[execOp,t,u,Instr.box,newVar,newRow,nW k i.len i.one]
def coe (a:aj) (b:ao):Option a.den:=
 match b with
 |.val d b=>if h:d=a then some (h▸b) else none
 |.cv c=>hG a c.cells.toList
 |_=>none
def xe (a:aj):List ao->Option (List a.den)
 |[]=>some []
 |x::c=>match coe a x,xe a c with
  |some d,some b=>some (d::b)
  |_,_=>none
theorem EJ (i:dP E.P d H) {e:Value} (c:bL f w z rt fp L e) {g:d.den} (a:coe d L=some g):aT f w d e.cells.toList g []:=by
 unfold coe at a;split at a
 ·rename_i k j;split at a
  ·rename_i h;subst h;cases a;cases c with|val b=>
   rw[nW i b.len b.one];exact b
  cases a
 ·cases c;exact oK a
 cases a
def um:List (Nat×Operand)->Nat->Bool
 |[],_=>true
 |q::b,a=>Nat.beq q.1 a&&um b (a+1)
def vc (tt:List (TypeId×aj)) (g:List (Nat×aj)) (i:List (Nat×aH)) (h:Operand->ao) (b:Nat) (f:TypeId) (d:Nat) (c:List (Nat×Operand)):gR:=
 match fh tt f,au i b with
 |some e,none=>
  let a:=match au g b with|some (.osl a)=>a|_=>e
  bif ba e a&&Nat.ble a.size 2000&&Nat.ble d 1000&&um c 0&&Nat.beq c.length d then
   match xe a (c.map λj=>h j.2) with
   |some k=>.dw (.ref b []) [(b,⟨.osl a,k⟩)]
   |none=>.bad
  else .bad
 |_,_=>.bad
def JA {f:aj}:∀{e:List ao} {d:List f.den},xe f e=some d->d.length=e.length/\∀(b:Nat) (c:f.den),d[b]?=some c->∃y:ao,e[b]?=some y/\coe f y=some c
 |[],d,a=>by cases a;exact⟨rfl,λb c a=>by simp at a⟩
 |y::e,d,a=>by
  simp only[xe] at a;split at a
  ·rename_i m l k j;cases a;obtain⟨h,i⟩:=JA j;refine⟨by simp[h],λb c g=>?_⟩;cases b with
   |zero=>simp only[j4,bS] at g;subst g;exact⟨y,rfl,k⟩
   |succ b=>simpa using i b c (by simpa using g)
  cases a
def qt:∀{f:List (Nat×Operand)} {e:Nat},um f e=true->∀(a:Nat) (c:Nat×Operand),f[a]?=some c->c.1=e+a
 |[],_,_,a,c,b=>by simp at b
 |x::f,e,b,a,c,d=>by
  simp only[um,bp] at b;cases a with
  |zero=>simp only[j4,bS] at d;subst d;exact eF b.1
  |succ a=>have:=qt b.2 a c (by simpa using d);omega
def QQ (G:bC C st a.tmps w I rt fp) (d0:o.op=.buildSlice H c D) (i:(vc E.tt k st.h (aV st.g) N H c D.toList).K Q):Yields E C st a w I rt fp o Q:=by
 unfold vc at i;split at i
 case h_2=>exact i.elim
 rename_i av ci co;generalize eq:(match au k N with|some (.osl e)=>e|_=>av)=e at i;simp only at i;cases n:(ba av e&&Nat.ble e.size 2000&&Nat.ble c 1000&&um D.toList 0&&Nat.beq D.toList.length c) with
 |false=>rw[n] at i;exact i.elim
 |true=>
  rw[n] at i;simp only[bp] at n;obtain⟨⟨⟨⟨a3,z⟩,A⟩,v⟩,R⟩:=n;have z:=e4 z;have A:=e4 A;have R:D.toList.length=c:=eF R;simp only[cond_true] at i;split at i
  case h_2=>exact i.elim
  rename_i l d5;obtain⟨ad,M,_,bB,ce⟩:=fh.ok ci;have s:=ce.lay a3;obtain⟨J,ed,am,_⟩:=s.info;have em:=s.pos;obtain⟨a4,bd⟩:=JA d5;simp only[gE] at a4;have Z:l.length=c:=U;have ek:c*e.size<=16777216:=(by have:c*e.size<=1000*2000:=it A z;omega);have S:∀(b:Nat) (j:Nat×Operand),D.toList[b]?=some j->∃q:e.den,l[b]?=some q/\aT (bj I C.B) w e (a.eval j.2).cells.toList q []:=(by intro b j p;have dl:b<l.length:=(by have:=(eT.1 p).1;omega);obtain⟨f3,al,x⟩:=bd b l[b] ac;rw[fB,p] at al;simp only[ga,bS] at al;subst al;exact⟨l[b],ac,EJ s (G.aV j.2) x⟩);obtain⟨ab,cv,c1⟩:∃a0:adW,(c*e.size=0->a0=#[])/\(c*e.size≠0->∃r,(zeroValue M).run E.P w=.ok r w/\a0=r.cells):=by
   by_cases m:c*e.size=0
   ·exact⟨#[],λ_=>rfl,λi=>absurd m i⟩
   obtain⟨r,_,d7⟩:=dP.FO s;exact⟨r.cells,λi=>absurd i m,λ_=>⟨r,by simp[zeroValue,typeInfo,am.info,d7 J am.info],rfl⟩⟩
  obtain⟨an,ap,d8,fz,aR⟩:=yr (λJ=>some (J*e.size,e.size)) (D.toList.map λj=>(j.1,a.eval j.2)) ((Array.range (c*e.size)).map (ab[· %ab.size]!)) (by
   intro j d2;obtain⟨ft,d1,rfl⟩:=de.1 d2;obtain⟨b,p,rfl⟩:=fC.1 d1;have u:D.toList[b]?=some D.toList[b]:=ac;obtain⟨q,_,y⟩:=S b _ u;have F:=qt v b _ u;have:(b+1)*e.size<=c*e.size:=fP _ U;rw[eO,hD] at this;refine⟨_,_,rfl,by have:=y.len;simpa using this,?_⟩;simp only[Array.size_map,Array.size_range];rw[F,jg];exact this) (by
   rw[gj];intro b L p ds dl fn fT fs f0 al x;simp only[sw,bS,gm] at al x;simp only[gE] at p ds;have bl:=qt v b D.toList[b] ac;have f2:=qt v L D.toList[L] ac;obtain⟨rfl,rfl⟩:=al;obtain⟨rfl,rfl⟩:=x;left;rw[bl,f2];have:(0+b+1)*e.size<=(0+L)*e.size:=fP _ U;rw[eO,hD] at this;exact this)
  have d3:an.size=c*e.size:=(by rw[d8];simp);refine .new (d:=N) (t:=⟨.osl e,l⟩) (cells:=an) (T:=M) (cs:=[.slice (some ⟨w.heap.size,0,none⟩) c c]) (f:=[w.heap.size]) co G ?_ rfl ?_ ac ac i
  ·have d4:=s.sizeOf w;have el:¬(16777216<c*e.size):=U;have W:(Array.map (λq=>(q.fst,a.eval q.snd)) D).toList=D.toList.map λj=>(j.1,a.eval j.2):=ac;simp only[execOp,d0,Instr.buildSlice,Sem.run_bind,run_underlying bB,Result.andThen_ok,d4];rw[ah U];by_cases m:c*e.size=0
   ·rw[ai m];obtain rfl:=cv m;rw[W];simp only[Sem.run_bind,Sem.run_pure,Result.andThen_ok,ap,newRow,newObj];rfl
   rw[ah m];obtain⟨r,d6,rfl⟩:=c1 m;rw[W];simp only[Sem.run_bind,Sem.run_pure,Result.andThen_ok,d6,ap,newRow,newObj];rfl
  refine⟨some ⟨w.heap.size,0,none⟩,c,by rw[Z],.inr ⟨w.heap.size,0,List.replicate c [],rfl,ac,by simp[Z],(by show l.length<=c;omega),h1.alloc (by rw[d3];omega),λb q bs y V=>?_⟩⟩;have p:b<c:=(by have:b<l.length:=(eT.1 y).1;omega);obtain rfl:[]=bs:=(by rw[lY,ai p] at V;exact ee V);have u:D.toList[b]?=some (D.toList[b]'(by omega)):=by simp
  obtain⟨f1,Y,X⟩:=S b _ u;rw[y] at Y;obtain rfl:=ee Y;refine⟨_,X.len,dU.alloc (λad d9 c2=>?_),X.mono (λex O n=>⟨n,.of_heap ((gQ.alloc w _).heap O (G.ib O (mq n)))⟩) ac⟩;have:=aR (D.toList[b].1,a.eval D.toList[b].2) (de.2 ⟨D.toList[b],bA _,rfl⟩) _ _ rfl ad d9 (by simpa using c2);have F:=qt v b _ u;rw[F,jg] at this;simpa using this
end
end
section
def kN (a:List (Nat×Operand)) (b:Nat):adV:=au a b
def o2 (
 g:Operand->ao) (e:List (Nat×Operand)):aj->Nat->Option aH
 |.pr a h,d=>
  match(match kN e d with
   |none=>match kS a with
    |some j=>some (⟨a,j⟩:aH)
    |none=>none
   |some c=>match g c with
    |.val f b=>bif ba a f then some ⟨f,b⟩ else none
    |.cv i=>match hG a i.cells.toList with
     |some b=>some ⟨a,b⟩
     |none=>none
    |_=>none),o2 g e h (d+1) with
  |some c,some b=>some ⟨.pr c.1 b.1,(c.2,b.2)⟩
  |_,_=>none
 |.nil,_=>some ⟨.nil,()⟩
 |_,_=>none
def k9:List (Nat×Operand)->Nat->Bool
 |[],_=>true
 |q::b,a=>Nat.ble a q.1&&k9 b (q.1+1)
def e0:aj->Nat
 |.pr _ a=>e0 a+1
 |_=>0
def FR:∀{e:List (Nat×Operand)} {d:Nat},k9 e d=true->∀b∈e,d<=b.1
 |[],_,_,b,a=>by cases a
 |x::e,d,a,b,c=>by
  simp only[k9,bp] at a;rcases dx.1 c with rfl|c
  ·exact e4 a.1
  have:=FR a.2 b c;have:=e4 a.1;omega
def FT:∀{b:List (Nat×Operand)} {d:Nat},k9 b d=true->b.Pairwise λc f=>c.1<f.1
 |[],_,_=>List.Pairwise.nil
 |x::b,d,a=>by simp only[k9,bp] at a;exact List.Pairwise.cons (λc e=>by have:=FR a.2 c e;omega) (FT a.2)
def yF {e:Type}:∀{d:List (Nat×e)} {b:Nat} {c:e},au d b=some c->(b,c)∈d
 |[],_,_,a=>by cases a
 |(g,v0)::r,b,c,a=>by
  rw[b1] at a;split at a
  ·rename_i f;subst f;cases a;simp
  exact fk _ (yF a)
def Gd {g:Type}:∀{e:List (Nat×g)} {d:Nat},au e d=none->∀c∈e,c.1≠d
 |[],_,_,c,a=>by cases a
 |(h,v0)::r,d,b,c,a=>by
  rw[b1] at b;split at b
  ·cases b
  rename_i f;rcases dx.1 a with rfl|a
  ·exact f
  exact Gd b c a
def qm {j:Program}:∀{u:aj} {l:List Field} {e:Nat} {h:adY},hz j u l e h->∀d,d<e0 u->∃f g,eb u d=some (f,g)
 |.pr a i,k::n,e,h,c,0,_=>⟨_,_,rfl⟩
 |.pr a i,k::n,e,h,c,d+1,b=>by obtain⟨f,g,m⟩:=qm (u:=i) c.2.2.2.2 d (by simp only[e0] at b;omega);exact⟨.snd::f,g,by simp[eb,m]⟩
 |.pr _ _,[],_,_,c,_,_=>c.elim
 |.int _,_,_,_,_,_,b=>by simp[e0] at b
 |.bool,_,_,_,_,_,b=>by simp[e0] at b
 |.str,_,_,_,_,_,b=>by simp[e0] at b
 |.bb _ _,_,_,_,_,_,b=>by simp[e0] at b
 |.osl _,_,_,_,_,_,b=>by simp[e0] at b
 |.ptr _ _,_,_,_,_,_,b=>by simp[e0] at b
 |.optr _,_,_,_,_,_,b=>by simp[e0] at b
 |.st _,_,_,_,_,_,b=>by simp[e0] at b
 |.nil,_,_,_,_,_,b=>by simp[e0] at b
 |.di,_,_,_,_,_,b=>by simp[e0] at b
def tx:∀{u:aj} {e d:Nat} {s s':List a5} {t t':aj},eb u e=some (s,t)->eb u d=some (s',t')->e<d->dF u e+t.size<=dF u d
 |.pr a f,0,d+1,s,s',t,t',b,c,_=>by simp only[eb,bS,gm] at b;obtain⟨_,rfl⟩:=b;simp[dF]
 |.pr a f,e+1,d+1,s,s',t,t',b,c,k=>by
  simp only[eb] at b c;cases g:eb f e with
  |none=>rw[g] at b;cases b
  |some i=>
   cases h:eb f d with
   |none=>rw[h] at c;cases c
   |some j=>
    rw[g] at b;rw[h] at c;simp only[bS,gm] at b c;obtain⟨_,rfl⟩:=b;obtain⟨_,rfl⟩:=c;have:=tx (u:=f) (s:=i.1) (t:=i.2) (s':=j.1) (t':=j.2) g h U;simp only[dF];omega
 |.int _,_,_,_,_,_,_,b,_,_=>by cases b
 |.bool,_,_,_,_,_,_,b,_,_=>by cases b
 |.str,_,_,_,_,_,_,b,_,_=>by cases b
 |.bb _ _,_,_,_,_,_,_,b,_,_=>by cases b
 |.osl _,_,_,_,_,_,_,b,_,_=>by cases b
 |.ptr _ _,_,_,_,_,_,_,b,_,_=>by cases b
 |.optr _,_,_,_,_,_,_,b,_,_=>by cases b
 |.st _,_,_,_,_,_,_,b,_,_=>by cases b
 |.nil,_,_,_,_,_,_,b,_,_=>by cases b
 |.di,_,_,_,_,_,_,b,_,_=>by cases b
def FA:∀{u:aj} {c:Nat} {s:List a5} {t:aj},eb u c=some (s,t)->c<e0 u
 |.pr a d,0,_,_,_=>by simp[e0]
 |.pr a d,c+1,s,t,b=>by
  simp only[eb] at b;split at b
  ·rename_i e f;have:=FA (u:=d) (s:=e.1) (t:=e.2) f;simp only[e0];omega
  cases b
 |.int _,_,_,_,b=>by cases b
 |.bool,_,_,_,b=>by cases b
 |.str,_,_,_,b=>by cases b
 |.bb _ _,_,_,_,b=>by cases b
 |.osl _,_,_,_,b=>by cases b
 |.ptr _ _,_,_,_,b=>by cases b
 |.optr _,_,_,_,b=>by cases b
 |.st _,_,_,_,b=>by cases b
 |.nil,_,_,_,b=>by cases b
 |.di,_,_,_,b=>by cases b
theorem FSq:∀{d:List (Nat×Operand)} {e:Nat} {b:Nat×Operand},k9 d e=true->b∈d->kN d b.1=some b.2
 |[],_,_,_,a=>by cases a
 |x::d,e,b,a,c=>by
  simp only[k9,bp] at a;obtain⟨f,g⟩:=x;unfold kN;rw[b1];rcases dx.1 c with rfl|c
  ·rw[ai rfl]
  have:=FR a.2 b c;simp only at this;rw[ah U];exact FSq a.2 c
section
variable {E:eh} {C:dD} {st:aQ} {a:Act} {w:World} {I:Nat->Prop} {rt:Nat->adY} {fp:Nat->ad4} {o:Oper} {Q:ao->List (Nat×aH)->Prop}
def w9 (tt:List (TypeId×aj)) (e:Operand->ao) (d:TypeId) (a:List (Nat×Operand)):gR:=
 match kl tt d with
 |none=>.bad
 |some c=>bif k9 a 0&&a.all (λf=>Nat.blt f.1 (e0 c)) then match o2 e a c 0 with
  |some b=>.dw (.val (.st b.1) b.2) []
  |none=>.bad
  else .bad
def Ly {G:Program} {k:dg->Nat->Prop} {b:List (Nat×aH)} {z:Operand->ao} {j:Operand->Value} (C:∀e,bL k w b rt fp (z e) (j e)) {parts:List (Nat×Operand)} {cells:adY}:∀{u:aj} {n:Nat} {H:List Field} {off:Nat} {zs:adY} {i:aH},hz G u H off zs->o2 z parts u n=some i->cells.length=off+u.size->(∀d y f,eb u d=some (y,f)->(∀e,kN parts (n+d)=some e->(j e).cells.size=f.size/\(cells.drop (off+dF u d)).take f.size=(j e).cells.toList)/\(kN parts (n+d)=none->(cells.drop (off+dF u d)).take f.size=(zs.drop (dF u d)).take f.size))->aT k w i.1 (cells.drop off) i.2 []/\i.1.size=u.size
 |.pr a o,n,T::ab,off,zs,i,B,h,t,r=>by
  simp only[o2] at h;split at h
  case h_2=>cases h
  rename_i e am c M;cases h;obtain⟨V,A,W,⟨X,an,ax,P,Q⟩,I⟩:=B;have s:=r 0 _ a rfl;simp only[j6,dF,lv] at s;have q:aT k w e.1 ((cells.drop off).take a.size) e.2 []/\e.1.size=a.size:=by
   split at c
   ·rename_i v;split at c
    ·rename_i ap O;cases c;obtain⟨Y,av,E,F,_,aR⟩:=uD A O;rw[ax] at E;cases E;rw[P] at F;cases F;rw[s.2 v,Q];exact⟨aR k w,rfl⟩
    cases c
   rename_i m v;have g:=C m;obtain⟨Z,D⟩:=s.1 m v;split at c
   ·rename_i f S p;cases l:ba a f with
    |false=>rw[l] at c;cases c
    |true=>
     rw[l] at c;cases c;rw[p] at g;rw[D];generalize L:j m=R at g;cases g with|val x=>
     rw[nW (A.lay l) x.len x.one];exact⟨x,(ba.size l).symm⟩
   ·rename_i R p;split at c
    ·rename_i S N;cases c;rw[p] at g;rw[D];generalize L:j m=ad at g;cases g;exact⟨oK N,rfl⟩
    cases c
   cases c
  have J:=Ly C (parts:=parts) (cells:=cells) (u:=o) (n:=n+1) (off:=off+a.size) (zs:=zs.drop a.size) I M (by rw[t];simp only[aj.size];omega) (by
   intro d y f K;have:=r (d+1) (.snd::y) f (by simp[eb,K]);simp only[dF] at this;rw[(U:n+(d+1)=n+1+d),(U:off+(a.size+dF o d)=off+a.size+dF o d)] at this;rw[pt];exact this)
  refine⟨⟨[],[],rfl,?_,?_⟩,by simp only[aj.size];omega⟩
  ·rw[q.2];exact q.1
  rw[q.2,pt];exact J.1
 |.nil,n,[],off,zs,i,B,h,t,r=>by cases h;exact⟨⟨rfl,by rw[List.drop_eq_nil_iff];simp only[aj.size] at t;omega⟩,rfl⟩
 |.pr _ _,_,[],_,_,_,b,_,_,_=>b.elim
 |.nil,_,_::_,_,_,_,b,_,_,_=>b.elim
 |.int _,_,_,_,_,_,b,_,_,_=>by cases b
 |.bool,_,_,_,_,_,b,_,_,_=>by cases b
 |.str,_,_,_,_,_,b,_,_,_=>by cases b
 |.bb _ _,_,_,_,_,_,b,_,_,_=>by cases b
 |.osl _,_,_,_,_,_,b,_,_,_=>by cases b
 |.ptr _ _,_,_,_,_,_,b,_,_,_=>by cases b
 |.optr _,_,_,_,_,_,b,_,_,_=>by cases b
 |.st _,_,_,_,_,_,b,_,_,_=>by cases b
 |.di,_,_,_,_,_,b,_,_,_=>by cases b
def Lz {A:Program} {o:dg->Nat->Prop} {b:List (Nat×aH)} {p:Operand->ao} {i:Operand->Value} (q:∀c,bL o w b rt fp (p c) (i c)) {t:List (Nat×Operand)}:∀{u:aj} {n:Nat} {C:List Field} {s:Nat} {z:adY} {y:aH},hz A u C s z->o2 p t u n=some y->∀f x h,eb u f=some (x,h)->∀c,kN t (n+f)=some c->(i c).cells.size=h.size
 |.pr a B,n,N::T,s,z,y,F,l,f,x,h,d,c,r=>by
  simp only[o2] at l;split at l
  case h_2=>cases l
  rename_i W X e I;obtain⟨O,D,P,⟨Q,Y,ax,R,S⟩,E⟩:=F;cases f with
  |zero=>
   simp only[eb,bS,gm] at d;obtain⟨_,rfl⟩:=d;rw[j6] at r;rw[r] at e;have g:=q c;simp only at e;split at e
   ·rename_i h L j;cases k:ba a h with
    |false=>rw[k] at e;cases e
    |true=>
     rw[j] at g;generalize H:i c=K at g;cases g with|val m=>
     rw[nW (D.lay k) m.len m.one];have:=m.len;have:=ba.size k;simp;omega
   ·rename_i K j;split at e
    ·rename_i L J;rw[j] at g;generalize H:i c=V at g;cases g;have:=(oK (M:=o) (w:=w) J).len;simpa using this
    cases e
   cases e
  |succ f=>
   simp only[eb] at d;split at d
   ·rename_i v G;simp only[bS,gm] at d;obtain⟨_,rfl⟩:=d;exact Lz q (u:=B) (n:=n+1) E I f v.1 v.2 G c (by rwa[(U:n+1+f=n+(f+1))])
   cases d
 |.pr _ _,_,[],_,_,_,b,_,_,_,_,_,_,_=>b.elim
 |.nil,_,_,_,_,_,_,_,_,_,_,d,_,_=>by cases d
 |.int _,_,_,_,_,_,b,_,_,_,_,_,_,_=>by cases b
 |.bool,_,_,_,_,_,b,_,_,_,_,_,_,_=>by cases b
 |.str,_,_,_,_,_,b,_,_,_,_,_,_,_=>by cases b
 |.bb _ _,_,_,_,_,_,b,_,_,_,_,_,_,_=>by cases b
 |.osl _,_,_,_,_,_,b,_,_,_,_,_,_,_=>by cases b
 |.ptr _ _,_,_,_,_,_,b,_,_,_,_,_,_,_=>by cases b
 |.optr _,_,_,_,_,_,b,_,_,_,_,_,_,_=>by cases b
 |.st _,_,_,_,_,_,b,_,_,_,_,_,_,_=>by cases b
 |.di,_,_,_,_,_,b,_,_,_,_,_,_,_=>by cases b
def run_places {P:Program} (w:World):∀(e:aj) (i:List Field) (d:Nat) (g:adY),hz P e i d g->(i.mapM λf=>do Pure.pure (f.offset,<-sizeOf f.type):Sem ad6).run P w=.ok ((List.range (e0 e)).map λc=>(d+dF e c,match eb e c with|some k=>k.2.size|none=>0)) w
 |.pr a h,f::l,d,g,b=>by have j:=run_places w h l (d+a.size) (g.drop a.size) b.2.2.2.2;simp only[List.mapM_cons,Sem.run_bind,b.2.1.sizeOf,Result.andThen_ok,Sem.run_pure,j];simp only[e0,List.range_succ_eq_map,fr,sy,b.1,dF,j6,eb];congr 2;apply h3;intro c _;simp only[Function.comp,dF,eb];rw[oo];cases eb h c<;>rfl
 |.nil,[],_,_,_=>rfl
 |.pr _ _,[],_,_,b=>b.elim
 |.nil,_::_,_,_,b=>b.elim
 |.int _,_,_,_,b=>by cases b
 |.bool,_,_,_,b=>by cases b
 |.str,_,_,_,b=>by cases b
 |.bb _ _,_,_,_,b=>by cases b
 |.osl _,_,_,_,b=>by cases b
 |.ptr _ _,_,_,_,b=>by cases b
 |.optr _,_,_,_,b=>by cases b
 |.st _,_,_,_,b=>by cases b
 |.di,_,_,_,b=>by cases b
def QJ (am:bC C st a.tmps w I rt fp) (co:o.op=.build H D) (f:(w9 E.tt (aV st.g) H D.toList).K Q):Yields E C st a w I rt fp o Q:=by
 unfold w9 at f;split at f
 ·exact f.elim
 rename_i b J;cases q:(k9 D.toList 0&&D.toList.all (λc=>Nat.blt c.1 (e0 b))) with
 |false=>rw[q] at f;exact f.elim
 |true=>
  rw[q] at f;simp only[bp,fd] at q;obtain⟨X,G⟩:=q;simp only[cond_true] at f;split at f
  case h_2=>exact f.elim
  rename_i ed an;obtain⟨l,m,i,a0,em,a3,a4,p,ad⟩:∃l m i,E.P.info? H=some l/\l.size=b.size/\l.zero=some (.agg i)/\E.P.underlying H=some (.struct m)/\hz E.P b m.toList 0 i.toList/\i.size=b.size:=by
   unfold kl at J;split at J
   ·rename_i fT bl;cases J;obtain⟨_,l,m,i,ax,d0,_,d1,d2,d3,d4⟩:=E.ok H _ bl;exact⟨l,m,i,ax,d0,d1,d2,d3,d4⟩
   cases J
  have S:=Lz (λe=>am.aV e) p an;have R:=run_places (P:=E.P) w b m.toList 0 i.toList p;simp only[jg] at R S;generalize c1:((List.range (e0 b)).map λj=>(dF b j,match eb b j with|some c=>c.2.size|none=>0))=V at R;have y:∀j F k,eb b j=some (F,k)->j<e0 b->V.toArray[j]?=some (dF b j,k.size):=(by intro j F k d ce;rw[<-c1];simp[ce,d]);obtain⟨N,d5,d6,d7,aR⟩:=yr (λl=>V.toArray[l]?) (D.toList.map λc=>(c.1,a.eval c.2)) i (by
   intro c z;obtain⟨h,x,rfl⟩:=de.1 z;have t:h.1<e0 b:=e4 (G h x);obtain⟨F,k,d⟩:=qm p h.1 t;refine⟨_,_,y _ _ _ d t,S _ _ _ d h.2 ?_,by rw[ad];exact vN d⟩;exact FSq X x) (by
   rw[sz];refine(FT X).imp_of_mem ?_;intro c W z dl t ds d8 fn fs al Y;have B:c.1<e0 b:=e4 (G c z);have av:W.1<e0 b:=e4 (G W dl);obtain⟨d9,ek,r⟩:=qm p c.1 B;obtain⟨ft,fz,q⟩:=qm p W.1 av;rw[y _ _ _ r B] at al;rw[y _ _ _ q av] at Y;cases al;cases Y;exact .inl (tx r q t))
  have ex:N.toList.length=b.size:=(by simp[d6,ad]);obtain⟨ab,el⟩:=Ly (w:=w) (λe=>am.aV e) (parts:=D.toList) (cells:=N.toList) (u:=b) (n:=0) (off:=0) p an U (by
   intro M F k d;have bs:M<e0 b:=FA d;simp only[jg];have eq:=vN d;refine⟨λe L=>?_,λL=>?_⟩
   ·have bB:=yF L;have T:=S M F k d e L;refine⟨T,?_⟩;apply g4;intro A;rcases bg A k.size with s|s
    ·obtain⟨O,ap⟩:∃O,(a.eval e).cells[A]?=some O:=⟨_,wH U⟩;have:=aR (M,a.eval e) (de.2 ⟨(M,e),bB,rfl⟩) _ _ (y _ _ _ d bs) A O ap;rw[l0 s,jA];simp only[wJ];rw[this,ap]
    rw[hR (by simp;omega),hR (by simp;omega)]
   apply g4;intro A;rcases bg A k.size with s|s
   ·rw[l0 s,l0 s,jA,jA];simp only[wJ];refine d7 _ ?_;intro c z ds d8 al;obtain⟨h,x,rfl⟩:=de.1 z;have ci:=Gd L h x;have B:h.1<e0 b:=e4 (G h x);obtain⟨d9,ek,r⟩:=qm p h.1 B;rw[y _ _ _ r B] at al;cases al;rcases Nat.lt_or_gt_of_ne ci with t|bd
    ·have:=tx r d t;omega
    have:=tx d r bd;omega
   rw[hR (by simp;omega),hR (by simp;omega)])
  rw[lv] at ab;refine .pure (v:=.agg N) ?_ (.val (τ:=.st ed.1) (cs:=N.toList) ab) f;have c2:(Array.map (λe=>(e.fst,a.eval e.snd)) D).toList=D.toList.map λc=>(c.1,a.eval c.2):=ac;have cv:(m.mapM λZ=>do Pure.pure (Z.offset,<-sizeOf Z.type):Sem (Array c7)).run E.P w=.ok V.toArray w:=(by rw[Array.mapM_eq_mapM_toList,Sem.run_map,R];rfl);have T:(zeroValue H).run E.P w=.ok (.agg i) w:=(by simp[zeroValue,typeInfo,a0,a3]);simp only[execOp,co,Instr.build,Sem.run_bind,T,run_underlying a4,Result.andThen_ok,cv,c2,Value.cells,d5];rfl
end
end
section
def ev {α:Type}:List (Int×α)->Int->Option α
 |[],_=>none
 |(a,v)::r,k=>if a=k then some v else ev r k
def ht {α:Type}:List (Int×α)->Int->α->List (Int×α)
 |[],k,v=>[(k,v)]
 |(a,u)::r,k,v=>if k<a then(k,v)::(a,u)::r else if k=a then(k,v)::r else(a,u)::ht r k v
def hY {α:Type} (l:List (Int×α)) (a:Int):List (Int×α):=l.filter λb=>decide (b.1≠a)
def iZ {α:Type} (b:Option (List (Int×α)×Nat)) (a:Int):Option α:=b.bind λc=>ev c.1 a
def vZ {α:Type} (a:Option (List (Int×α)×Nat)):Int:=match a with|some b=>(b.1.length:Int)|none=>0
section
variable {α:Type}
theorem CG:∀{l:List (Int×α)} {c:Int} {d:α},ev l c=some d->(c,d)∈l
 |[],_,_,b=>by cases b
 |(a,u)::r,c,d,b=>by
  simp only[ev] at b;split at b
  ·grind
  exact fk _ (CG b)
theorem Lo:∀{l:List (Int×α)} {c:Int},ev l c=none->∀d,(c,d)∉l
 |[],_,_,_=>by simp
 |(a,u)::r,c,b,d=>by
  simp only[ev] at b;split at b
  ·cases b
  rename_i g;intro f;rcases dx.1 f with e|e
  ·grind
  exact Lo b d e
theorem Oj {l:List (Int×α)} (c:l.Pairwise (λa b=>a.1<b.1)):(l.map (·.1)).Nodup:=by grind
theorem Uc {l:List (Int×α)} (b:(l.map (·.1)).Nodup) {a:α}:ev l S=some a↔(S,a)∈l:=by
 constructor
 ·exact CG
 intro c
 induction l with
 |nil=>cases c
 |cons d g f=>
  obtain⟨e,h⟩:=d;simp only[fr,jC] at b;simp only[ev];grind
theorem Lp:∀{l:List (Int×α)} {d:Int} {e:α} {c:Int×α},c∈ht l d e->c=(d,e)\/c∈l
 |[],d,e,c,b=>by grind [ht]
 |(a,u)::r,d,e,c,b=>by
  simp only[ht] at b;split at b
  ·grind
  split at b
  ·grind
  rcases dx.1 b with b|b
  ·grind
  exact(Lp b).imp id (fk _)
theorem Gj:∀{l:List (Int×α)} {c:Int} {d:α},l.Pairwise (λa b=>a.1<b.1)->(ht l c d).Pairwise (λa b=>a.1<b.1)
 |[],c,d,_=>by simp[ht]
 |(a,u)::r,c,d,h=>by
  rw[mI] at h;simp only[ht];split
  ·grind [List.pairwise_cons]
  rename_i g;split
  ·grind [List.pairwise_cons]
  rename_i f;rw[mI];refine⟨λi e=>?_,Gj h.2⟩;rcases Lp e with rfl|e
  ·omega
  grind
def Ua {l:List (Int×α)} (c:l.Pairwise (λa b=>a.1<b.1)):(hY l S).Pairwise (λa b=>a.1<b.1):=c.filter _
theorem Gi:∀{l:List (Int×α)} {k:Int} {v:α},l.Pairwise (λa b=>a.1<b.1)->(ht l k v).Perm ((k,v)::hY l k)
 |[],k,v,_=>by simp[ht,hY]
 |(a,u)::r,k,v,h=>by
  rw[mI] at h;simp only[ht];split
  ·rename_i d;have:hY ((a,u)::r) k=(a,u)::r:=by
    unfold hY;grind [List.filter_eq_self]
   rw[this]
  rename_i d;split
  ·rename_i c;subst c;have:hY ((k,u)::r) k=r:=by
    unfold hY;rw[jd,ah ac,mH];grind
   rw[this]
  rename_i c;have:hY ((a,u)::r) k=(a,u)::hY r k:=(by unfold hY;grind);rw[this];exact((Gi h.2).cons _).trans (.swap _ _ _)
end
section
variable {P:Program} {w:World} {b:Nat} {dC:Array MapEntry} {c:Nat}
theorem mn:hL w b=some (dC,c)↔w.heap[b]?=some (.map dC c):=by grind [hL]
def pb (a:w.heap[b]?=some (.map dC c)):(setObj b (.map t h)).run P w=.ok () {w with heap:=w.heap.setIfInBounds b (.map t h)}:=by simp[setObj,Sem.run,a]
def run_getObj_map (a:w.heap[b]?=some (.map dC c)):(getObj b).run P w=.ok (.map dC c) w:=by simp[getObj,Sem.run,a]
theorem Ki {j:IntKind} (b:Int):∀(dC:List MapEntry) (c:ad5) (d:Nat),dC.map (·.key)=c.map (Value.int .i64)->b∉c->Instr.findNow (.int j) (.int .i64 b) dC d=some none
 |[],_,_,_,_=>rfl
 |e::dC,[],_,a,_=>by cases a
 |e::dC,f::c,d,a,h=>by simp only[fr,gu] at a;have i:(b==f)=false:=(by grind);simp only[Instr.findNow,a.1,Instr.sameNow,if_true,i];exact Ki b dC c (d+1) a.2 (λg=>h (fk _ g))
theorem Kj {kd:IntKind} (b:Int):∀(dC:List MapEntry) (d:ad5) (f:Nat),dC.map (·.key)=d.map (Value.int .i64)->b∈d->∃c e,d[c]?=some b/\dC[c]?=some e/\Instr.findNow (.int kd) (.int .i64 b) dC f=some (some (f+c,e.val))
 |[],[],_,_,a=>by cases a
 |[],_::_,_,a,_=>by cases a
 |e::dC,[],_,a,_=>by cases a
 |e::dC,g::d,f,a,m=>by
  simp only[fr,gu] at a;by_cases h:b=g
  ·subst h;refine⟨0,e,rfl,rfl,?_⟩;simp_all [if_true,beq_self_eq_true,Instr.findNow,Instr.sameNow]
  have n:(b==g)=false:=(by grind);obtain⟨c,i,j,k,l⟩:=Kj b dC d (f+1) a.2 ((dx.1 m).resolve_left h);refine⟨c+1,i,by simpa using j,by simpa using k,?_⟩;simp only[Instr.findNow,a.1,Instr.sameNow,if_true,n];rw[l];grind
structure fO (M:dg->Nat->Prop) (w:World) (t:aj) (b:Nat) (l:List (Int×t.den)) (c:Nat) (dC:Array MapEntry) (L:List (Int×Nat×t.den)):Prop where
 nP:jf L l c
 h:w.heap[b]?=some (.map dC c)
 n:dC.size=L.length
 e:∀(i:Nat) (q:Int×Nat×t.den),L[i]?=some q->∃ds:adY,ds.length=t.size/\dC[i]?=some (MapEntry.mk (.int .i64 q.1) (bO t ds) q.2.1)/\aT M w t ds q.2.2 []
variable {M:dg->Nat->Prop} {t:aj} {l:List (Int×t.den)} {L:List (Int×Nat×t.den)}
theorem fO.keys (f:fO M w t b l c dC L):dC.toList.map (·.key)=(L.map (·.1)).map (Value.int .i64):=by
 apply g4;intro d;simp only[fB,wJ];rcases bg d L.length with a|a
 ·obtain⟨g,_,h,_⟩:=f.e d L[d] (a9 a);grind
 rw[hR a,Array.getElem?_eq_none (by rw[f.n];exact a)];rfl
def jf.keys {α:Type} {L:List (Int×Nat×α)} {l:List (Int×α)} {c:Nat} (a:jf L l c):(L.map (·.1)).Perm (l.map (·.1)):=by have:=a.2.1.map (·.1);rwa[sy] at this
def jf.wd {α:Type} {L:List (Int×Nat×α)} {l:List (Int×α)} {c:Nat} (a:jf L l c):(L.map (·.1)).Nodup:=a.keys.nodup_iff.2 (Oj a.1)
def jf.mem {α:Type} {L:List (Int×Nat×α)} {l:List (Int×α)} {c:Nat} (b:jf L l c) {a:Int×Nat×α} (d:a∈L):ev l a.1=some a.2.2:=
 (Uc (Oj b.1)).2 (b.2.1.mem_iff.1 (de.2 ⟨a,d,rfl⟩))
theorem jf.len {α:Type} {L:List (Int×Nat×α)} {l:List (Int×α)} {c:Nat} (a:jf L l c):L.length=l.length:=by have:=a.2.1.length_eq;grind
theorem Ho {P:Program} {w:World} (d:P.underlying a=some (.int u)) {dC:List MapEntry} {b:Option (Nat×Value)} (c:Instr.findNow (.int u) (.int .i64 S) dC 0=some b):(Instr.findKey a (.int .i64 S) dC).run P w=.ok b w:=by simp_all [Sem.run_bind,run_underlying,Result.andThen_ok,Instr.findKey]
def nb {P:Program} {w:World} (c:P.underlying a=some (.int u)) (b:Bool) (e:Nat) (d:Int):(Instr.checkKey b (e+1) a (.int .i64 d)).run P w=.ok () w:=by simp[Instr.checkKey,Sem.run_bind,run_underlying c]
theorem fO.find (j:fO M w t b l c dC L) (v:P.underlying a=some (.int u)) (d:Int):(ev l d=none/\(∀o∈L,o.1≠d)/\∀f,(Instr.findKey a (.int .i64 d) dC.toList).run P f=.ok none f)\/∃h m i g,ev l d=some i/\L[h]?=some (d,m,i)/\g.length=t.size/\dC[h]?=some ⟨.int .i64 d,bO t g,m⟩/\aT M w t g i []/\∀f,(Instr.findKey a (.int .i64 d) dC.toList).run P f=.ok (some (h,bO t g)) f:=by
 by_cases k:d∈L.map (·.1)
 ·obtain⟨h,q,r,s,B⟩:=Kj (kd:=u) d dC.toList _ 0 j.keys k;rw[fB] at r;obtain⟨⟨C,m,i⟩,n,rfl⟩:=er.1 r;obtain⟨g,x,p,y⟩:=j.e h _ n;rw[wJ,p] at s;cases s;refine .inr ⟨h,m,i,g,j.nP.mem (lx n),n,x,p,y,λf=>Ho v ?_⟩;grind
 refine .inl ⟨?_,λo A q=>k (de.2 ⟨o,A,q⟩),λf=>Ho v (Ki d _ _ 0 j.keys k)⟩;cases z:ev l d with
 |none=>rfl
 |some i=>exact absurd (j.nP.keys.mem_iff.2 (de.2 ⟨_,CG z,rfl⟩)) k
def fO.empty (M:dg->Nat->Prop) (t:aj) (a:w.heap[b]?=some (.map #[] 0)):fO M w t b [] 0 #[] []:=
 ⟨⟨.nil,.refl _,.nil,ac⟩,a,rfl,ac⟩
def tU {α:Type} (L:List (Int×Nat×α)) (a:Int) (d:α) (c:Nat):List (Int×Nat×α)×Nat:=
 if a∈L.map (·.1) then(L.map λb=>if b.1=a then(a,b.2.1,d) else b,c) else(L++[(a,c,d)],c+1)
theorem Nb {α:Type} {c:Int} {g:α}:∀{b:List (Int×α)},(b.map (·.1)).Nodup->c∈b.map (·.1)->(b.map λd=>if d.1=c then(c,g) else d).Perm ((c,g)::hY b c)
 |[],_,e=>by cases e
 |(a,u)::b,e,j=>by
  simp only[fr,jC] at e;simp only[fr];by_cases h:a=c
  ·subst h;rw[ai rfl];have i:(b.map λd=>if d.1=a then(a,g) else d)=b:=by
    conv=>rhs;rw[<-List.map_id b]
    refine h3 λd k=>?_;grind
   have f:hY ((a,u)::b) a=b:=(by unfold hY;rw[jd,ah ac,mH];grind);rw[i,f]
  rw[ah h];have f:hY ((a,u)::b) c=(a,u)::hY b c:=(by simp_all [jd,ai,hY]);rw[f];refine((Nb e.2 ?_).cons _).trans (.swap _ _ _);grind
theorem jf.put {α:Type} {L:List (Int×Nat×α)} {l:List (Int×α)} {c:Nat} (e:jf L l c) (d:Int) (g:α):jf (tU L d g c).1 (ht l d g) (bif (ev l d).isSome then c else c+1)/\(tU L d g c).2=(bif (ev l d).isSome then c else c+1):=by
 have i:(ev l d).isSome=decide (d∈L.map (·.1)):=by
  by_cases h:d∈L.map (·.1)
  ·obtain⟨a,f,rfl⟩:=de.1 h;rw[e.mem f,decide_eq_true h];rfl
  rw[decide_eq_false h];cases i:ev l d with
  |none=>rfl
  |some v=>exact absurd (e.keys.mem_iff.2 (de.2 ⟨_,CG i,rfl⟩)) h
 rw[i];unfold tU;have n:((L.map λa=>(a.1,a.2.2)).filter λa=>decide (a.1≠d)).Perm (hY l d):=e.2.1.filter _;by_cases h:d∈L.map (·.1)
 ·rw[ai h,decide_eq_true h];refine⟨⟨Gj e.1,?_,?_,?_⟩,rfl⟩
  ·have al:((L.map λa=>if a.1=d then(d,a.2.1,g) else a).map λa=>(a.1,a.2.2))=(L.map λa=>(a.1,a.2.2)).map λa=>if a.1=d then(d,g) else a:=by
    simp only[sy];refine h3 λa _=>?_;grind
   show((L.map λa=>if a.1=d then(d,a.2.1,g) else a).map λa=>(a.1,a.2.2)).Perm _;rw[al];refine(Nb ?_ ?_).trans ((n.cons _).trans (Gi e.1).symm)
   ·rw[sy];exact e.wd
   grind
  ·have al:((L.map λa=>if a.1=d then(d,a.2.1,g) else a).map λa=>a.2.1)=L.map λa=>a.2.1:=by
    grind [List.map_congr_left,List.map_map]
   show((L.map λa=>if a.1=d then(d,a.2.1,g) else a).map λa=>a.2.1).Nodup;rw[al];exact e.2.2.1
  intro a f;obtain⟨p,o,rfl⟩:=de.1 f;have:=e.2.2.2 p o;grind
 rw[ah h,decide_eq_false h];refine⟨⟨Gj e.1,?_,?_,?_⟩,rfl⟩
 ·have j:hY l d=l:=by
   unfold hY;rw[mH];intro a f;simp only[decide_eq_true_eq];rintro rfl;exact h (e.keys.mem_iff.2 (de.2 ⟨a,f,rfl⟩))
  have:=Gi (k:=d) (v:=g) e.1;rw[j] at this;refine List.Perm.trans ?_ this.symm;show((L++[(d,c,g)]).map λa=>(a.1,a.2.2)).Perm _;rw[fN];exact List.perm_append_comm.trans ((e.2.1).cons _)
 ·show((L++[(d,c,g)]).map λa=>a.2.1).Nodup;rw[fN,iq];refine⟨e.2.2.1,ac,λq m b s r=>?_⟩;obtain⟨a,f,rfl⟩:=de.1 m;have:=e.2.2.2 a f;grind
 intro a f;rcases eN.1 f with f|f
 ·have:=e.2.2.2 a f;grind
 grind
theorem Kf {α:Type} {h:Int}:∀{b:List α} (a:α->Int) {f:Nat} {d:α},(b.map a).Nodup->b[f]?=some d->a d=h->b.eraseIdx f=b.filter λi=>decide (a i≠h)
 |[],a,f,d,_,c,_=>by grind
 |x::b,a,0,d,e,c,g=>by simp only[j4,bS] at c;subst c;simp only[fr,jC] at e;rw[List.eraseIdx_cons_zero,jd,ah (by grind),mH.2];grind
 |x::b,a,f+1,d,e,c,g=>by simp only[py] at c;simp only[fr,jC] at e;rw[List.eraseIdx_cons_succ,jd,ai,Kf a e.2 c g];grind
def jf.del {α:Type} {L:List (Int×Nat×α)} {l:List (Int×α)} {c:Nat} (b:jf L l c) (d:Int):jf (L.filter λa=>decide (a.1≠d)) (hY l d) c:=by
 refine⟨Ua b.1,?_,?_,λa e=>b.2.2.2 a (eY.1 e).1⟩
 ·have:=b.2.1.filter (λa=>decide (a.1≠d));rw[List.filter_map] at this;exact this
 exact b.2.2.1.sublist (List.filter_sublist.map _)
def aT.LD (a:fO M w t b l c dC L):aT M w (.mp t) [.map (some b)] (some (l,c)) [b]:=⟨b,dC,L,rfl,rfl,a.nP,mn.2 a.h,a.n,a.e⟩
def aT.LC (a:aT M w (.mp t) g (some (l,c)) j):∃b dC L,g=[.map (some b)]/\j=[b]/\fO M w t b l c dC L:=by obtain⟨b,dC,L,d,e,f,h,i,k⟩:=a;exact⟨b,dC,L,d,e,f,mn.1 h,i,k⟩
def aT.aar (a:aT M w (.dN Q t) g (some (l,c)) j):∃b dC L,g=[.map (some b)]/\j=[]/\M Q b/\fO M w t b l c dC L:=by obtain⟨b,dC,L,d,e,f,m,h,i,k⟩:=a;exact⟨b,dC,L,d,e,m,f,mn.1 h,i,k⟩
def fb (w:World) (b:Nat) (dC:Array MapEntry) (c:Nat):World:={w with heap:=w.heap.setIfInBounds b (.map dC c)}
theorem mB {es':Array MapEntry} {c':Nat} (a:w.heap[b]?=some (.map dC c)):(fb w b es' c').heap[b]?=some (.map es' c'):=by grind [Array.getElem?_eq_some_iff,fb]
theorem zq {a:Array MapEntry} (c:h≠b):(fb w b a N).heap[h]?=w.heap[h]?:=by grind [Array.getElem?_setIfInBounds_ne,fb]
def Oa {a:Array MapEntry}:(fb w b a h).heap.size=w.heap.size:=by simp[fb]
theorem Za {es':Array MapEntry} {c':Nat} (d:w.heap[b]?=some (.map dC c)) (a:Addr):(fb w b es' c').cell? a=w.cell? a:=by grind [World.cell?_of_block,zq,mB,World.cell?]
theorem Zb {es':Array MapEntry} {c':Nat} (d:w.heap[b]?=some (.map dC c)) (a:Addr):(fb w b es' c').frozen? a=w.frozen? a:=by grind [World.frozen?_of_block,zq,mB,World.frozen?]
def Dx {a:Array MapEntry} (c:h≠b):bT w (fb w b a N) h:=.of_heap (zq c)
theorem fO.update (f:fO M w t b l c dC L) {K:TypeId} (I:P.underlying H=some (.map a K)) (D:P.underlying a=some (.int u)) (d:Int) {o:t.den} (Z:g.length=t.size) (a4:aT M w t g o []):∃v N,(Instr.mapUpdate H (.map (some b)) (.int .i64 d) (bO t g)).run P w=.ok () (fb w b v (bif (ev l d).isSome then c else c+1))/\(∀{x:dg->Nat->Prop},(∀r d,M r d->x r d/\d≠b)->fO x (fb w b v (bif (ev l d).isSome then c else c+1)) t b (ht l d o) (bif (ev l d).isSome then c else c+1) v N)/\jv w (fb w b v (bif (ev l d).isSome then c else c+1)) b:=by
 have ap:∀{x:dg->Nat->Prop} {v:Array MapEntry} {O:Nat},(∀r d,M r d->x r d/\d≠b)->∀{g:adY} {o:t.den},aT M w t g o []->aT x (fb w b v O) t g o []:=
  λy _ _ a3=>a3.mono (λr d B=>⟨(y r d B).1,Dx (y r d B).2⟩) ac
 obtain⟨q,bs⟩:=f.nP.put d o;rcases f.find (P:=P) D d with⟨C,F,G⟩|⟨A,ci,co,bd,C,F,G,W,bl,X⟩
 ·rw[C] at q|-;have B:d∉L.map (·.1):=λbB=>(by grind);simp only[Option.isSome_none,cond_false] at q|-;have al:(tU L d o c).1=L++[(d,c,o)]:=(by simp_all [ah,tU]);rw[al] at q;refine⟨dC.push ⟨.int .i64 d,bO t g,c⟩,L++[(d,c,o)],?_,λy=>⟨q,mB f.h,by simp[f.n],λm k p=>?_⟩,?_⟩
  ·simp only[Instr.mapUpdate,Sem.run_bind,run_underlying I,Result.andThen_ok,run_getObj_map f.h,nb D,G];exact pb f.h
  ·rcases bg m L.length with E|E
   ·rw[nt E] at p;obtain⟨U,R,S,T⟩:=f.e m k p;grind
   rw[oh E] at p;have ad:m-L.length=0:=(by grind);rw[ad] at p;simp only[j4,bS] at p;subst p;exact⟨g,Z,by rw[Array.getElem?_push,ai (by rw[f.n];omega)],ap y a4⟩
  intro V Q z;rw[mn.2 f.h] at z;cases z;refine⟨_,_,mn.2 (mB f.h),Nat.le_succ _,λm s ab Y=>?_⟩;grind
 rw[C] at q|-;have B:d∈L.map (·.1):=de.2 ⟨_,lx F,rfl⟩;simp only[z2,cond_true] at q|-;have al:(tU L d o c).1=L.map λk=>if k.1=d then(d,k.2.1,o) else k:=by simp_all [ai,tU]
 rw[al] at q;have ce:∀(m:Nat) (k:Int×Nat×t.den),L[m]?=some k->k.1=d->m=A:=λm k p s=>(by have av:=f.nP.wd;have am:m<(L.map (·.1)).length:=(by grind);have:=List.getElem?_inj am av (i:=m) (j:=A);grind);refine⟨dC.modify A λs=>{s with key:=.int .i64 d,val:=bO t g},L.map λk=>if k.1=d then(d,k.2.1,o) else k,?_,λy=>⟨q,mB f.h,by simp[f.n],λm k p=>?_⟩,?_⟩
 ·have an:(Instr.keyThatStays (((dC[A]?).map (·.key)).getD (.int .i64 d)) (.int .i64 d)).run P w=.ok (.int .i64 d) w:=by
   rw[W];simp[Instr.keyThatStays,Instr.sameBits]
  simp only[Instr.mapUpdate,Sem.run_bind,run_underlying I,Result.andThen_ok,run_getObj_map f.h,nb D,X,an];exact pb f.h
 ·rw[fB] at p;obtain⟨J,a0,rfl⟩:=er.1 p;by_cases s:J.1=d
  ·grind
  rw[ah s];obtain⟨U,R,S,T⟩:=f.e m J a0;grind
 intro V Q z;rw[mn.2 f.h] at z;cases z;refine⟨_,_,mn.2 (mB f.h),a2 _,λm s ab Y=>?_⟩;grind
theorem fO.delete (d:fO M w t b l c dC L) {N:TypeId} (G:P.underlying H=some (.map a N)) (v:P.underlying a=some (.int u)) (f:Int) (ab:TypeId) (Q:TypeId):∃k O,(Builtin.delete_ #[H,Q] ab #[.map (some b),.int .i64 f]).run P w=.ok (.tuple #[]) (fb w b k c)/\(∀{p:dg->Nat->Prop},(∀g f,M g f->p g f/\f≠b)->fO p (fb w b k c) t b (hY l f) c k O)/\jv w (fb w b k c) b:=by
 have an:∀{p:dg->Nat->Prop} {k:Array MapEntry} {R:Nat},(∀g f,M g f->p g f/\f≠b)->∀{B:adY} {K:t.den},aT M w t B K []->aT p (fb w b k R) t B K []:=
  λr _ _ Z=>Z.mono (λg f J=>⟨(r g f J).1,Dx (r g f J).2⟩) ac
 rcases d.find (P:=P) v f with⟨V,s,E⟩|⟨o,av,a0,ad,V,s,E,F,am,W⟩
 ·have al:hY l f=l:=by
   unfold hY;rw[mH];intro j ap;simp only[decide_eq_true_eq];grind [Lo]
  refine⟨dC,L,?_,λr=>⟨by rw[al];exact d.nP,mB d.h,d.n,λi j m=>?_⟩,?_⟩
  ·simp only[Builtin.delete_,Sem.run_bind,run_underlying G,Result.andThen_ok,run_getObj_map d.h,nb v,E,List.getElem?_toArray,j4,py];rw[pb d.h];rfl
  ·obtain⟨C,y,z,A⟩:=d.e i j m;grind
  intro U S q;rw[mn.2 d.h] at q;cases q;exact⟨_,_,mn.2 (mB d.h),a2 _,λi D I _=>⟨i,D,I,rfl,rfl⟩⟩
 have T:L.eraseIdx o=L.filter λj=>decide (j.1≠f):=Kf (·.1) d.nP.wd s rfl;refine⟨dC.eraseIdxIfInBounds o,L.eraseIdx o,?_,λr=>⟨by rw[T];exact d.nP.del f,mB d.h,?_,λi j m=>?_⟩,?_⟩
 ·simp only[Builtin.delete_,Sem.run_bind,run_underlying G,Result.andThen_ok,run_getObj_map d.h,nb v,W,List.getElem?_toArray,j4,py];rw[pb d.h];rfl
 ·have x:o<dC.size:=(nm.1 F).1;have X:o<L.length:=(eT.1 s).1;rw[Array.eraseIdxIfInBounds,dif_pos x,Array.size_eraseIdx,List.length_eraseIdx,ai X,d.n]
 ·have x:o<dC.size:=(nm.1 F).1;rw[List.getElem?_eraseIdx] at m;rw[Array.eraseIdxIfInBounds,dif_pos x];split at m
  ·rename_i Y;obtain⟨C,y,z,A⟩:=d.e i j m;grind
  rename_i Y;obtain⟨C,y,z,A⟩:=d.e (i+1) j m;grind
 intro U S q;rw[mn.2 d.h] at q;cases q;refine⟨_,_,mn.2 (mB d.h),a2 _,λi D I _=>?_⟩;grind
end
end
section
section
variable {E:eh} {C:dD} {st:aQ} {a:Act} {w:World} {I:Nat->Prop} {rt:Nat->adY} {fp:Nat->ad4} {o:Oper} {Q:ao->List (Nat×aH)->Prop}
def jR (tt:List (TypeId×aj)) (b:TypeId):Option aj:=match au tt b with|some (.mp a)=>some a|some (.dN _ a)=>some a|_=>none
theorem jR.ok {d:TypeId} {i:aj} (c:jR E.tt d=some i):∃a b,E.P.underlying d=some (.map a b)/\E.P.underlying a=some (.int .i64)/\dP E.P i b:=by
 unfold jR at c;split at c
 ·rename_i k h;cases c;obtain⟨j,a,b,_,_,_,_,e,f,g⟩:=E.ok d _ h;exact⟨a,b,e,f,g⟩
 ·rename_i l k h;cases c;obtain⟨j,a,b,_,_,_,_,e,f,g⟩:=E.ok d _ h;exact⟨a,b,e,f,g⟩
 cases c
def v8 (tt:List (TypeId×aj)) (d:List (Nat×aj)) (e:List (Nat×aH)) (a:Nat) (c:TypeId):gR:=
 match jR tt c,au d a,au e a with
 |some f,some (.mp b),none=>bif ba f b then .dw (.ref a []) [(a,⟨.mp b,some ([],0)⟩)] else .bad
 |_,_,_=>.bad
def Uz (f:bC C st a.tmps w I rt fp) (l:o.op=.makeMap H none) (b:(v8 E.tt k st.h c H).K Q):Yields E C st a w I rt fp o Q:=by
 unfold v8 at b;split at b
 case h_2=>exact b.elim
 rename_i m d p q g;cases e:ba m d with
 |false=>rw[e] at b;exact b.elim
 |true=>
 rw[e] at b;have i:(w.alloc (.map #[] 0)).heap[w.heap.size]?=some (.map #[] 0):=(by show(w.heap.push _)[w.heap.size]?=_;rw[Array.getElem?_push,ai rfl]);refine⟨.map (some w.heap.size),w.alloc (.map #[] 0),I,λ_=>[.map (some w.heap.size)],λ_=>[w.heap.size],.ref c [],[(c,⟨.mp d,some ([],0)⟩)],?_,.alloc w _,λ_ b=>b,λ_ b=>.inl b,.one g (aT.LD (fO.empty _ _ i)) ac (λn e=>?_),?_,b⟩
 ·simp[execOp,l,Instr.makeMap,newObj,Sem.run]
 ·simp only[eI] at e;subst e;exact⟨a2 _,ac,λb=>by have:=f.ib _ (.inl b);omega⟩
 have j:au ([(c,(⟨.mp d,some ([],0)⟩:aH))]++st.h) c=some ⟨.mp d,some ([],0)⟩:=(by rw[zX,b1,ai rfl]);refine .ref (t:=⟨.mp d,some ([],0)⟩) (τ':=.mp d) (loc:=none) (cs:=[.map (some w.heap.size)]) j ?_;have:dI [(c,(⟨.mp d,some ([],0)⟩:aH))] (λ_=>[Value.map (some w.heap.size)]) rt c=[.map (some w.heap.size)]:=(by simp[dI,b1]);rw[this];exact aW.here
def CF (a:aj) (c:Option (List (Int×a.den)×Nat)) (d:a.den) (b:Int):Bool->ao
 |true=>.dM [.val a ((iZ c b).getD d),.val .bool (iZ c b).isSome]
 |false=>.val a ((iZ c b).getD d)
def tN (tt:List (TypeId×aj)) (j:List (Nat×aH)) (i:TypeId) (k c:ao) (f:Bool):gR:=
 match jR tt i,c with
 |some h,.val (.int .i64) c=>match k with
  |.val (.dN l a) b=>match kS a with
   |some d=>bif ba h a then .dw (CF a b d c f) [] else .bad
   |none=>.bad
  |.ref id g=>match au j id with
   |some e=>match dR e.1 g with
    |some (.mp a)=>match kS a with
     |some d=>bif ba h a then .part (Option (List (Int×a.den)×Nat)) (λb=>df e.1 e.2 g (.mp a) b) (λb=>(CF a b d c f,[])) else .bad
     |none=>.bad
    |_=>.bad
   |none=>.bad
  |_=>.bad
 |_,_=>.bad
def Lj {p l:TypeId} (t:E.P.underlying p=some (.map H l)) (f:E.P.underlying H=some (.int .i64)) (R:dP E.P d l) {e:Bool} (U:o.op=.lookup p b i e) {n:Int} (T:a.eval i=.int .i64 n) {x:d.den} (W:kS d=some x) {m:Option (List (Int×d.den)×Nat)} (g:(m=none/\a.eval b=.map none)\/∃q u r A z,m=some (u,r)/\a.eval b=.map (some q)/\fO (bj I C.B) w d q u r A z):∃v,(execOp a.eval o).run E.P w=.ok (.value v) w/\∀D:List (Nat×aH),bL (bj I C.B) w D rt fp (CF d m x n e) v:=by
 obtain⟨J,y,ax,Y,K,L⟩:=uD R W;have G:(zeroValue l).run E.P w=.ok y w:=(by simp[zeroValue,typeInfo,ax,Y]);have X:∃j,aT (bj I C.B) w d j ((iZ m n).getD x) []/\(Instr.lookup p (a.eval b) (.int .i64 n) e).run E.P w=.ok (if e then .tuple #[bO d j,.bool (iZ m n).isSome] else bO d j) w:=by
  rcases g with⟨rfl,g⟩|⟨q,u,r,A,z,rfl,g,s⟩
  ·refine⟨y.cells.toList,by simpa[iZ] using L _ _,?_⟩;rw[g];have S:(Instr.findKey H (.int .i64 n) []).run E.P w=.ok none w:=Ho f rfl;simp only[Instr.lookup,Sem.run_bind,run_underlying t,Result.andThen_ok,Sem.run_pure,nb f,S,G];rw[<-K];cases e<;>rfl
  rw[g];rcases s.find (P:=E.P) f n with⟨c,_,N⟩|⟨am,an,ap,M,c,_,ab,ad,O,Q⟩
  ·refine⟨y.cells.toList,by simpa[iZ,c] using L _ _,?_⟩;simp only[Instr.lookup,Sem.run_bind,run_underlying t,Result.andThen_ok,Sem.run_pure,run_getObj_map s.h,nb f,N,G];rw[<-K];simp only[iZ,aG,c,Option.isSome_none]
  refine⟨M,by simpa[iZ,c] using O,?_⟩;simp only[Instr.lookup,Sem.run_bind,run_underlying t,Result.andThen_ok,Sem.run_pure,run_getObj_map s.h,nb f,Q];simp only[iZ,aG,c,z2]
 obtain⟨j,F,V⟩:=X;refine⟨_,by simp only[execOp,U,T,Sem.run_bind,V];rfl,λD=>?_⟩;cases e with
 |false=>exact .val F
 |true=>
  refine .dM ac (λJ Z v c k=>?_)
  match J with
  |0=>simp at c k;subst c;subst k;exact .val F
  |1=>simp at c k;subst c;subst k;exact .bool _
  |n+2=>simp at c
def aT.Gr {e:Option (List (Int×d.den)×Nat)} (k:aT f w (.mp d) g e j):(e=none/\g=[.map none]/\j=[])\/∃a c b i h,e=some (c,b)/\g=[.map (some a)]/\j=[a]/\fO f w d a c b i h:=by
 cases e with
 |none=>exact .inl ⟨rfl,k.2,k.1⟩
 |some o=>
  obtain⟨c,b⟩:=o;obtain⟨a,i,h,l,m,n⟩:=k.LC;exact .inr ⟨a,c,b,i,h,rfl,l,m,n⟩
def aT.O1 {n:dg} {e:Option (List (Int×d.den)×Nat)} (k:aT f w (.dN n d) g e j):(e=none/\g=[.map none])\/∃a c b i h,e=some (c,b)/\g=[.map (some a)]/\fO f w d a c b i h:=by
 cases e with
 |none=>exact .inl ⟨rfl,k.2⟩
 |some o=>
  obtain⟨c,b⟩:=o;obtain⟨a,i,h,l,_,_,m⟩:=k.aar;exact .inr ⟨a,c,b,i,h,rfl,l,m⟩
def T5 (s:bC C st a.tmps w I rt fp) {J:Bool} (D:o.op=.lookup H b i J) (c:(tN E.tt st.h H (aV st.g b) (aV st.g i) J).K Q):Yields E C st a w I rt fp o Q:=by
 have f:=s.aV b;have t:=s.aV i;unfold tN at c;split at c
 case h_2=>exact c.elim
 rename_i O a0 R P;obtain⟨ad,am,L,M,N⟩:=jR.ok R;rw[P] at t;generalize B:a.eval i=av at t;cases t with|val W=>
 obtain⟨_,rfl⟩:=W;split at c
 ·rename_i ab A x r;split at c
  case h_2=>exact c.elim
  rename_i Z u;cases e:ba O A with
  |false=>rw[e] at c;exact c.elim
  |true=>
  rw[e] at c;rw[r] at f;generalize j:a.eval b=Y at f;cases f with|val V=>
  obtain⟨X,y,z⟩:=Lj (rt:=rt) (fp:=fp) (I:=I) (C:=C) (E:=E) (w:=w) (a:=a) (m:=x) L M (N.lay e) D B u (by
   rcases V.O1 with⟨al,d⟩|⟨l,v,n,q,k,al,d,p⟩
   ·exact .inl ⟨al,by rw[j,d];rfl⟩
   exact .inr ⟨l,v,n,q,k,al,by rw[j,d];rfl,p⟩)
  exact .pure y (z _) c
 ·rename_i id a3 r;split at c
  case h_2=>exact c.elim
  rename_i a4 F;split at c
  case h_2=>exact c.elim
  rename_i A ap;split at c
  case h_2=>exact c.elim
  rename_i Z u;cases e:ba O A with
  |false=>rw[e] at c;exact c.elim
  |true=>
  rw[e] at c;obtain⟨x,S,c⟩:=c;rw[r] at f;generalize j:a.eval b=Y at f;cases f with|ref G T=>
  rw[F] at G;cases G;obtain⟨rfl,an,U,_⟩:=s.jO F S T;obtain⟨X,y,z⟩:=Lj (rt:=rt) (fp:=fp) (I:=I) (C:=C) (E:=E) (w:=w) (a:=a) (m:=x) L M (N.lay e) D B u (by
   rcases U.Gr with⟨al,d,_⟩|⟨l,v,n,q,k,al,d,_,p⟩
   ·exact .inl ⟨al,by rw[j,d];rfl⟩
   exact .inr ⟨l,v,n,q,k,al,by rw[j,d];rfl,p⟩)
  exact .pure y (z _) c
 exact c.elim
def tS (tt:List (TypeId×aj)) (f:List (Nat×aH)) (e:TypeId) (g:ao):gR:=
 match jR tt e with
 |none=>.bad
 |some _=>match g with
  |.val (.dN _ b) a=>.dw (.val (.int .i64) (vZ (α:=b.den) a)) []
  |.ref id d=>match au f id with
   |some c=>match dR c.1 d with
    |some (.mp b)=>.part (Option (List (Int×b.den)×Nat)) (λa=>df c.1 c.2 d (.mp b) a) (λa=>(.val (.int .i64) (vZ a),[]))
    |_=>.bad
   |none=>.bad
  |_=>.bad
def LA {q r:TypeId} (l:E.P.underlying H=some (.map q r)) (p:o.op=.call {callee:=.builtin .len,args:=#[b],argTypes:=#[H]}) {m:Option (List (Int×d.den)×Nat)} (c:(m=none/\a.eval b=.map none)\/∃f e g i k,m=some (e,g)/\a.eval b=.map (some f)/\fO (bj I C.B) w d f e g i k):(execOp a.eval o).run E.P w=.ok (.value (.int .i64 (vZ m))) w:=by
 rcases c with⟨rfl,c⟩|⟨f,e,g,i,k,rfl,c,j⟩
 ·simp[execOp,p,resolve,invoke,builtin,c,Builtin.len_,run_underlying l,goInt,vZ]
 have s:i.size=e.length:=(by rw[j.n,j.nP.len]);simp only[execOp,p,resolve,invoke,builtin,Sem.run_bind,Sem.run_pure,Result.andThen_ok,wW,fr,qO,c,Builtin.len_,List.getElem?_toArray,j4,run_underlying l,run_getObj_map j.h,goInt,vZ,s]
def UB (s:bC C st a.tmps w I rt fp) (t:o.op=.call {callee:=.builtin .len,args:=#[b],argTypes:=#[H]}) (c:(tS E.tt st.h H (aV st.g b)).K Q):Yields E C st a w I rt fp o Q:=by
 have e:=s.aV b;unfold tS at c;split at c
 ·exact c.elim
 rename_i S y;obtain⟨J,L,x,P,R⟩:=jR.ok y;generalize f:a.eval b=T at e;split at c
 ·rename_i G F r p;rw[p] at e;cases e with|val D=>
  refine .pure (LA (I:=I) (C:=C) (m:=r) x t ?_) (.int _ _) c;rcases D.O1 with⟨al,d⟩|⟨j,q,k,n,i,al,d,l⟩
  ·exact .inl ⟨al,by rw[f,d];rfl⟩
  exact .inr ⟨j,q,k,n,i,al,by rw[f,d];rfl,l⟩
 ·rename_i id O p;split at c
  case h_2=>exact c.elim
  rename_i U u;split at c
  case h_2=>exact c.elim
  rename_i F N;obtain⟨r,z,c⟩:=c;rw[p] at e;cases e with|ref v A=>
  rw[u] at v;cases v;obtain⟨rfl,M,B,_⟩:=s.jO u z A;refine .pure (LA (I:=I) (C:=C) (m:=r) x t ?_) (.int _ _) c;rcases B.Gr with⟨al,d,_⟩|⟨j,q,k,n,i,al,d,_,l⟩
  ·exact .inl ⟨al,by rw[f,d];rfl⟩
  exact .inr ⟨j,q,k,n,i,al,by rw[f,d];rfl,l⟩
 exact c.elim
end
end
section
section
variable {E:eh} {C:dD} {st:aQ} {a:Act} {w:World} {I:Nat->Prop} {rt:Nat->adY} {fp:Nat->ad4} {o:Oper} {Q:ao->List (Nat×aH)->Prop}
def Dc (b c d:ao):gR:=
 match b with
 |.val .bool b=>.part Bool (λa=>b=a) (λa=>(match a with|true=>c|false=>d,[]))
 |_=>.bad
def XG (e:bC C st a.tmps w I rt fp) {d:Operand} (j:o.op=.pick b i d) (c:(Dc (aV st.g b) (aV st.g i) (aV st.g d)).K Q):Yields E C st a w I rt fp o Q:=by
 have f:=e.aV b;unfold Dc at c;split at c
 case h_2=>exact c.elim
 rename_i h l;obtain⟨h,rfl,c⟩:=c;rw[l] at f;generalize k:a.eval b=n at f;cases f with|val m=>
 obtain⟨_,rfl⟩:=m;cases h
 ·exact .pure (v:=a.eval d) (by simp[execOp,j,k,bO,asBool]) (e.aV d) c
 exact .pure (v:=a.eval i) (by simp[execOp,j,k,bO,asBool]) (e.aV i) c
def HQ (e:UnOp) (c:ao):gR:=
 match e,c with
 |.neg,.val (.int a) c=>.part Int (λb=>a.wrap (0-c)=b) (λb=>(.val (.int a) b,[]))
 |.xor,.val (.int a) c=>.part Int (λb=>a.wrap (BitVec.ofInt a.bits (if a.signed then-1 else a.max)^^^BitVec.ofInt a.bits c).toNat=b) (λb=>(.val (.int a) b,[]))
 |.not,.val .bool d=>.dw (.val .bool (!d)) []
 |_,_=>.bad
def Z3 (l:bC C st a.tmps w I rt fp) {k:UnOp} (i:o.op=.unOp k H b) (c:(HQ k (aV st.g b)).K Q):Yields E C st a w I rt fp o Q:=by
 have d:=l.aV b;unfold HQ at c;generalize j:a.eval b=p at d;split at c
 ·rename_i f m e;obtain⟨n,rfl,c⟩:=c;rw[e] at d;cases d with|val h=>
  obtain⟨_,rfl⟩:=h;exact .pure (v:=.int f _) (by simp only[execOp,i,j,bO,Op.unary,Op.intArith];rfl) (.int f _) c
 ·rename_i f m e;obtain⟨n,rfl,c⟩:=c;rw[e] at d;cases d with|val h=>
  obtain⟨_,rfl⟩:=h;exact .pure (v:=.int f _) (by simp only[execOp,i,j,bO,Op.unary,Op.intBits];rfl) (.int f _) c
 ·rename_i q e;rw[e] at d;cases d with|val h=>
  obtain⟨_,rfl⟩:=h;exact .pure (v:=.bool _) (by simp only[execOp,i,j,bO,Op.unary];rfl) (.bool _) c
 exact c.elim
def Ax (tt:List (TypeId×aj)) (e d:TypeId) (a:ao):gR:=
 match au tt e,au tt d,a with
 |some (.int _),some (.int c),.val (.int _) a=>.part Int (λb=>c.wrap a=b) (λb=>(.val (.int c) b,[]))
 |_,_,_=>.bad
def Ry (k:bC C st a.tmps w I rt fp) {e:TypeId} (l:o.op=.convert e H b) (c:(Ax E.tt e H (aV st.g b)).K Q):Yields E C st a w I rt fp o Q:=by
 have d:=k.aV b;unfold Ax at c;split at c
 case h_2=>exact c.elim
 rename_i s f t u i j h;obtain⟨x,rfl,c⟩:=c;generalize m:a.eval b=r at d;rw[h] at d;cases d with|val n=>
 obtain⟨_,rfl⟩:=n;obtain⟨_,_,_,_,_,p⟩:=E.ok e _ i;obtain⟨_,_,_,_,_,q⟩:=E.ok H _ j;exact .pure (v:=.int f _) (by simp[execOp,l,m,bO,convert,run_underlying p,run_underlying q,Conv.intToInt]) (.int f _) c
def pg (c:ByteArray) (a:Int):adZ:=if 0<=a then(c[a.toNat]?).map λb=>(b.toNat:Int) else none
def CD:ByteArray:=⟨#[0,1,2,2,3,3,3,3,4,4,4,4,4,4,4,4,5,5,5,5,5,5,5,5,5,5,5,5,5,5,5,5,6,6,6,6,6,6,6,6,6,6,6,6,6,6,6,6,6,6,6,6,6,6,6,6,6,6,6,6,6,6,6,6,7,7,7,7,7,7,7,7,7,7,7,7,7,7,7,7,7,7,7,7,7,7,7,7,7,7,7,7,7,7,7,7,7,7,7,7,7,7,7,7,7,7,7,7,7,7,7,7,7,7,7,7,7,7,7,7,7,7,7,7,7,7,7,7,8,8,8,8,8,8,8,8,8,8,8,8,8,8,8,8,8,8,8,8,8,8,8,8,8,8,8,8,8,8,8,8,8,8,8,8,8,8,8,8,8,8,8,8,8,8,8,8,8,8,8,8,8,8,8,8,8,8,8,8,8,8,8,8,8,8,8,8,8,8,8,8,8,8,8,8,8,8,8,8,8,8,8,8,8,8,8,8,8,8,8,8,8,8,8,8,8,8,8,8,8,8,8,8,8,8,8,8,8,8,8,8,8,8,8,8,8,8,8,8,8,8,8,8,8,8,8,8]⟩
def DD (tt:List (TypeId×aj)) (d:TypeId) (f e:ao):gR:=
 match au tt d,f,e with
 |some .str,.cv (.string c),.val (.int _) b=>.part Int (λa=>pg c b=some a) (λa=>(.val (.int .u8) a,[]))
 |some .str,.val .str c,.val (.int _) b=>.part Int (λa=>pg c b=some a) (λa=>(.val (.int .u8) a,[]))
 |_,_,_=>.bad
def ZD (y:bC C st a.tmps w I rt fp) (D:o.op=.index H i b) (n:(DD E.tt H (aV st.g i) (aV st.g b)).K Q):Yields E C st a w I rt fp o Q:=by
 have j:=y.aV i;have h:=y.aV b;have x:∀(f:ByteArray) (k:IntKind) (e c:Int),au E.tt H=some .str->a.eval i=.string f->a.eval b=.int k e->pg f e=some c->Q (.val (.int .u8) c) []->Yields E C st a w I rt fp o Q:=by
  intro f k e c p m l d q;obtain⟨_,_,_,_,_,u⟩:=E.ok H _ p;refine .pure (v:=.int .u8 c) ?_ (.int .u8 c) q;unfold pg at d;split at d
  case isFalse=>cases d
  rename_i A;obtain⟨G,B,rfl⟩:=er.1 d;simp[execOp,D,Instr.index,m,l,asIntOf,run_underlying u,A,B]
 unfold DD at n;split at n
 ·rename_i f k e p m l;obtain⟨c,d,q⟩:=n;rw[m] at j;rw[l] at h;generalize s:a.eval i=z at j;generalize r:a.eval b=u at h;cases j;cases h with|val t=>
  obtain⟨_,rfl⟩:=t;exact x f k e c p s r d q
 ·rename_i f k e p m l;obtain⟨c,d,q⟩:=n;rw[m] at j;rw[l] at h;generalize s:a.eval i=z at j;generalize r:a.eval b=u at h;cases j with|val F=>
  obtain⟨_,rfl⟩:=F;cases h with|val t=>
  obtain⟨_,rfl⟩:=t;exact x f k e c p s r d q
 exact n.elim
def Ce (d:ao) (c:Nat):gR:=
 match d with
 |.dM b=>match b[c]? with
  |some a=>.dw a []
  |none=>.bad
 |_=>.bad
def SG (k:bC C st a.tmps w I rt fp) (n:o.op=.extract b c) (d:(Ce (aV st.g b) c).K Q):Yields E C st a w I rt fp o Q:=by
 have f:=k.aV b;unfold Ce at d;generalize p:a.eval b=q at f;split at d
 case h_2=>exact d.elim
 rename_i s j;split at d
 case h_2=>exact d.elim
 rename_i i h;rw[j] at f;cases f with|dM r l=>
 rename_i e;have m:c<e.size:=(by have:=(eT.1 h).1;omega);have:e[c]?=some e[c]:=wH m;exact .pure (v:=e[c]) (by simp[execOp,n,p,Instr.extract,this]) (l c i _ h this) d
def v9 (c:Bool) (a:ao):List ao->gR
 |[]=>.dw a []
 |y::d=>match a,y with
  |.val (.int b) a,.val (.int e) y=>if b=e then(match c with|true=>v9 c (.val (.int b) (if y>a then y else a)) d|false=>v9 c (.val (.int b) (if y<a then y else a)) d) else .bad
  |_,_=>.bad
def CN (j:bC C st a.tmps w I rt fp) (m:Bool):∀(e:List Operand) (i:ao) (f:Value),bL (bj I C.B) w st.h rt fp i f->(v9 m i (e.map (aV st.g))).K Q->∃d c,((e.map a.eval).foldlM (match m with|true=>Builtin.max2|false=>Builtin.min2) f).run E.P w=.ok d w/\bL (bj I C.B) w st.h rt fp c d/\Q c []
 |[],i,f,k,b=>⟨f,i,rfl,k,b⟩
 |y::e,i,f,k,b=>by
  have l:=j.aV y;simp only[fr,v9] at b;generalize p:a.eval y=A at l;split at b
  case h_2=>exact b.elim
  rename_i q x v z r;split at b
  case isFalse=>exact b.elim
  rename_i s;subst s;rw[r] at l;cases k with|val t=>cases l with|val u=>
  obtain⟨_,rfl⟩:=t;obtain⟨_,rfl⟩:=u;cases m
  ·obtain⟨d,c,ax,n,o⟩:=CN j false e _ _ (.int q _) b;refine⟨d,c,?_,n,o⟩;simp only[fr,List.foldlM_cons,p,Sem.run_bind];exact ax
  obtain⟨d,c,ax,n,o⟩:=CN j true e _ _ (.int q _) b;refine⟨d,c,?_,n,o⟩;simp only[fr,List.foldlM_cons,p,Sem.run_bind];exact ax
def FV:ao->Bool
 |.val _ _|.cv _|.dv _ _=>true
 |_=>false
def fl (tt:List (TypeId×aj)) (i:List (Nat×aj)) (d:List (Nat×aH)) (b:Operand->ao) (g:Nat) (h:Op):gR:=
 match h with
 |.move a=>.dw (b a) []
 |.assign a=>bif FV (b a) then .dw (b a) [] else .bad
 |.pick f a n=>Dc (b f) (b a) (b n)
 |.alloc c=>u2 tt i d g c
 |.box c a=>xa tt d g c (b a)
 |.build c l=>w9 tt b c l.toList
 |.buildSlice c e l=>vc tt i d b g c e l.toList
 |.load c a=>tM tt d c (b a)
 |.nilCheck a=>tV d (b a)
 |.binOp h c a n _=>match b a,b n with
  |.val .bool x,.val .bool y=>match au tt c with
   |some .bool=>Ey h (.val .bool x) (.val .bool y)
   |_=>.bad
  |.val (.int k) v,.val (.int s) e=>kF h k v s e
  |_,_=>.bad
 |.unOp h _ a=>HQ h (b a)
 |.convert z g a=>Ax tt z g (b a)
 |.makeSlice c t f=>tQ tt i d g c (b t) (b f)
 |.slice c a u r none=>ur tt d c (b a) (u.map b) (r.map b)
 |.fieldAddr c a e=>tw tt d c (b a) e
 |.field c a e=>vM tt d c (b a) e
 |.indexAddr c a j=>tG tt d c (b a) (b j)
 |.index c a j=>DD tt c (b a) (b j)
 |.extract a e=>Ce (b a) e
 |.call f=>match f.callee,f.args.toList,f.argTypes.toList with
  |.builtin .len,[a],[c]=>match fh tt c with
   |some _=>tL tt d c (b a)
   |none=>tS tt d c (b a)
  |.builtin .max,a::m,_=>v9 true (b a) (m.map b)
  |.builtin .min,a::m,_=>v9 false (b a) (m.map b)
  |_,_,_=>.bad
 |.makeMap c none=>v8 tt i d g c
 |.lookup c a k w=>tN tt d c (b a) (b k) w
 |.makeFunc (.func p) q o=>bif q.isEmpty then .dw (.dv p (o.toList.map b)) [] else .bad
 |_=>.bad
theorem Sh (e:bC C st a.tmps w I rt fp) (d:(fl E.tt k st.h (aV st.g) c o.op).K Q):Yields E C st a w I rt fp o Q:=by
 unfold fl at d;split at d
 ·rename_i f b;exact .pure (v:=a.eval f) (by simp[execOp,b]) (e.aV f) d
 ·rename_i f b;cases B:FV (aV st.g f) with
  |false=>rw[B] at d;exact d.elim
  |true=>rw[B] at d;exact .pure (v:=a.eval f) (by simp[execOp,b]) (e.aV f) d
 ·rename_i b;exact XG e b d
 ·rename_i b;exact Qd e b d
 ·rename_i b;exact QM e b d
 ·rename_i b;exact QJ e b d
 ·rename_i b;exact QQ e b d
 ·rename_i b;exact T2 e b d
 ·rename_i b;exact UP e b d
 ·rename_i X n f u Y b;split at d
  ·rename_i P R m p;split at d
   ·rename_i M;refine I8 e b (λ_ _ _ _=>?_) (by rw[m,p];exact d);exact(E.ok n _ M).choose_spec.2.2.2.2
   exact d.elim
  ·rename_i m p;refine I8 e b (λP R _ D=>?_) (by rw[m,p];exact d);rw[m] at D;cases D.1
  exact d.elim
 ·rename_i b;exact Z3 e b d
 ·rename_i b;exact Ry e b d
 ·rename_i b;exact Ug e b d
 ·rename_i b;exact Zj e b d
 ·rename_i b;exact SO e b d
 ·rename_i b;exact SQ e b d
 ·rename_i b;exact Tp e b d
 ·rename_i b;exact ZD e b d
 ·rename_i b;exact SG e b d
 ·rename_i G b;obtain⟨U,i,x⟩:=G;simp only at d;split at d
  ·rename_i f n al V;have j:i=#[f]:=(by cases i;simp_all);have J:x=#[n]:=(by cases x;simp_all);subst j;subst J;split at d
   ·exact TV e b d
   exact UB e b d
  ·rename_i f l al;have j:i=(f::l).toArray:=(by cases i;simp_all);obtain⟨t,F,ax,r,s⟩:=CN (E:=E) e true l _ _ (e.aV f) d;refine .pure (v:=t) ?_ r s;simp only[execOp,b,resolve,invoke,builtin,Sem.run_bind,Sem.run_pure,Result.andThen_ok,j,Builtin.max_];simp only[wW,fr,ax];rfl
  ·rename_i f l al;have j:i=(f::l).toArray:=(by cases i;simp_all);obtain⟨t,F,ax,r,s⟩:=CN (E:=E) e false l _ _ (e.aV f) d;refine .pure (v:=t) ?_ r s;simp only[execOp,b,resolve,invoke,builtin,Sem.run_bind,Sem.run_pure,Result.andThen_ok,j,Builtin.min_];simp only[wW,fr,ax];rfl
  exact d.elim
 ·rename_i b;exact Uz e b d
 ·rename_i b;exact T5 e b d
 ·rename_i L y H b;cases q:y.isEmpty with
  |false=>rw[q] at d;exact d.elim
  |true=>
   rw[q] at d;obtain rfl:y=#[]:=(by simpa using q);refine .pure (v:=.func (.func L) #[] (H.map a.eval)) (by simp[execOp,b,Instr.makeFunc]) (.dv ac (λW f T z A=>?_)) d;rw[fB] at z;rw[Array.getElem?_map] at A;obtain⟨u,N,rfl⟩:=er.1 z;obtain⟨S,O,rfl⟩:=er.1 A;obtain rfl:u=S:=(by simpa[O] using N.symm);exact e.aV u
 exact d.elim
end
end
def du (b:Nat) (a:ad4):Bool:=a.any λc=>Nat.beq c b
theorem fG:du c j=true↔c∈j:=by
 simp only[du,ns];constructor
 ·rintro⟨d,b,a⟩;rw[<-eF a];exact b
 exactλa=>⟨c,a,pC c⟩
def ao.ej (a:ad4) (b:ao):Bool:=b.ids.any λc=>du c a
def uq:List a5->Option (List a5)
 |.unst::a=>(uq a).map λb=>.unst::b
 |.fst::_=>some [.snd]
 |.snd::_=>some [.fst]
 |_=>none
def qv:List a5->List a5->Option (List a5)
 |p,[]=>uq p
 |.idx _::p,.idx _::a=>qv p a
 |.deref::p,.deref::a=>qv p a
 |.unst::p,.unst::a=>qv p a
 |.fst::p,.fst::a=>qv p a
 |.snd::p,.snd::a=>qv p a
 |_,_=>none
def FX (a b:List a5):Bool:=fE a b||(qv a b).isSome
def Oh:∀{p b:List a5},uq p=some b->fE p b=true
 |.unst::p,b,a=>by obtain⟨d,c,rfl⟩:=er.1 a;exact Oh (p:=p) c
 |.fst::_,_,a=>by cases a;rfl
 |.snd::_,_,a=>by cases a;rfl
 |[],_,a=>by cases a
 |.idx _::_,_,a=>by cases a
 |.deref::_,_,a=>by cases a
def Og:∀{q p b:List a5},qv p q=some b->fE p (q++b)=true
 |[],p,b,a=>by have c:uq p=some b:=(by cases p<;>exact a);exact Oh c
 |s::q,p,b,a=>by
  cases p with
  |nil=>cases s<;>cases a
  |cons d p=>cases s<;>cases d<;>first|(cases a;done)|exact Og (q:=q) (p:=p) a
def Oi:∀{p e:List a5} {τ h:aj},dR τ p=some h->uq p=some e->∃(o:aj) (m:Nat),∀(i:World) (b:Loc) (g:adY),∃k,aW i τ b g e o (b.map λd=>(d.1,d.2+m)) k
 |.unst::p,e,τ,h,c,a=>by
  obtain⟨q,l,rfl⟩:=er.1 a;cases τ with
  |st n=>exact Oi (p:=p) (τ:=n) c l
  |_=>cases c
 |.fst::p,e,τ,h,c,a=>by
  cases a;cases τ with
  |pr f j=>exact⟨j,f.size,λi b g=>⟨_,aW.here⟩⟩
  |_=>cases c
 |.snd::p,e,τ,h,c,a=>by
  cases a;cases τ with
  |pr f j=>
   refine⟨f,0,λi b g=>⟨g.take f.size,?_⟩⟩;have:(b.map λd=>(d.1,d.2+0))=b:=(by cases b<;>rfl);rw[this];exact aW.here
  |_=>cases c
 |[],_,_,_,_,a=>by cases a
 |.idx _::_,_,_,_,_,a=>by cases a
 |.deref::_,_,_,_,_,a=>by cases a
def wy {o:World}:∀{q p d:List a5} {e f:aj} {j:Loc} {i:adY} {g:aj} {k:Loc} {h:adY},dR e p=some f->qv p q=some d->aW o e j i q g k h->∃l,dR g l=some f/\uq l=some d
 |[],p,d,e,f,j,i,g,k,h,c,b,a=>by obtain⟨rfl,_,_⟩:=aW.e1.1 a;have m:uq p=some d:=(by cases p<;>exact b);exact⟨p,c,m⟩
 |s::q,p,d,e,f,j,i,g,k,h,c,b,a=>by
  cases p with
  |nil=>cases s<;>cases b
  |cons n p=>
   cases e<;>cases s<;>simp only[aW] at a<;>cases n<;>first|(cases b;done)|skip
   case osl.idx.idx=>obtain⟨_,_,_,_,_,_,_,_,_,a⟩:=a;exact wy (q:=q) (p:=p) c b a
   case optr.deref.deref=>obtain⟨_,_,_,_,_,_,a⟩:=a;exact wy (q:=q) (p:=p) c b a
   case st.unst.unst=>exact wy (q:=q) (p:=p) c b a
   case pr.fst.fst=>exact wy (q:=q) (p:=p) c b a
   case pr.snd.snd=>exact wy (q:=q) (p:=p) c b a
def aW.split {u:World}:∀{q j:List a5} {d k:aj} {g i:Loc} {f h:adY},aW u d g f (q++j) k i h->∃e c b,aW u d g f q e c b/\aW u e c b j k i h
 |[],j,d,k,g,i,f,h,a=>⟨d,g,f,aW.here,a⟩
 |s::q,j,d,k,g,i,f,h,a=>by
  rw[jb] at a;cases d<;>cases s<;>simp only[aW] at a
  case osl.idx=>
   obtain⟨l,t,x,v,m,al,n,o,w,a⟩:=a;obtain⟨e,c,b,p,r⟩:=aW.split (q:=q) a;exact⟨e,c,b,⟨l,t,x,v,m,al,n,o,w,p⟩,r⟩
  case optr.deref=>
   obtain⟨l,t,m,al,n,o,a⟩:=a;obtain⟨e,c,b,p,r⟩:=aW.split (q:=q) a;exact⟨e,c,b,⟨l,t,m,al,n,o,p⟩,r⟩
  case st.unst=>exact aW.split (q:=q) a
  case pr.fst=>exact aW.split (q:=q) a
  case pr.snd=>exact aW.split (q:=q) a
def aW.upper {f D:List a5} (B:dR d f=some R) (m:qv f n=some D) (b:aW e d none x n q (some (c,h)) g) (A:∀(n:List a5) (q:aj) (p:Loc) (g:adY),fE f n=true->aW e d none x n q p g->aW l d none x n q p g):∃s,aW l d none x n q (some (c,h)) s:=by
 obtain⟨J,u,v⟩:=wy B m b;obtain⟨L,I,k⟩:=Oi u v;obtain⟨F,w⟩:=k e (some (c,h)) g;obtain⟨K,o,i,j,y⟩:=aW.split (A _ _ _ _ (Og m) (b.append w));have al:=j.ty;rw[b.ty] at al;obtain rfl:=ee al;obtain⟨G,z⟩:=k l o i;obtain⟨_,a,_⟩:=y.iF z;cases o with
 |none=>cases a
 |some E=>
  obtain⟨r,C⟩:=E;simp only[ga,bS,gm] at a;obtain⟨t,H⟩:=a;obtain rfl:c=r:=t;obtain rfl:h=C:=U;exact⟨i,j⟩
def kk (c:List (Nat×List a5)):ao->Bool
 |.ref id []=>c.any λa=>Nat.beq a.1 id
 |.ref id b=>c.any λa=>Nat.beq a.1 id&&fE a.2 b
 |.addr id b=>c.any λa=>Nat.beq a.1 id&&FX a.2 b
 |.view id b _ _=>c.any λa=>Nat.beq a.1 id&&fE a.2 b
 |_=>false
def iH (c:ad4) (b:List (Nat×List a5)):ao->Bool
 |.dv _ f=>f.all λa=>!(a.ej c)||kk b a
 |.app id h _ _ g=>(g.all λe=>!(du e c))&&b.any λd=>Nat.beq d.1 id&&jJ d.2 h
 |a=>kk b a
def dO (b:ad4) (c:List (Nat×List a5)) (a:ao):ao:=bif a.ej b&&!(iH b c a) then .dead else a
def eu (b:ad4) (c:List (Nat×List a5)):ao->ao
 |.dM d=>.dM (d.map (dO b c))
 |a=>dO b c a
def kill (b:ad4) (d:List (Nat×List a5)) (c:List (Nat×ao)):List (Nat×ao):=c.map λa=>(a.1,eu b d a.2)
def del (a:ad4) (b:List (Nat×aH)):List (Nat×aH):=b.filter λc=>!(du c.1 a)
def Cx (a:List a5):fE [] a=false:=by cases a<;>simp[fE,nO]
def vR (b:ad4):List (Nat×List a5):=b.map λa=>(a,[])
theorem qc (c:ad4) (e:List (Nat×List a5)):∀(d:List (Nat×ao)) (b:Nat),gt (kill c e d) b=eu c e (gt d b)
 |[],b=>by simp[kill,gt,au,eu,dO,ao.ej,ao.ids]
 |(f,a)::d,b=>by
  show gt ((f,eu c e a)::kill c e d) b=_;rw[hJ,hJ];split
  ·rfl
  exact qc c e d b
theorem lK (b:ad4):∀(d:List (Nat×aH)) (a:Nat),au (del b d) a=if a∈b then none else au d a
 |[],a=>by simp[del,au]
 |(e,t)::d,a=>by
  have g:=lK b d a;simp only[del] at g|-;rw[jd];cases f:du e b with
  |true=>
   have:e∈b:=fG.1 f;simp only[e3,Bool.false_eq_true,if_false];rw[g,b1];by_cases c:e=a
   ·subst c;rw[ai this,ai this]
   rw[ah c]
  |false=>
   have:e∉b:=λd=>(by rw[fG.2 d] at f;cases f);simp only[ij,if_true];rw[b1,b1,g];by_cases c:e=a
   ·subst c;rw[ai rfl,ai rfl,ah this]
   rw[ah c,ah c]
def HS (a:L.ej j=false):∀id∈L.ids,id∉j:=λid c b=>by have:L.ej j=true:=(by simp only[ao.ej,ns];exact⟨id,c,fG.2 b⟩);rw[a] at this;cases this
structure l5 (C:dD) (st:aQ) (w w':World) (I I':Nat->Prop) (rt:Nat->adY) (fp:Nat->ad4) (S:ad4) (K3:List (Nat×List a5)) (new:List (Nat×aH)) (rtn:Nat->adY) (fpn:Nat->ad4):Prop where
 size:w.heap.size<=w'.heap.size
 os:w'.os=w.os
 tape:w'.tape=w.tape
 output:w'.output=w.output
 heap:∀b,b<w.heap.size->(∀id∈S,∀t,au st.h id=some t->b∉fp id)->w'.heap[b]?=w.heap[b]?
 evo:∀b,b<w.heap.size->jv w w' b
 i:∀b,I b->I' b
 i2:∀b,I' b->I b\/(b<w'.heap.size/\(w.heap.size<=b\/∃id∈S,∃t,au st.h id=some t/\b∈fp id))
 tree:∀id t,au new id=some t->(id∈S\/au st.h id=none)/\aT (bj I' C.B) w' t.1 (rtn id) t.2 (fpn id)/\(fpn id).Nodup/\∀b∈fpn id,¬I' b/\b<w'.heap.size/\(w.heap.size<=b\/∃KK∈S,∃t',au st.h KK=some t'/\b∈fp KK)
 dis:∀i j t u,au new i=some t->au new j=some u->i≠j->∀b∈fpn i,b∉fpn j
 keep:∀e∈K3,∀t,au st.h e.1=some t->∃t',au new e.1=some t'/\t'.1=t.1/\rtn e.1=rt e.1/\(∃aaL,dR t.1 e.2=some aaL)/\∀(q:List a5) (Pa:aj) (Ln:Loc) (JF:adY),fE e.2 q=true->aW w t.1 none (rt e.1) q Pa Ln JF->aW w' t.1 none (rt e.1) q Pa Ln JF
 app:∀e∈K3,∀t,au st.h e.1=some t->∀(q:List a5) (τ:aj) (xs:List τ.den) (loc:Loc) (xb:adY) (f1:ad4),jJ e.2 q=true->τ.jq=true->aW w t.1 none (rt e.1) q (.osl τ) loc xb->df t.1 t.2 q (.osl τ) xs->aT (bj I C.B) w (.osl τ) xb xs f1->∃t',au new e.1=some t'/\df t'.1 t'.2 q (.osl τ) xs/\∀b∈f1,b∈fpn e.1/\bT w w' b
def bC.bU {E:aQ} {w':World} {I':Nat->Prop} {rtn:Nat->adY} {fpn:Nat->ad4} {S:ad4} {keep:List (Nat×List a5)} {new:List (Nat×aH)} (j:bC I E y e m o p) (r:l5 I E e w' m I' o p S keep new rtn fpn):bC I ⟨kill S keep E.g,new++del S E.h⟩ y w' I' (dI new rtn o) (dI new fpn p):=by
 have a0:∀ap a,bj m I.B ap a->bj I' I.B ap a/\bT e w' a:=λap a b=>by
  refine⟨?_,.of_heap (r.heap a (j.ib a (mq b)) (λid _ d f fp=>j.notM f a fp ap b))⟩;cases ap
  ·exact r.i a b
  exact b.imp (r.i a) id
 have co:∀id d,au (new++del S E.h) id=some d->(au new id=some d/\dI new rtn o id=rtn id/\dI new fpn p id=fpn id)\/(au new id=none/\id∉S/\au E.h id=some d/\dI new rtn o id=o id/\dI new fpn p id=p id):=λid d f=>by
  rw[jo,lK] at f;cases A:au new id with
  |none=>
   rw[A] at f;simp only[Option.none_or] at f;split at f
   ·cases f
   rename_i F;exact .inr ⟨rfl,F,f,by simp[dI,A],by simp[dI,A]⟩
  |some r=>rw[A] at f;exact .inl ⟨by simpa using f,by simp[dI,A],by simp[dI,A]⟩
 have ci:∀id d,au E.h id=some d->id∉S->∀a∈p id,bT e w' a:=λid d f F a b=>.of_heap (r.heap a ((j.tree id d f).2.2 a b).2.2.1 (λN P u M G=>
  j.dis id N d u f M (λc=>F (by rw[c];exact P)) a b G))
 have ex:∀id d,au E.h id=some d->id∉S->∀a∈p id,¬I' a:=λid d f F a b s=>by
  have l:=(j.tree id d f).2.2 a b;rcases r.i2 a s with s|⟨_,s|⟨N,P,u,M,G⟩⟩
  ·exact l.1 s
  ·omega
  exact j.dis id N d u f M (λc=>F (by rw[c];exact P)) a b G
 refine{n:=j.n,i0:=λa b=>r.i a (j.i0 a b),i1:=?_,ib:=?_,tree:=?_,dis:=?_,tmp:=?_,frame:=?_,evo:=λa b=>(j.evo a b).trans (r.evo a (he b j.size)),size:=dh j.size r.size,os:=r.os.trans j.os,tape:=r.tape.trans j.tape,output:=r.output.trans j.output,pin:=j.pin}
 ·intro a b;rcases r.i2 a b with b|⟨_,b|⟨N,P,u,M,G⟩⟩
  ·exact j.i1 a b
  ·exact .inr (.inl (dh j.size b))
  exact .inr ((j.tree N u M).2.2 a G).2.2.2
 ·intro a b;rcases b with b|b
  ·rcases r.i2 a b with b|⟨b,_⟩
   ·exact he (j.ib a (.inl b)) r.size
   exact b
  exact he (j.ib a (.inr b)) r.size
 ·intro id d f;rcases co id d f with⟨v,q,x⟩|⟨el,F,v,q,x⟩
  ·obtain⟨_,ax,D,z⟩:=r.tree id d v;rw[q,x];refine⟨ax,D,λa b=>?_⟩;obtain⟨ab,ad,W⟩:=z a b;rcases W with W|⟨N,P,u,M,G⟩
   ·exact⟨ab,λeq=>by have:=j.ib a (.inr eq);omega,ad,.inl (dh j.size W)⟩
   have l:=(j.tree N u M).2.2 a G;exact⟨ab,l.2.1,ad,l.2.2.2⟩
  obtain⟨ax,D,z⟩:=j.tree id d v;rw[q,x];refine⟨ax.mono a0 (ci id d v F),D,λa b=>?_⟩;obtain⟨ab,ad,W,aR⟩:=z a b;exact⟨ex id d v F a b,ad,he W r.size,aR⟩
 ·intro k Y d J s ft d5 a b;rcases co k d s with⟨v,_,x⟩|⟨el,F,v,_,x⟩<;>rcases co Y J ft with⟨Z,_,d9⟩|⟨gc,ml,Z,_,d9⟩<;>rw[x] at b<;>rw[d9]
  ·exact r.dis k Y d J v Z d5 a b
  ·intro G;rcases((r.tree k d v).2.2.2 a b).2.2 with l|⟨N,P,u,M,ce⟩
   ·have:=((j.tree Y J Z).2.2 a G).2.2.1;omega
   exact j.dis Y N J u Z M (λc=>ml (by rw[c];exact P)) a G ce
  ·intro G;rcases((r.tree Y J Z).2.2.2 a G).2.2 with l|⟨N,P,u,M,ce⟩
   ·have:=((j.tree k d v).2.2 a b).2.2.1;omega
   exact j.dis k N d u v M (λc=>F (by rw[c];exact P)) a b ce
  exact j.dis k Y d J v Z d5 a b
 ·intro a4;show bL _ _ _ _ _ (gt (kill S keep E.g) a4) _;rw[qc];have C:=j.tmp a4;generalize gt E.g a4=w at C;generalize y.getD a4 undef=O at C;suffices d1:∀(w:ao) (O:Value),bL (bj m I.B) e E.h o p w O->bL (bj I' I.B) w' (new++del S E.h) (dI new rtn o) (dI new fpn p) (dO S keep w) O by
   cases w with
   |dM f0=>
    cases C with|dM cv A=>
    refine .dM (by simp[cv]) (λk av J v q=>?_);rw[fB] at v;obtain⟨d0,x,rfl⟩:=er.1 v;exact d1 d0 J (A k d0 J x q)
   |_=>exact d1 _ _ C
  clear C;have bs:∀(w:ao) (O:Value),bL (bj m I.B) e E.h o p w O->w.ej S=false\/kk keep w=true->bL (bj I' I.B) w' (new++del S E.h) (dI new rtn o) (dI new fpn p) w O:=by
   intro w O C fT;cases a3:w.ej S with
   |false=>
    refine C.rO a0 (λid cs d f=>?_);have F:=HS a3 id cs;have X:au new id=none:=by
     cases A:au new id with
     |none=>rfl
     |some ds=>
      rcases(r.tree id ds A).1 with l|l
      ·exact absurd l F
      rw[f] at l;cases l
    refine⟨by rw[jo,X,lK,ah F];simpa using f,by simp[dI,X],by simp[dI,X],(j.tree id d f).1,ci id d f F⟩
   |true=>
    have Q:kk keep w=true:=fT.resolve_left (by rw[a3];exactλj=>by cases j);have bd:∀(id:Nat) (d:aH),au E.h id=some d->∀c∈keep,c.1=id->∃u,au (new++del S E.h) id=some u/\u.1=d.1/\dI new rtn o id=o id/\(∃f7,dR d.1 c.2=some f7)/\
     ∀(l:List a5) (ek:aj) (ed:Loc) (bB:adY),fE c.2 l=true->aW e d.1 none (o id) l ek ed bB->aW w' d.1 none (o id) l ek ed bB:=by
     intro id d f c H cs;subst cs;obtain⟨u,ax,D,z,V,T⟩:=r.keep c H _ f;exact⟨u,by rw[jo,ax];rfl,D,by simp[dI,ax,z],V,T⟩
    have d2:∀(id:Nat) (l:List a5),(keep.any λc=>Nat.beq c.1 id&&fE c.2 l)=true->∃c∈keep,c.1=id/\fE c.2 l=true:=(by intro id l A;obtain⟨c,H,q⟩:=ns.1 A;simp only[bp] at q;exact⟨c,H,eF q.1,q.2⟩);cases w with
    |ref id U=>
     cases U with
     |nil=>
      obtain⟨c,H,q⟩:=ns.1 (show(keep.any λc=>Nat.beq c.1 id)=true from Q);have q:=eF q;cases C with|ref f K=>
      obtain⟨rfl,rfl,rfl⟩:=aW.e1.1 K;obtain⟨u,ax,D,z,_⟩:=bd id _ f c H q;rw[<-D];refine .ref (loc:=none) ax ?_;rw[z];exact aW.here
     |cons f5 U=>
      obtain⟨c,H,q,x⟩:=d2 id (f5::U) Q;cases C with|ref f K=>
      obtain⟨u,ax,D,z,V,T⟩:=bd id _ f c H q;have L:=T _ _ _ _ x K;rw[<-z,<-D] at L;exact .ref ax L
    |addr id U=>
     obtain⟨c,H,q⟩:=ns.1 (show(keep.any λc=>Nat.beq c.1 id&&FX c.2 U)=true from Q);simp only[bp] at q;obtain⟨q,x⟩:=q;have q:=eF q;cases C with|addr f K=>
     obtain⟨u,ax,D,z,V,T⟩:=bd id _ f c H q;rcases Bool.or_eq_true_iff.1 x with x|x
     ·have L:=T _ _ _ _ x K;rw[<-z,<-D] at L;exact .addr ax L
     obtain⟨gf,R⟩:=D6.1 x;obtain⟨_,V⟩:=V;obtain⟨bB,L⟩:=aW.upper V R K T;rw[<-z,<-D] at L;exact .addr ax L
    |view id U ge s=>
     obtain⟨c,H,q,x⟩:=d2 id U Q;cases C with|kR=>(exact .kR _ _)|view f K f1 f2 f3=>
     obtain⟨u,ax,D,z,V,T⟩:=bd id _ f c H q;have L:=T _ _ _ _ x K;rw[<-z,<-D] at L;exact .view ax L f1 f2 f3
    |_=>cases Q
  intro w O C;unfold dO;cases a3:w.ej S with
  |false=>simp only[Bool.false_and,cond_false];exact bs w O C (.inl a3)
  |true=>
   cases Q:iH S keep w with
   |false=>simp only[ij,Bool.and_self,cond_true];exact .dead _
   |true=>
    simp only[e3,Bool.and_false,cond_false];cases w with
    |dv f8 f0=>
     cases C with|dv cv A=>
     refine .dv cv (λk av J v q=>bs av J (A k av J v q) ?_);have:=fd.1 Q av (lx v);simpa using this
    |app id l f6 gl dl=>
     cases C with|app f d7 K fs v f9 q c2 d8 fz=>
     have R:((dl.all λk=>!(du k S))&&keep.any λc=>Nat.beq c.1 id&&jJ c.2 l)=true:=Q;rw[bp] at R;obtain⟨am,R⟩:=R;have am:∀k∈dl,k∉S:=λk s c1=>(by have:=fd.1 am k s;rw[fG.2 c1] at this;cases this);obtain⟨c,H,R⟩:=ns.1 R;simp only[bp] at R;obtain⟨fn,d4⟩:=R;obtain rfl:=eF fn;obtain⟨u,ax,D,z⟩:=r.app c H _ f l f6 _ _ _ _ d4 d7 K fs v;obtain⟨gi,ab,ad,W,_,f4⟩:=r.keep c H _ f;rw[ax] at ab;obtain rfl:=ee ab;have X:∀k∈dl,au new k=none:=λk s=>by
      cases A:au new k with
      |none=>rfl
      |some ds=>
       obtain⟨_,bl,an⟩:=c2 k s;rcases(r.tree k ds A).1 with l|l
       ·exact absurd l (am k s)
       rw[an] at l;cases l
     have c1:dI new rtn o c.1=o c.1:=(by simp only[dI,ax,W]);have d6:=f4 l _ _ _ (B3 d4) K;rw[<-ad,<-c1] at d6;refine .app (t:=u) (by rw[jo,ax];rfl) d7 d6 D (v.mono a0 (λa b=>(z a b).2)) (λa b=>by simp only[dI,ax];exact(z a b).1) (q.mono a0 (λa b=>?_)) (λk s=>?_) (λa b=>?_) fz
     ·rcases d8 a b with b|⟨k,s,b⟩
      ·exact(z a b).2
      obtain⟨_,bl,an⟩:=c2 k s;exact ci k bl an (am k s) a b
     ·obtain⟨em,bl,an⟩:=c2 k s;exact⟨em,bl,by rw[jo,X k s,lK,ah (am k s)];simpa using an⟩
     rcases d8 a b with b|⟨k,s,b⟩
     ·exact .inl b
     exact .inr ⟨k,s,by simp only[dI,X k s];exact b⟩
    |_=>exact bs _ O C (.inr Q)
 intro a b d3;rw[r.heap a (he b j.size)]
 ·exact j.frame a b d3
 intro id _ d f G;have:=((j.tree id d f).2.2 a G).2.2.2;rcases this with l|l
 ·omega
 exact d3 l
section
def i7 (k:dg->Nat->Prop) (i:World) (a:aj) (l:Option Addr) (d:List a.den) (g:adT):Prop:=
 g.length=d.length/\(d=[]\/∃e h,l=some ⟨e,h,none⟩/\∀(c:Nat) (j:a.den) (f:ad4),d[c]?=some j->g[c]?=some f->∃b,b.length=a.size/\dU i e (h+c*a.size) b/\aT k i a b j f)
def i7.bb {a:List d.den} (b:aT f e (.bb Q d) [.slice r c h] a []):c=a.length/\i7 f e d r a (List.replicate a.length []):=by obtain⟨_,q,s,g,_,_,b⟩:=b;simp only[gu,Value.slice.injEq,and_true] at g;obtain⟨rfl,rfl,rfl⟩:=g;refine⟨rfl,ac,b.imp id ?_⟩;rintro⟨l,o,m,_,n⟩;refine⟨l,o,m,λk p t j i=>?_⟩;have:k<a.length:=(eT.1 j).1;rw[lY,ai this] at i;obtain rfl:=ee i;exact n k p j
def i7.osl {l:List d.den} (g:aT f e (.osl d) [.slice r h c] l j):h=l.length/\h<=c/\∃i,i7 f e d r l i/\(∀k∈i.flatten,k∈j)/\(j.Nodup->i.flatten.Nodup)/\((r=none/\c=0/\j=[])\/∃a b,r=some ⟨a,b,none⟩/\j=a::i.flatten/\h1 e a b (b+c*d.size)):=by
 obtain⟨t,k,m,g⟩:=g;simp only[gu,Value.slice.injEq,and_true] at m;obtain⟨rfl,rfl,rfl⟩:=m;rcases g with⟨rfl,rfl,rfl,rfl⟩|⟨a,b,n,rfl,rfl,ax,p,q,s⟩
 ·exact⟨rfl,a2 _,[],⟨rfl,.inl rfl⟩,ac,ac,.inl ⟨rfl,rfl,rfl⟩⟩
 refine⟨rfl,p,n,⟨ax,.inr ⟨a,b,rfl,s⟩⟩,λk o=>fk _ o,λg=>(jC.1 g).2,.inr ⟨a,b,rfl,rfl,q⟩⟩
def i7.cells {b:List d.den} (h:i7 f e d r b V) (z:0<d.size):∃p:adY,p.length=b.length*d.size/\(∀c∈p,c.oneCell'=true)/\(∀g,r=some g->b≠[]->∀(m:Nat) c,p[m]?=some c->e.cell? (g.add m)=some c)/\∀(j:Nat) (q:d.den) (o:ad4),b[j]?=some q->V[j]?=some o->aT f e d ((p.drop (j*d.size)).take d.size) q o:=by
 obtain⟨G,h⟩:=h;rcases h with rfl|⟨g,n,rfl,h⟩
 ·exact⟨[],ac,ac,λ_ _ h=>absurd rfl h,ac⟩
 have w:∀a,a<b.length*d.size->∃c,e.cell? ⟨g,n+a,none⟩=some c/\c.oneCell'=true:=by
  intro a i;have y:a/d.size<b.length:=(Nat.div_lt_iff_lt_mul z).2 i;obtain⟨k,B,s,t⟩:=h (a/d.size) b[a/d.size] (V[a/d.size]'(by omega)) ac ac
  have H:=ot a z;have:k[a %d.size]?=some (k[a %d.size]'(by omega)):=a9 _
  refine⟨_,?_,t.one _ (bA (by omega:a %d.size<k.length))⟩;have:=s _ _ this;rwa[show n+a/d.size*d.size+a %d.size=n+a by have:=l1 a d.size;rw[iB] at this;omega] at this
 have x:∀a,((List.range (b.length*d.size)).map λa=>(e.cell? ⟨g,n+a,none⟩).getD undef)[a]?=if a<b.length*d.size then e.cell? ⟨g,n+a,none⟩ else none:=by
  intro a;rw[fB];by_cases i:a<b.length*d.size
  ·rw[ai i,pA i];obtain⟨c,v,_⟩:=w a i;simp[v]
  rw[ah i,hR (by simp;omega)];rfl
 refine⟨(List.range (b.length*d.size)).map λa=>(e.cell? ⟨g,n+a,none⟩).getD undef,ac,?_,?_,?_⟩
 ·intro c v;obtain⟨a,i,rfl⟩:=de.1 v;obtain⟨I,E,u⟩:=w a (fe.1 i);simpa[E] using u
 ·intro F C _ m c l;cases C;rw[x] at l;split at l
  ·rw[Addr.add_lit];exact l
  cases l
 intro j q o A D;obtain⟨k,B,s,t⟩:=h j q o A D;have y:j<b.length:=(eT.1 A).1;have:(((List.range (b.length*d.size)).map λa=>(e.cell? ⟨g,n+a,none⟩).getD undef).drop (j*d.size)).take d.size=k:=by
  apply g4;intro m;rcases bg m d.size with l|l
  ·rw[l0 l,jA,x];have u:(j+1)*d.size<=b.length*d.size:=fP _ y;rw[eO,hD] at u;rw[ai U];have:k[m]?=some (k[m]'(by omega)):=a9 _
   rw[this,<-oo];exact s _ _ this
  rw[hR (by simp;omega),hR U]
 rw[this];exact t
section
variable {P:Program}
def Qp {w:World} {ty:TypeId} {j:TypeInfo} (r:P.underlying H=some (.slice a)) (C:dP P d a) (i:P.info? a=some j) (a0:d.size<=1300) {ad yd:Option Addr} {n cap m c:Nat} {olds news:adY} (F:olds.length=n*d.size) (am:∀b,ad=some b->∀(e:Nat) (f:Value),olds[e]?=some f->w.cell? (b.add e)=some f) (an:∀b,ad=some b->b.spot=none) (L:n<=cap) (Q:ad=none->cap=0) (s:news.length=m*d.size) (B:∀f∈news,f.oneCell'=true) (E:∀b,yd=some b->0<m->∀(e:Nat) (f:Value),news[e]?=some f->w.cell? (b.add e)=some f) (R:yd=none->m=0) (N:∀b,ad=some b->h1 w b.block b.off (b.off+cap*d.size)) (O:n+m<=fm):∃I q,(Builtin.append_ #[H,H] ty #[.slice ad n cap,.slice yd m c]).run P w=.ok I q/\((
   n+m<=cap/\I=.slice ad (n+m) cap/\((ad=none/\q=w)\/∃b,ad=some b/\q=w.setCells b.block (b.off+n*d.size) news))\/
   ∃(g:Nat) (z:adW),cap<n+m/\n+m<=g/\I=.slice (some ⟨w.heap.size,0,none⟩) (n+m) g/\gQ w q/\q.heap[w.heap.size]?=some (.cells z a (0,0))/\q.heap.size=w.heap.size+1/\g*d.size<=z.size/\∀(e:Nat) (f:Value),(olds++news)[e]?=some f->z[e]?=some f):=by
 obtain⟨a3,_,h,_⟩:=C.info;have J:=h.info;rw[i] at J;cases J;have av:=C.pos;by_cases x:n+m<=cap
 ·by_cases o:m=0
  ·subst o;obtain rfl:news=[]:=lX (by simpa using s);have M:(Builtin.firstCells d.size 0 (.slice yd 0 c)).run P w=.ok #[] w:=by
    cases yd with
    |none=>rfl
    |some b=>simp[Builtin.firstCells,loadCells,loadCellsFrom]
   refine⟨.slice ad n cap,w,?_,.inl ⟨x,rfl,?_⟩⟩
   ·cases ad with
    |none=>simp[Builtin.append_,run_underlying r,sizeOf,typeInfo,i,Builtin.lenOf,h.size,L,M]
    |some b=>simp[Builtin.append_,run_underlying r,sizeOf,typeInfo,i,Builtin.lenOf,h.size,L,M,storeCells]
   cases ad with
   |none=>exact .inl ⟨rfl,rfl⟩
   |some b=>exact .inr ⟨b,rfl,rfl⟩
  cases ad with
  |none=>have:=Q rfl;omega
  |some b=>
   cases yd with
   |none=>exact absurd (R rfl) o
   |some k=>
    obtain⟨S,T,V⟩:=b;obtain rfl:V=none:=an _ rfl;have Z:(n+m)*d.size<=cap*d.size:=fP _ x;rw[eO] at Z;have p:=run_append_room_cells (P:=P) w H ty a j r i S T n cap k m c news (by rw[h.size];exact s) (E k rfl U) B x (λe v=>(N _ rfl _ (by rw[h.size];simp only;omega) (by rw[h.size];simp only;omega)).1) (λe v=>(N _ rfl _ (by rw[h.size];simp only;omega) (by rw[h.size];simp only;omega)).2);rw[h.size] at p;exact⟨_,_,p,.inl ⟨x,rfl,.inr ⟨_,rfl,rfl⟩⟩⟩
 obtain⟨l,ap,y⟩:=C.FO;have y:=y j i;have o:0<m:=U;cases yd with
 |none=>have:=R rfl;omega
 |some k=>
  have K:(n+m)*j.bytes<=140737488355328:=(by have B:(n+m)*j.bytes<=fm*31200:=it O (by have:=h.bytes;omega);unfold fm at B;omega);have D:((n+m:Nat):Int)<=9223372036854775807:=(by unfold fm at O;omega);have A:∀(G:Nat),let g:=grownCap w (n+m) G a
   n+m<=g/\gQ w (w.drew.alloc (.cells (olds.toArray++news.toArray++Builtin.zeroCells l.cells (g-(n+m))) a))/\
   (w.drew.alloc (.cells (olds.toArray++news.toArray++Builtin.zeroCells l.cells (g-(n+m))) a)).heap[w.heap.size]?=some (.cells (olds.toArray++news.toArray++Builtin.zeroCells l.cells (g-(n+m))) a (0,0))/\
   g*d.size<=(olds.toArray++news.toArray++Builtin.zeroCells l.cells (g-(n+m))).size/\
   ∀(e:Nat) (f:Value),(olds++news)[e]?=some f->(olds.toArray++news.toArray++Builtin.zeroCells l.cells (g-(n+m)))[e]?=some f:=by
   intro G g;have X:n+m<=g:=grownCap_ge w (n+m) G a;refine⟨X,(gQ.refl w).drew.trans (gQ.alloc _ _),heap_alloc_new w.drew _,?_,?_⟩
   ·simp only[Array.size_append,qP,size_zeroCells,ap,F,s,<-eO];refine fP _ ?_;omega
   intro e f v;have Y:e<(olds++news).length:=(eT.1 v).1;rw[Array.getElem?_append,ai (by simpa using Y)];simpa using v
  cases ad with
  |some b=>
   have p:=run_append_grow (P:=P) w H ty a j l r i y b n cap olds (by rw[h.size];exact F) (am b rfl) k m c news (by rw[h.size];exact s) (E k rfl o) U D (growslice_fits U K);obtain⟨t,f2,u,f4,f5⟩:=A cap;exact⟨_,_,p,.inr ⟨_,_,U,t,rfl,f2,u,ac,f4,f5⟩⟩
  |none=>
   have W:=Q rfl;have ab:n=0:=U;subst W;subst ab;obtain rfl:olds=[]:=lX (by simpa using F);simp only[jg] at D K A;have p:=run_append_nil (P:=P) w H ty a j l r i y k m c news (by rw[h.size];exact s) (E k rfl o) o D U;obtain⟨t,f2,u,f4,f5⟩:=A 0;simp only[hC,Array.empty_append] at t f2 u f4 f5;refine⟨_,_,p,.inr ⟨_,_,U,by rw[jg];exact t,by rw[jg],f2,u,ac,f4,f5⟩⟩
end
end
def zp (b:Nat):∀(h:adY) (e:Nat) (c:World) (a:Nat),a≠b->(c.setCells b e h).heap[a]?=c.heap[a]?
 |[],_,_,_,_=>rfl
 |v::g,e,c,a,d=>by rw[World.setCells,zp b g _ _ a d];simp only[World.setCell,wI];rw[ah (λf=>d f.symm)]
def ww (b:Nat):∀(e:adY) (c:Nat) (a:World),(a.setCells b c e).heap.size=a.heap.size
 |[],_,_=>rfl
 |v::d,c,a=>by rw[World.setCells,ww b d];simp
def pc (b:Nat):∀(d:adY) (c:Nat) (a:World),(a.setCells b c d).os=a.os/\(a.setCells b c d).tape=a.tape/\(a.setCells b c d).output=a.output
 |[],_,_=>⟨rfl,rfl,rfl⟩
 |v::e,c,a=>by rw[World.setCells];exact pc b e _ _
def Hs (c:Nat) (e:adY) (a:Nat) (f:World) (g:∀b,b<e.length->(f.cell? ⟨c,a+b,none⟩).isSome=true) (d:Nat):((f.setCells c a e).cell? ⟨c,d,none⟩).isSome=(f.cell? ⟨c,d,none⟩).isSome:=by
 by_cases h:a<=d/\d<a+e.length
 ·obtain⟨b,rfl⟩:∃b,d=a+b:=⟨d-a,U⟩;rw[World.cell?_setCells_in c e a f g b U,g b U];rfl
 rw[World.cell?_setCells_out c e a f _ (λ_ _=>by simp only;omega)]
def Uh (c:World) (a:Addr) (f:Value) (b:Nat):hL (c.setCell a f) b=hL c b:=by
 unfold hL World.setCell;simp only[wI];by_cases d:a.block=b
 ·subst d;simp only[if_true];cases c.heap[a.block]? with
  |none=>rfl
  |some e=>cases e<;>rfl
 simp only[ah d]
def yM (d:Nat):∀(f:adY) (b:Nat) (c:World) (a:Nat),hL (c.setCells d b f) a=hL c a
 |[],_,_,_=>rfl
 |v::e,b,c,a=>by rw[World.setCells,yM d e (b+1),Uh]
def qu {vs:adY} {o:Nat} {w:World} (a:h≠c):bT w (w.setCells c o vs) h:=.of_heap (zp c vs o w h a)
def IR {P:Program} {ty:TypeId} {f1:TypeInfo} (d8:P.underlying H=some (.slice a)) (ce:dP P d a) (ex:P.info? a=some f1) (fT:d.size<=1300) {c:Nat} {t L:List d.den} (ab:aT f e (.osl d) [.slice r N h] t j) (bd:i7 f e d T L V) (a0:j.Nodup) (d6:∀i∈j,∀q,¬f q i) (fz:V.flatten.Nodup) (cs:∀i∈j,i∉V.flatten) (d7:∀q i,f q i->i<e.heap.size) (av:∀i∈j,i<e.heap.size) (bl:∀i∈V.flatten,i<e.heap.size) (fp:t.length+L.length<=fm):∃bs s f2,(Builtin.append_ #[H,H] ty #[.slice r N h,.slice T L.length c]).run P e=.ok bs s/\aT f s (.osl d) [bs] (t++L) f2/\aT f s (.osl d) [.slice r N h] t j/\f2.Nodup/\(∀i∈f2,i∈j\/i∈V.flatten\/(e.heap.size<=i/\i<s.heap.size))/\e.heap.size<=s.heap.size/\s.os=e.os/\s.tape=e.tape/\s.output=e.output/\(∀i,i<e.heap.size->i∉j->s.heap[i]?=e.heap[i]?)/\(∀q i,f q i->bT e s i)/\(∀i∈V.flatten,bT e s i)/\(∀i,i<e.heap.size->hL s i=hL e i):=by
 obtain⟨rfl,co,F,d1,Y,el,W⟩:=i7.osl ab;have dl:=ce.pos;obtain⟨J,Q,gi,d2,f7⟩:=d1.cells dl;obtain⟨z,f3,f4,f5,f6⟩:=bd.cells dl;have Z:=d1.1;have c1:=bd.1;obtain⟨bs,s,a4,ed⟩:=Qp (P:=P) (w:=e) (ty:=ty) d8 ce ex fT (ad:=r) (yd:=T) (n:=t.length) (cap:=h) (m:=L.length) (c:=c) (olds:=J) (news:=z) Q (λi v l A o=>d2 i v (by rintro rfl;simp at Q;subst Q;simp at o) l A o) (λi v=>by rcases W with⟨u,_⟩|⟨p,x,u,_⟩<;>rw[v] at u<;>cases u;rfl) co (λu=>by rcases W with⟨_,g,_⟩|⟨p,x,g,_⟩;exact g;rw[u] at g;cases g) f3 f4 (λi v fs l A o=>f5 i v (by rintro rfl;simp at fs) l A o) (λu=>by rcases bd.2 with rfl|⟨i,gf,g,_⟩;rfl;rw[u] at g;cases g) (λi v=>by
   rcases W with⟨u,_⟩|⟨p,x,u,_,X⟩
   ·rw[v] at u;cases u
   rw[v] at u;cases u;exact X) fp
 have R:(F++V).flatten=F.flatten++V.flatten:=ac;have c2:(F++V).flatten.Nodup:=(by rw[R,iq];exact⟨el a0,fz,λbB d9 i v E=>cs bB (Y bB d9) (E▸v)⟩);have ap:∀(b:Nat) (G:d.den) (y:ad4),(t++L)[b]?=some G->(F++V)[b]?=some y->aT f e d (((J++z).drop (b*d.size)).take d.size) G y/\∀i∈y,i∈F.flatten\/i∈V.flatten:=by
  intro b G y k C;rcases bg b t.length with g|g
  ·rw[nt g] at k;rw[nt U] at C;have B:(b+1)*d.size<=t.length*d.size:=fP _ g;rw[eO,hD] at B;rw[pq U,sB (by simp;omega)];exact⟨f7 b G y k C,λi v=>.inl (je.2 ⟨y,lx C,v⟩)⟩
  rw[oh g] at k;rw[oh U,Z] at C;have B:t.length*d.size<=b*d.size:=fP _ g;rw[List.drop_append,pu U,hC,Q,show b*d.size-t.length*d.size=(b-t.length)*d.size by rw[Nat.sub_mul]];exact⟨f6 _ G y k C,λi v=>.inr (je.2 ⟨y,lx C,v⟩)⟩
 rcases ed with⟨ds,rfl,f0⟩|⟨d3,d4,gc,em,rfl,I,eq,ge,f9,ek⟩
 ·rcases f0 with⟨rfl,rfl⟩|⟨i,rfl,rfl⟩
  ·have f8:h=0:=by rcases W with⟨_,g,_⟩|⟨p,x,g,_⟩;exact g;cases g
   obtain rfl:t=[]:=lX U;obtain rfl:L=[]:=lX U;exact⟨_,s,j,a4,by simpa using ab,ab,a0,λi v=>.inl v,a2 _,rfl,rfl,rfl,λ_ _ _=>rfl,λ_ _ _=>bT.refl _ _,λ_ _=>bT.refl _ _,λ_ _=>rfl⟩
  rcases W with⟨u,_⟩|⟨p,x,u,rfl,X⟩
  ·cases u
  cases u;have am:p∉F.flatten:=(jC.1 a0).1;have an:p∉V.flatten:=cs p ac;have ft:(t.length+L.length)*d.size<=h*d.size:=fP _ ds;rw[eO] at ft;have d0:∀l,l<z.length->(e.cell? ⟨p,x+t.length*d.size+l,none⟩).isSome=true:=λl o=>(X _ U U).1;have O:∀q b,f q b->f q b/\bT e (e.setCells p (x+t.length*d.size) z) b:=λq b k=>⟨k,qu (λE=>d6 p ac q (E▸k))⟩;have cv:h1 (e.setCells p (x+t.length*d.size) z) p x (x+h*d.size):=λl B M=>(by rw[Hs p z _ e d0,World.frozen?_setCells];exact X l B M);have ci:∀l A,(J++z)[l]?=some A->(e.setCells p (x+t.length*d.size) z).cell? ⟨p,x+l,none⟩=some A:=by
   intro l A o;rcases bg l J.length with g|g
   ·rw[nt g] at o;rw[World.cell?_setCells_out p z _ e _ (λ_ _=>by simp only;omega)];have:=d2 ⟨p,x,none⟩ rfl (by rintro rfl;simp at Q;subst Q;simp at g) l A o;rwa[Addr.add_lit] at this
   rw[oh g] at o;obtain⟨D,rfl⟩:∃D,l=J.length+D:=⟨l-J.length,U⟩;rw[oq] at o;have K:D<z.length:=(eT.1 o).1;rw[Q,<-oo,World.cell?_setCells_in p z _ e d0 D K];rw[a9 K] at o;exact o
  refine⟨_,_,p::(F++V).flatten,a4,?_,?_,?_,?_,by rw[ww];exact a2 _,(pc _ _ _ _).1,(pc _ _ _ _).2.1,(pc _ _ _ _).2.2,?_,λq b k=>(O q b k).2,λb k=>qu (λE=>an (by have d5:b=p:=E;rw[<-d5];exact k)),λb _=>yM _ _ _ _ _⟩
  ·refine⟨some ⟨p,x,none⟩,h,ac,.inr ⟨p,x,F++V,rfl,rfl,by simp[Z,c1],by simpa using ds,cv,λb G y k C=>?_⟩⟩;obtain⟨B,M⟩:=ap b G y k C;refine⟨_,B.len,λl A o=>?_,B.mono O (λD K=>qu (λE=>?_))⟩
   ·have S:(J++z)[b*d.size+l]?=some A:=by
     rw[uM] at o;split at o
     ·rwa[jA] at o
     cases o
    rw[oo];exact ci _ _ S
   subst E;rcases M D K with g|g
   ·exact am g
   exact an g
  ·refine⟨some ⟨p,x,none⟩,h,rfl,.inr ⟨p,x,F,rfl,rfl,Z,co,cv,λb G y k C=>?_⟩⟩;have fn:b<t.length:=(eT.1 k).1;obtain⟨B,M⟩:=ap b G y (by rw[nt fn];exact k) (by rw[nt U];exact C);refine⟨_,B.len,λl A o=>?_,B.mono O (λD K=>qu (λE=>?_))⟩
   ·have S:(J++z)[b*d.size+l]?=some A:=by
     rw[uM] at o;split at o
     ·rwa[jA] at o
     cases o
    rw[oo];exact ci _ _ S
   subst E;exact am (je.2 ⟨y,lx C,K⟩)
  ·rw[jC,R];exact⟨by simp[am,an],R▸c2⟩
  ·intro b k;rcases dx.1 k with rfl|k
   ·exact .inl ac
   rw[R] at k;rcases eN.1 k with g|g
   ·exact .inl (fk _ g)
   exact .inr (.inl g)
  intro b _ k;exact zp p _ _ _ b (λE=>k (E▸by simp))
 have O:∀q b,f q b->f q b/\bT e s b:=λq b k=>⟨k,.of_heap (I.heap b (d7 q b k))⟩;have a3:∀l,s.cell? ⟨e.heap.size,l,none⟩=d4[l]?/\s.frozen? ⟨e.heap.size,l,none⟩=false:=λl=>(by simp[World.cell?,World.frozen?,eq]);refine⟨_,s,e.heap.size::(F++V).flatten,a4,?_,ab.mono O (λb k=>.of_heap (I.heap b (av b k))),?_,?_,I.size,I.os,I.tape,I.output,λb k _=>I.heap b k,λq b k=>(O q b k).2,λb k=>.of_heap (I.heap b (bl b k)),λb k=>(bT.of_heap (I.heap b k)).2⟩
 ·refine⟨some ⟨e.heap.size,0,none⟩,d3,ac,.inr ⟨e.heap.size,0,F++V,rfl,rfl,by simp[Z,c1],by simpa using em,λl _ M=>?_,λb G y k C=>?_⟩⟩
  ·rw[(a3 l).1,(a3 l).2];exact⟨by simp;omega,rfl⟩
  obtain⟨B,M⟩:=ap b G y k C;refine⟨_,B.len,λl A o=>?_,B.mono O (λD K=>.of_heap (I.heap D ?_))⟩
  ·rw[(a3 _).1];have S:(J++z)[b*d.size+l]?=some A:=by
    rw[uM] at o;split at o
    ·rwa[jA] at o
    cases o
   rw[jg];exact ek _ _ S
  rcases M D K with g|g
  ·exact av D (Y D g)
  exact bl D g
 ·rw[jC];refine⟨λg=>?_,c2⟩;rw[R] at g;rcases eN.1 g with g|g
  ·have:=av _ (Y _ g);omega
  have:=bl _ g;omega
 intro b k;rcases dx.1 k with rfl|k
 ·exact .inr (.inr ⟨a2 _,U⟩)
 rw[R] at k;rcases eN.1 k with g|g
 ·exact .inl (Y b g)
 exact .inr (.inl g)
section
def dK.get:∀{p:List a5} {b:aj} {c j:b.den} {e:aj} {k:e.den},dK b c p e k j->∃d,df b c p e d
 |[],b,c,_,_,_,a=>by obtain⟨rfl,_⟩:=dK.e1.1 a;exact⟨c,df.e1.2 ⟨rfl,rfl⟩⟩
 |s::p,b,_,_,_,_,a=>by
  cases b<;>cases s<;>simp only[dK] at a
  case osl.idx=>obtain⟨g,f,i,a,_⟩:=a;obtain⟨d,h⟩:=dK.get (p:=p) a;exact⟨d,g,i,h⟩
  case optr.deref=>exact dK.get (p:=p) a
  case st.unst=>exact dK.get (p:=p) a
  case pr.fst=>obtain⟨f,a,_⟩:=a;exact dK.get (p:=p) a
  case pr.snd=>obtain⟨f,a,_⟩:=a;exact dK.get (p:=p) a
def dK.same:∀{p:List a5} {c:aj} {b:c.den} {d:aj} {g:d.den},df c b p d g->dK c b p d g b
 |[],c,b,_,_,a=>by obtain⟨rfl,rfl⟩:=df.e1.1 a;exact dK.e1.2 ⟨rfl,rfl⟩
 |s::p,c,b,_,_,a=>by
  cases c<;>cases s<;>simp only[df] at a
  case osl.idx i=>
   obtain⟨e,f,a⟩:=a;refine⟨e,e,f,dK.same (p:=p) a,?_⟩;obtain⟨h,rfl⟩:=eT.1 f;exact(List.set_getElem_self h).symm
  case optr.deref=>exact dK.same (p:=p) a
  case st.unst=>exact dK.same (p:=p) a
  case pr.fst=>exact⟨b.1,dK.same (p:=p) a,rfl⟩
  case pr.snd=>exact⟨b.2,dK.same (p:=p) a,rfl⟩
def CK {a:A} {b:Nat->A}:dI [(c,C)] (λ_=>a) b c=a:=by simp[dI,b1]
section
variable {E:eh} {C:dD} {st:aQ} {a:Act} {A:adW} {w:World} {I:Nat->Prop} {rt:Nat->adY} {fp:Nat->ad4} {o:Oper}
def Y8 (j:g.length=N) (f:h1 w h c (c+N)) (d:Nat):qE w (w.setCells h c g) (some (h,c)) N d:=by
 have i:∀a,a<g.length->(w.cell? ⟨h,c+a,none⟩).isSome=true:=λa e=>(f _ U U).1;refine⟨λa e=>World.cell?_setCells_out h g c w _ (λb _=>?_),λa=>World.frozen?_setCells _ _ _ _ _,λa=>?_,yM _ _ _ _ _⟩
 ·have b:d=h:=b;have:=e c (by rw[b]);simp only;omega
 by_cases b:d=h
 ·subst b;exact Hs d g c w i a
 rw[((qu (w:=w) (o:=c) (vs:=g) b).1 a).1]
def bC.ZB (t:bC C st A w I rt fp) {id:Nat} {o:aH} (q:au st.h id=some o) {P:adY} (ab:aW w o.1 none (rt id) n d (some (c,N)) P) {D:d.den} {u:o.1.den} (J:dK o.1 o.2 n d D u) {r:ad4} (K:aT (bj I C.B) w d x D r) (d4:r.Nodup) (ci:id∉j) (ds:∀a∈r,(∃F,∃av:d.den,d.jq=true/\aT (bj I C.B) w d P av F/\a∈F)\/∃e∈j,∃i,au st.h e=some i/\a∈fp e):h1 w c N (N+d.size)/\∃rtn fpn,bC C ⟨kill (id::j) [(id,n)] st.g,(id,⟨o.1,u⟩)::del (id::j) st.h⟩ A (w.setCells c N x) I rtn fpn/\rtn id=rt id/\aW (w.setCells c N x) o.1 none (rt id) n d (some (c,N)) x:=by
 obtain⟨d6,am,c1⟩:=t.tree id o q;obtain⟨av,d0⟩:=J.get;obtain⟨f6,f1,a0,ap,a3,a4,bd,v,bl,bs,bB⟩:=yt n (loc:=none) d6 (λ_ _ b=>by cases b) am (λ_ _ b=>by cases b) (t.notM q) d0;obtain⟨_,al,E⟩:=ab.iF a3;subst al;subst E;obtain⟨_,G⟩:=bd c N rfl;have T:c∈ap:=by
  rcases bl c N rfl with⟨an,b,_⟩|b
  ·cases b
  exact b
 have R:c∈fp id:=v.mem_iff.2 (by simp[T]);have ad:=v.nodup_iff.1 am;rw[iq] at ad;obtain⟨f4,H,d2⟩:=ad;have V:∀a∈r,a∈a0\/∃e∈j,∃i,au st.h e=some i/\a∈fp e:=λa f=>by
  rcases ds a f with⟨F,f9,cv,d7,b⟩|b
  ·rw[<-aT.uniq cv a4 d7] at b;exact .inl b
  exact .inr b
 have d5:∀e∈j,∀i,au st.h e=some i->∀a∈fp e,a∉fp id:=λe l i k a f z=>t.dis e id i o k q (λm=>ci (m▸l)) a f z;have X:∀a∈r,a∉ap:=λa f z=>by
  rcases V a f with b|⟨e,l,i,k,b⟩
  ·exact d2 a b a z rfl
  exact d5 e l i k a b (v.mem_iff.2 (by simp[z]))
 have ce:∀y a,bj I C.B y a->a≠c:=λy a f m=>t.notM q c R y (m▸f);have c2:=Y8 (w:=w) K.len G;have ek:aT (bj I C.B) (w.setCells c N x) d x D r:=K.mono (λy a f=>⟨f,qu (ce y a f)⟩) (λa f=>qu (λm=>X a f (by rw[m];exact T)));have d9:∀s,s<x.length->(w.cell? ⟨c,N+s,none⟩).isSome=true:=λs p=>(G _ U (by have:=K.len;omega)).1;have cs:dU (w.setCells c N x) c N x:=λs ft p=>(by have Z:s<x.length:=(eT.1 p).1;rw[World.cell?_setCells_in c x N w d9 s Z];rw[a9 Z] at p;exact p);obtain⟨f3,Q,em,_,ex,_,L,fn,eq⟩:=bs (w.setCells c N x) (bj I C.B) x D r u (λ_ _ b=>b) (λa _=>c2 a) ek (λb=>by cases b) (λfT f7 m=>by simp only[bS,gm] at m;obtain⟨rfl,rfl⟩:=m;exact cs) J;obtain rfl:=ex rfl (.inl ac);have dl:∀a∈Q,a∈fp id\/∃e∈j,∃i,au st.h e=some i/\a∈fp e:=λa f=>by
  rcases eN.1 (L.mem_iff.1 f) with b|b
  ·rcases V a b with b|b
   ·exact .inl (v.mem_iff.2 (by simp[b]))
   exact .inr b
  exact .inl (v.mem_iff.2 (by simp[b]))
 have co:=t.bU (S:=id::j) (keep:=[(id,n)]) (new:=[(id,⟨o.1,u⟩)]) (rtn:=λ_=>rt id) (fpn:=λ_=>Q) (w':=w.setCells c N x) (I':=I) ⟨?_,(pc _ _ _ _).1,(pc _ _ _ _).2.1,(pc _ _ _ _).2.2,?_,λa _=>.of_eq (yM _ _ _ _ _),λ_ b=>b,λ_ b=>.inl b,?_,?_,?_,?_⟩
 ·exact⟨G,_,_,co,by rw[CK],fn⟩
 ·rw[ww];exact a2 _
 ·intro a _ f;exact zp c _ _ _ a (λm=>f id ac o q (m▸R))
 ·intro e i k;rw[b1] at k;split at k
  ·rename_i m;subst m;cases k;refine⟨.inl ac,em,?_,λa f=>?_⟩
   ·rw[L.nodup_iff,iq];exact⟨d4,H,λfz ed gc el m=>X fz ed (m▸el)⟩
   rcases dl a f with b|⟨e,l,i,k,b⟩
   ·obtain⟨ax,M,O,fs⟩:=c1 a b;exact⟨ax,by rw[ww];exact O,.inr ⟨id,ac,o,q,b⟩⟩
   obtain⟨ax,M,O,fs⟩:=(t.tree e i k).2.2 a b;exact⟨ax,by rw[ww];exact O,.inr ⟨e,by simp[l],i,k,b⟩⟩
  cases k
 ·intro e s i ft l p d1;rw[b1] at l p;split at l
  ·split at p
   ·rename_i al E;exact absurd (al.symm.trans E) d1
   cases p
  cases l
 ·intro e l i k;simp only[eI] at l;subst l;rw[q] at k;obtain rfl:=ee k;refine⟨⟨o.1,u⟩,?_,rfl,rfl,⟨_,ab.ty⟩,eq⟩;rw[b1,ai rfl]
 intro e l i k an ge f8 f5 f0 f2 W d3 H Y d8;simp only[eI] at l;subst l;rw[q] at k;obtain rfl:=ee k;refine⟨⟨o.1,u⟩,by rw[b1,ai rfl],tm W J Y,λa f=>?_⟩;obtain⟨ax,M⟩:=bB an _ _ _ _ _ W (by exact d3) Y H d8 a f;exact⟨L.mem_iff.2 (lw _ ax),qu (M _ _ rfl)⟩
def bC.store (r:bC C st A w I rt fp) {id:Nat} {a:aH} (z:au st.h id=some a) {i:adY} (u:aW w a.1 none (rt id) n d (some (N,c)) i) {o:d.den} {m:a.1.den} (y:dK a.1 a.2 n d o m) {S2:ad4} (D:aT (bj I C.B) w d x o j) (v:j.Nodup) (s:id∉S2) (t:∀f∈j,(∃k,∃F:d.den,d.jq=true/\aT (bj I C.B) w d i F k/\f∈k)\/∃l∈S2,∃E,au st.h l=some E/\f∈fp l):h1 w N c (c+d.size)/\∃e b,bC C ⟨kill (id::S2) [(id,n)] st.g,(id,⟨a.1,m⟩)::del (id::S2) st.h⟩ A (w.setCells N c x) I e b:=by obtain⟨p,e,b,q,_⟩:=r.ZB z u y D v s t;exact⟨p,e,b,q⟩
inductive uV where
 |dw (s:aQ)
 |part (α:Type) (φ:α->Prop) (f:α->aQ)
 |bad
def uV.K (c:uV) (Q:aQ->Prop):Prop:=
 match c with
 |.dw d=>Q d
 |.part e f b=>∃a:e,f a/\Q (b a)
 |.bad=>False
def dA (E:eh) (C:dD) (o:Oper) (st:aQ) (Q:aQ->Prop):Prop:=
 ∀(a:Act) (w:World),ff C st a.tmps w->∀(next:Act->World->Prop) (e:Exit->Act->World->Prop),(∀c b d,Q c->b.defers=a.defers->ff C c b.tmps d->next b d)->o.wp E.P a w next e
variable {Q:aQ->Prop}
def dA.eval {an:List (Nat×aj)} (j:o.dst=some c) (l:C.ok c) (i:(fl E.tt an st.h (aV st.g) c o.op).K (λb e=>Q ⟨(c,b)::st.g,e++st.h⟩)):dA E C o st Q:=by
 rintro a w ⟨I,rt,fp,d⟩ next r m
 exact(Sh d i).wp d j l (λb e f q n k p=>m _ f q n k p)
def qq (b:List (Nat×aH)) (c:ao):Option (Nat×List a5):=
 match c with
 |.addr id a=>some (id,a)
 |.ref id a=>match au b id with
  |some ⟨d,_⟩=>match dR d a with
   |some (.optr _)=>some (id,a++[.deref])
   |_=>none
  |none=>none
 |_=>none
def DC (
 tt:List (TypeId×aj)) (st:aQ) (m:TypeId) (o v:ao):uV:=
 match qq st.h o with
 |none=>.bad
 |some (
  id,p)=>match au st.h id,au tt m with
  |some ⟨b,e⟩,some n=>match dR b p with
   |none=>.bad
   |some c=>bif ba n c then match v with
    |.ref d i=>match au st.h d with
     |some ⟨r,j⟩=>bif Nat.beq id d then .bad else
      .part (c.den×b.den) (λa=>df r j i c a.1/\dK b e p c a.1 a.2) (λa=>⟨kill [id,d] [(id,p)] st.g,(id,⟨b,a.2⟩)::del [id,d] st.h⟩)
     |none=>.bad
    |.app d i f q l=>if _e:c=.osl f then
     .part (List f.den×b.den) (λa=>d=id/\i=p/\df b e p (.osl f) a.1/\dK b e p (.osl f) (a.1++q) a.2) (λa=>⟨kill (id::l) [(id,p)] st.g,(id,⟨b,a.2⟩)::del (id::l) st.h⟩) else .bad
    |v=>match coe c v with
     |some j=>.part b.den (λk=>dK b e p c j k) (λk=>⟨kill [id] [(id,p)] st.g,(id,⟨b,k⟩)::del [id] st.h⟩)
     |none=>.bad
   else .bad
  |_,_=>.bad
def XM (o:bC C st a.tmps w I rt fp) {id:Nat} (c:qq st.h (aV st.g b)=some (id,n)) {m:aH} (k:au st.h id=some m) (r:dR m.1 n=some d):∃j s t,a.eval b=.pointer (some ⟨j,s,none⟩)/\aW w m.1 none (rt id) n d (some (j,s)) t:=by
 have i:=o.aV b;unfold qq at c;generalize D:a.eval b=F at i;split at c
 ·rename_i z B l;cases c;rw[l] at i;cases i with|addr f e=>
  rw[k] at f;cases f;have:=e.ty;rw[r] at this;cases this;exact⟨_,_,_,rfl,e⟩
 ·rename_i z B l;split at c
  case h_2=>cases c
  rename_i H G q;split at c
  case h_2=>cases c
  rename_i E y;cases c;rw[k] at q;cases q;rw[l] at i;cases i with|ref f e=>
  rw[k] at f;cases f;have:=e.ty;rw[y] at this;cases this;obtain⟨j,A,x,rfl,u,v⟩:=nT (o.tree id _ k).1 e;have p:=e.append (aW.E8 u v);have:=p.ty;rw[r] at this;cases this;exact⟨j,A,x,rfl,p⟩
 cases c
def ZA (l:au E.tt H=some d) (p:ba d q=true) (r:o.op=.store H i b) (u:a.eval i=.pointer (some ⟨h,c,none⟩)) (t:(a.eval b).cells=g.toArray) (m:g.length=q.size) (k:∀b∈g,b.oneCell'=true) (f:h1 w h c (c+q.size)):(execOp a.eval o).run E.P w=.ok .skip (w.setCells h c g):=by have s:=(E.ok H d l).lay p;have j:=run_storeCells_cells (P:=E.P) h c g 0 w (λe n=>by simpa using(f (c+e) U U).1) (λe n=>by simpa using(f (c+e) U U).2) k;simp only[j6] at j;have:(storeVar H ⟨h,c,none⟩ (a.eval b)).run E.P w=.ok () (w.setCells h c g):=(by simp only[storeVar,t,Sem.run_bind,s.sizeOf,Result.andThen_ok];simpa[m] using j);simp[execOp,r,u,Instr.storeAt,Instr.sureAddr,this]
theorem Zz (dl:o.op=.store H i b) (bd:o.dst=none) (c:(DC E.tt st H (aV st.g i) (aV st.g b)).K Q):dA E C o st Q:=by
 rintro a w ⟨I,rt,fp,f⟩ next av c2
 have h:=f.aV b;unfold DC at c;split at c
 ·exact c.elim
 rename_i id fs ds;split at c
 case h_2=>exact c.elim
 rename_i f3 f1 an q W;split at c
 ·exact c.elim
 rename_i u d3;cases x:ba an u with
 |false=>rw[x] at c;exact c.elim
 |true=>
 rw[x] at c;simp only[cond_true] at c;obtain⟨U,O,em,d5,z⟩:=XM f ds q d3;have J:=(E.ok H an W).lay x;have G:∀(k:adY) (S:aQ) (e:Nat->adY) (d:Nat->ad4),(a.eval b).cells=k.toArray->k.length=u.size->(∀b∈k,b.oneCell'=true)->h1 w U O (O+u.size)->bC C S a.tmps (w.setCells U O k) I e d->Q S->o.wp E.P a w next av:=by
  intro k S e d al D a0 a3 d1 d0;unfold Oper.wp;rw[ZA W x dl d5 al D a0 a3];show next (a.put o.dst undef) _
  rw[bd];exact c2 _ _ _ d0 rfl ⟨I,e,d,d1⟩
 split at c
 ·rename_i j ad F;split at c
  case h_2=>exact c.elim
  rename_i f4 fT A;cases v:Nat.beq id j with
  |true=>rw[v] at c;exact c.elim
  |false=>
   rw[v] at c;obtain⟨⟨T,ap⟩,⟨bB,p⟩,c⟩:=c;have c1:id≠j:=λB=>(by rw[B,pC] at v;cases v);rw[F] at h;generalize N:a.eval b=ed at h;cases h with|ref r M=>
   rw[A] at r;cases r;obtain⟨t,am,ft⟩:=f.tree j _ A;obtain⟨fn,eq,f2,fz,d7,s,_,ab,_⟩:=Ck ad (τ':=u) (y:=T) t (loc:=none) (λ_ _ c=>by cases c) am (λ_ _ c=>by cases c) (f.notM A) bB;obtain⟨rfl,rfl,rfl⟩:=M.iF d7;have cv:f2.Nodup:=(iq.1 (ab.nodup_iff.1 am)).1;obtain⟨n,e,d,m⟩:=f.store q z p s cv (S2:=[j]) (by simpa using c1) (λV L=>.inr ⟨j,ac,_,A,ab.mem_iff.2 (by simp[L])⟩);exact G _ _ e d (by rw[N];exact nW J s.len s.one) s.len s.one n m c
 ·rename_i j ad el f0 d8 F;split at c
  case isFalse=>exact c.elim
  rename_i B;subst B;obtain⟨⟨ek,ap⟩,⟨rfl,rfl,bl,p⟩,c⟩:=c;rw[F] at h;generalize N:a.eval b=ed at h;cases h with|app r ci M bs a4 ex l Y d2 cs=>
  rw[q] at r;cases r;obtain rfl:=df.uniq bl bs;obtain⟨_,al,D⟩:=z.iF M;subst al;subst D;have co:(aj.osl el).jq=true:=ci;obtain⟨n,e,d,m⟩:=f.store q z p l cs (S2:=d8) (λce=>(Y _ ce).1 rfl) (λV L=>by
   rcases d2 V L with R|⟨Z,X,R⟩
   ·exact .inl ⟨_,ek,co,a4,R⟩
   obtain⟨_,d9,d4⟩:=Y Z X;exact .inr ⟨Z,X,d9,d4,R⟩)
  exact G _ _ e d (by rw[N];have:=nW J l.len l.one;exact this) l.len l.one n m c
 split at c
 case h_2=>exact c.elim
 rename_i T d6;obtain⟨ap,p,c⟩:=c;have t:=EJ J h d6;obtain⟨n,e,d,m⟩:=f.store q z p t ac (S2:=[]) ac ac;exact G _ _ e d ac t.len t.one n m c
end
end
section
def Ci (a:List (List A)) (c b:Nat):((a.take b).drop c).flatten.Sublist a.flatten:=by have d:a.flatten=((a.take b).take c).flatten++((a.take b).drop c).flatten++(a.drop b).flatten:=(by rw[<-qL,kW,<-qL,kW]);rw[d];exact(List.sublist_append_right _ _).trans (List.sublist_append_left _ _)
section
variable {E:eh} {C:dD} {st:aQ} {a:Act} {A:adW} {w:World} {I:Nat->Prop} {rt:Nat->adY} {fp:Nat->ad4} {o:Oper} {Q:aQ->Prop}
def An (c:List (Nat×aj)) (st:aQ) (a:Nat) (i:ao):uV:=
 match i with
 |.ref id []=>match au st.h id with
  |some b=>.dw ⟨(a,.ref a [])::kill [id,a] [] st.g,(a,b)::del [id,a] st.h⟩
  |none=>.bad
 |.ref id f=>bif Nat.beq id a then .bad else .dw ⟨(a,.ref id f)::kill [a] [] st.g,del [a] st.h⟩
 |.view id [] e d=>match au st.h id with
  |some ⟨.osl b,j⟩=>.dw ⟨(a,.ref a [])::kill [id,a] [] st.g,(a,⟨.osl b,(j.take d).drop e⟩)::del [id,a] st.h⟩
  |_=>.bad
 |.cv (.slice none 0 0)=>match au c a with
  |some (.osl b)=>.dw ⟨(a,.ref a [])::kill [a] [] st.g,(a,⟨.osl b,[]⟩)::del [a] st.h⟩
  |_=>.bad
 |_=>.bad
def l5.one {w':World} {I':Nat->Prop} {S:ad4} {d:Nat} {t:aH} {cs:adY} {f:ad4} (u:d∈S\/au st.h d=none) (m:w.heap.size<=w'.heap.size) (n:w'.os=w.os) (o:w'.tape=w.tape) (p:w'.output=w.output) (q:∀a,a<w.heap.size->(∀id∈S,∀t,au st.h id=some t->a∉fp id)->w'.heap[a]?=w.heap[a]?) (v:∀a,a<w.heap.size->hL w' a=hL w a) (r:∀a,I a->I' a) (s:∀a,I' a->I a\/(a<w'.heap.size/\(w.heap.size<=a\/∃id∈S,∃t,au st.h id=some t/\a∈fp id))) (z:aT (bj I' C.B) w' t.1 cs t.2 f) (x:f.Nodup) (c:∀a∈f,¬I' a/\a<w'.heap.size/\(w.heap.size<=a\/∃j∈S,∃D,au st.h j=some D/\a∈fp j)):l5 C st w w' I I' rt fp S [] [(d,t)] (λ_=>cs) (λ_=>f):=by
 refine⟨m,n,o,p,q,λa c=>.of_eq (v a c),r,s,?_,?_,(λid g=>by cases g),(λid g=>by cases g)⟩
 ·intro A E b;rw[b1] at b;split at b
  ·rename_i k;subst k;obtain rfl:=ee b;exact⟨u,z,x,c⟩
  cases b
 intro A F E G e i y;rw[b1] at e i;split at e
 ·split at i
  ·rename_i al l;exact absurd (al.symm.trans l) y
  cases i
 cases e
def dA.Qv (d8:o.op=.assign b) (d4:o.dst=some c) (bd:C.ok c) (e:(An k st c (aV st.g b)).K Q):dA E C o st Q:=by
 rintro a w ⟨I,rt,fp,z⟩ next ap d7
 have p:=z.aV b;have bs:(execOp a.eval o).run E.P w=.ok (.value (a.eval b)) w:=(by simp[execOp,d8]);have O:∀(an:aQ) (rtn:Nat->adY) (fpn:Nat->ad4),bC C an (a.tmps.setIfInBounds c (a.eval b)) w I rtn fpn->Q an->o.wp E.P a w next ap:=by
  intro an rtn fpn G Y;unfold Oper.wp;rw[bs];show next (a.put o.dst (a.eval b)) w
  rw[d4];exact d7 _ _ _ Y rfl ⟨I,rtn,fpn,G⟩
 have J:∀(S:ad4) (i:aH) (L:adY) (q:ad4),c∈S->aT (bj I C.B) w i.1 L i.2 q->q.Nodup->(∀m∈q,∃ce∈S,∃em,au st.h ce=some em/\m∈fp ce)->a.eval b=bO i.1 L->Q ⟨(c,.ref c [])::kill S [] st.g,(c,i)::del S st.h⟩->o.wp E.P a w next ap:=by
  intro S i L q d5 G M r d9 Y;have v:=z.bU (l5.one (st:=st) (C:=C) (rt:=rt) (w':=w) (I':=I) (S:=S) (d:=c) (t:=i) (cs:=L) (f:=q) (.inl d5) (a2 _) rfl rfl rfl (λ_ _ _=>rfl) (λ_ _=>rfl) (λ_ e=>e) (λ_ e=>.inl e) G M (λm d3=>by
   obtain⟨x,l,co,v,a4⟩:=r m d3;obtain⟨ax,ek,ad,ci⟩:=(z.tree x co v).2.2 m a4;exact⟨ax,ad,.inr ⟨x,l,co,v,a4⟩⟩))
  refine O _ _ _ (v.put bd (av:=.ref c []) ?_) Y;rw[d9];refine .ref (t:=i) (loc:=none) (by rw[jo,b1,ai rfl];rfl) ?_;rw[CK];exact aW.here
 unfold An at e;split at e
 ·rename_i id n;split at e
  case h_2=>exact e.elim
  rename_i i u;rw[n] at p;obtain⟨am,F,el⟩:=z.tree id i u;refine J [id,c] i (rt id) (fp id) ac am F (λm r=>⟨id,ac,i,u,r⟩) ?_ e;generalize bB:a.eval b=cv at p;cases p with|ref H X=>
  rw[u] at H;cases H;obtain⟨rfl,rfl,rfl⟩:=aW.e1.1 X;rfl
 ·rename_i id ab _ n;cases r:Nat.beq id c with
  |true=>rw[r] at e;exact e.elim
  |false=>
   rw[r] at e;have d6:id≠c:=λd0=>(by rw[d0,pC] at r;cases r);have v:=z.bU (S:=[c]) (keep:=[]) (new:=[]) (rtn:=rt) (fpn:=fp) (w':=w) (I':=I) ⟨a2 _,rfl,rfl,rfl,λ_ _ _=>rfl,λ_ _=>.refl _ _,λ_ e=>e,λ_ e=>.inl e,(λ_ _ e=>by cases e),(λ_ _ _ _ e=>by cases e),(λ_ e=>by cases e),(λ_ e=>by cases e)⟩;refine O _ _ _ (v.put bd (av:=.ref id ab) ?_) e;have:=v.aV (a:=a) b;have d1:aV (kill [c] [] st.g) b=.ref id ab:=by
    cases b with
    |tmp i=>
     show gt (kill [c] [] st.g) i=_;rw[qc,show gt st.g i=.ref id ab from n];have:du id [c]=false:=by
      cases W:du id [c]
      ·rfl
      exact absurd (by simpa using fG.1 W) d6
     simp[eu,dO,ao.ej,ao.ids,this]
    |const eq=>exact absurd n (by cases eq<;>simp[aV])
    |global f0=>cases n
    |func q=>cases n
   rw[<-d1];exact this
 ·rename_i id j l n;split at e
  case h_2=>exact e.elim
  rename_i i c1 u;rw[n] at p;obtain⟨am,F,el⟩:=z.tree id _ u;generalize bB:a.eval b=cv at p J O bs;cases p with|kR=>(exact J [id,c] ⟨.osl i,[]⟩ [.slice none 0 0] [] ac ⟨none,0,rfl,.inl ⟨rfl,rfl,rfl,rfl⟩⟩ ac ac rfl e)|view H X f3 f4 f5=>
  rename_i m D f6 s;rw[u] at H;cases H;obtain⟨al,_,d2⟩:=aW.e1.1 X;cases al;obtain⟨fn,fz,T,G⟩:=am;rw[d2] at T;simp only[gu,Value.slice.injEq,and_true] at T;obtain⟨rfl,rfl,rfl⟩:=T;rcases G with⟨R,_⟩|⟨fs,f7,y,R,bl,ax,ek,ad,ci⟩
  ·cases R
  cases R;have V:((c1.take l).drop j).length=l-j:=(by simp;omega);refine J [id,c] ⟨.osl i,(c1.take l).drop j⟩ [.slice (some ⟨m,if s=j then D else D+j*i.size,none⟩) (l-j) (s-j)] (m::((y.take l).drop j).flatten) ac ?_ ?_ ?_ rfl e
  ·refine⟨some ⟨m,if s=j then D else D+j*i.size,none⟩,s-j,by rw[V],.inr ⟨m,_,(y.take l).drop j,rfl,rfl,by simp[ax],by simp only[V];omega,?_,?_⟩⟩
   ·intro ed a0 a3;by_cases A:s=j
    ·subst A;simp at a0 a3;omega
    rw[ah A] at a0 a3;have:j*i.size+(s-j)*i.size=s*i.size:=(by rw[<-eO];congr 1;omega);exact ad ed U U
   intro x ex q Z M;have f2:x<l-j:=(by rw[<-V];exact(eT.1 Z).1);rw[jA,l0 U] at Z M;obtain⟨ds,c2,fT,dl⟩:=ci (j+x) ex q Z M;refine⟨ds,c2,?_,dl⟩;rw[ah U];rwa[show D+j*i.size+x*i.size=D+(j+x)*i.size by rw[eO];omega]
  ·rw[bl] at F;have N:((y.take l).drop j).flatten.Sublist y.flatten:=Ci _ _ _;rw[jC] at F|-;exact⟨λW=>F.1 (N.subset W),F.2.sublist N⟩
  intro ft A;refine⟨id,ac,_,u,?_⟩;rw[bl];rcases dx.1 A with rfl|A
  ·simp
  have N:((y.take l).drop j).flatten.Sublist y.flatten:=Ci _ _ _;exact fk _ (N.subset A)
 ·rename_i n;split at e
  case h_2=>exact e.elim
  rename_i i f1;rw[n] at p;refine J [c] ⟨.osl i,[]⟩ [.slice none 0 0] [] ac ⟨none,0,rfl,.inl ⟨rfl,rfl,rfl,rfl⟩⟩ ac ac ?_ e;generalize bB:a.eval b=cv at p;cases p;rfl
 exact e.elim
end
end
section
inductive kE (σ:aj) where
 |dw (zI:List σ.den)
 |part (α:Type) (φ:α->Prop) (f:α->List σ.den)
 |bad
def qC (g:List (Nat×aH)) (b:aj) (k:ao):kE b:=
 match k with
 |.val (.bb _ j) a=>if e:j=b then .dw (e▸a) else .bad
 |.cv (.slice none 0 0)=>.dw []
 |.ref id c=>match au g id with
  |some ⟨f,d⟩=>bif b.pure then .part (List b.den) (λa=>df f d c (.osl b) a) (λa=>a) else .bad
  |none=>.bad
 |.view id c i h=>match au g id with
  |some ⟨f,d⟩=>bif b.pure then .part (List b.den) (λa=>df f d c (.osl b) a) (λa=>(a.take h).drop i) else .bad
  |none=>.bad
 |_=>.bad
def kE.to {f:aj} (g:kE f) (c:Nat->Prop) (b:List f.den->aQ):uV:=
 match g with
 |.dw e=>.part Unit (λ_=>c e.length) (λ_=>b e)
 |.part h i d=>.part h (λa=>i a/\c (d a).length) (λa=>b (d a))
 |.bad=>.bad
def Al (
 tt:List (TypeId×aj)) (t:List (Nat×aj)) (st:aQ) (a:Nat) (s:TypeId) (j k:ao):uV:=
 match fh tt s with
 |none=>.bad
 |some o=>match j with
  |.ref id []=>match au st.h id with
   |some ⟨.osl b,d⟩=>bif ba o b&&Nat.ble b.size 1300 then
    match b.pure,k with
    |false,.ref n []=>match au st.h n with
     |some ⟨.osl v,c⟩=>if e:v=b then bif Nat.beq id n then .bad else .part Unit (λ_=>d.length+c.length<=fm) (λ_=>⟨(a,.ref a [])::kill [id,n,a] [] st.g,(a,⟨.osl b,d++(e▸c)⟩)::del [id,n,a] st.h⟩) else .bad
     |_=>.bad
    |_,k=>(qC st.h b k).to (λl=>d.length+l<=fm) (λc=>⟨(a,.ref a [])::kill [id,a] [] st.g,(a,⟨.osl b,d++c⟩)::del [id,a] st.h⟩)
    else .bad
   |_=>.bad
  |.ref id f=>match au st.h id,au st.h a with
   |some ⟨m,j⟩,none=>match dR m f with
    |some (.osl b)=>bif ba o b&&Nat.ble b.size 1300&&b.jq then
     match qC st.h b k with
     |.dw c=>.part (List b.den) (λd=>df m j f (.osl b) d/\d.length+c.length<=fm) (λ_=>⟨(a,.app id f b c [a])::kill [id] [(id,f),(id,[])] st.g,(a,⟨.di,()⟩)::(id,⟨m,j⟩)::del [id] st.h⟩)
     |.part u w p=>.part (List b.den×u) (λi=>df m j f (.osl b) i.1/\w i.2/\i.1.length+(p i.2).length<=fm) (λi=>⟨(a,.app id f b (p i.2) [a])::kill [id] [(id,f),(id,[])] st.g,(a,⟨.di,()⟩)::(id,⟨m,j⟩)::del [id] st.h⟩)
     |.bad=>.bad
     else .bad
    |_=>.bad
   |_,_=>.bad
  |.view id [] r q=>match au st.h id with
   |some ⟨.osl b,d⟩=>bif ba o b&&Nat.ble b.size 1300 then
    (qC st.h b k).to (λl=>((d.take q).drop r).length+l<=fm) (λc=>⟨(a,.ref a [])::kill [id,a] [] st.g,(a,⟨.osl b,(d.take q).drop r++c⟩)::del [id,a] st.h⟩)
    else .bad
   |_=>.bad
  |.cv (.slice none 0 0)=>match au t a with
   |some (.osl b)=>bif ba o b&&Nat.ble b.size 1300 then
    (qC st.h b k).to (λl=>l<=fm) (λc=>⟨(a,.ref a [])::kill [a] [] st.g,(a,⟨.osl b,c⟩)::del [a] st.h⟩)
    else .bad
   |_=>.bad
  |_=>.bad
section
variable {E:eh} {C:dD} {st:aQ} {a:Act} {A:adW} {w:World} {I:Nat->Prop} {rt:Nat->adY} {fp:Nat->ad4} {o:Oper} {Q:aQ->Prop}
def w5 (I:Nat->Prop) (e:Nat->Prop) (w:World) (d:aj) (g:Value) (c:List d.den):Prop:=
 ∃b f a,g=.slice b c.length f/\i7 (bj I e) w d b c a/\a.flatten=[]
def Fx (b:∀a∈V,a=[]):V.flatten=[]:=by
 induction V with
 |nil=>rfl
 |cons e f d=>rw[j3,b e ac,d (λa c=>b a (fk _ c))];rfl
def i7.pure {f:dg->Nat->Prop} {e:aj} {g:Option Addr} {d:List e.den} {c:adT} (j:e.pure=true) (a:i7 f w e g d c):c.flatten=[]:=by
 refine Fx (λn h=>?_);obtain⟨i,a⟩:=a;obtain⟨b,p,rfl⟩:=fC.1 h;rcases a with rfl|⟨l,o,_,a⟩
 ·simp only[pB] at i;omega
 have q:b<d.length:=U;obtain⟨m,_,_,k⟩:=a b d[b] c[b] ac ac;exact k.pure j
def kE.holds {c:aj} (e:kE c) (b:List c.den):Prop:=
 match e with
 |.dw f=>b=f
 |.part g h d=>∃a:g,h a/\b=d a
 |.bad=>False
def kE.DH {f:kE d} {g:List d.den->aQ} (b:(f.to m g).K Q):∃a,f.holds a/\m a.length/\Q (g a):=by
 unfold kE.to at b;cases f with
 |dw a=>obtain⟨_,c,e⟩:=b;exact⟨a,rfl,c,e⟩
 |part k l j=>obtain⟨h,⟨c,e⟩,i⟩:=b;exact⟨j h,⟨h,c,rfl⟩,e,i⟩
 |bad=>exact b.elim
def uA (y:bC C st a.tmps w I rt fp) {u:List d.den} (c:(qC st.h d (aV st.g b)).holds u):w5 I C.B w d (a.eval b) u:=by
 have e:=y.aV b;unfold qC at c;generalize Y:a.eval b=a0 at e;split at c
 ·rename_i an av q j;split at c
  case isFalse=>exact c.elim
  rename_i n;subst n;obtain rfl:u=q:=c;rw[j] at e;cases e with|val H=>
  have P:=H;obtain⟨_,v,m,rfl,_⟩:=P;obtain⟨_,f⟩:=i7.bb H;exact⟨v,m,_,rfl,f,ac⟩
 ·rename_i j;obtain rfl:u=[]:=c;rw[j] at e;cases e;exact⟨none,0,[],rfl,⟨rfl,.inl rfl⟩,rfl⟩
 ·rename_i id O j;split at c
  case h_2=>exact c.elim
  rename_i R Q o;cases l:d.pure with
  |false=>rw[l] at c;exact c.elim
  |true=>
   rw[l] at c;obtain⟨q,z,rfl⟩:=c;rw[j] at e;cases e with|ref p D=>
   rw[o] at p;cases p;obtain⟨rfl,x,s,_⟩:=y.jO o z D;have N:=s;obtain⟨v,m,rfl,_⟩:=N;obtain⟨_,_,r,f,_⟩:=i7.osl s;exact⟨v,m,r,rfl,f,f.pure l⟩
 ·rename_i id O i k j;split at c
  case h_2=>exact c.elim
  rename_i R Q o;cases l:d.pure with
  |false=>rw[l] at c;exact c.elim
  |true=>
   rw[l] at c;obtain⟨q,z,rfl⟩:=c;rw[j] at e;cases e with|kR=>(exact⟨none,0,[],rfl,⟨rfl,.inl rfl⟩,rfl⟩)|view p D Z ab ad=>
   rename_i J G am m;rw[o] at p;cases p;obtain⟨n,x,s,_⟩:=y.jO o z D;cases n;obtain⟨al,_,r,f,_⟩:=i7.osl s;have A:((q.take k).drop i).length=k-i:=(by simp;omega);show w5 I C.B w d _ ((q.take k).drop i);refine⟨_,m-i,(r.take k).drop i,by rw[A],⟨by simp[f.1],?_⟩,?_⟩
   ·obtain⟨W,f⟩:=f;by_cases X:k=i
    ·left;apply lX;omega
    right;rcases f with rfl|⟨S,ap,n,f⟩
    ·simp at A;omega
    cases n;refine⟨J,_,rfl,λt b x e E=>?_⟩;have V:t<k-i:=(by rw[<-A];exact(eT.1 e).1);rw[jA,l0 U] at e E;obtain⟨M,K,T,L⟩:=f (i+t) b x e E;refine⟨M,K,?_,L⟩;rw[ah U];rwa[show G+i*d.size+t*d.size=G+(i+t)*d.size by rw[eO];omega]
   have:=f.pure l;have F:=Ci r i k;rw[this] at F;exact List.sublist_nil.1 F
 exact c.elim
def aaq {b p:Nat} {q:List d.den} (A:aT f w (.osl d) [.slice (some ⟨b,P,none⟩) p N] q j) (m:j.Nodup) (M:c<=h) (O:h<=p) (Q:p<=N):∃i,aT f w (.osl d) [.slice (some ⟨b,if N=c then P else P+c*d.size,none⟩) (h-c) (N-c)] ((q.take h).drop c) i/\i.Nodup/\∀r∈i,r∈j:=by
 obtain⟨H,J,v,C⟩:=A;simp only[gu,Value.slice.injEq,and_true] at v;obtain⟨rfl,rfl,rfl⟩:=v;rcases C with⟨k,_⟩|⟨I,R,e,k,rfl,ax,S,E,F⟩
 ·cases k
 cases k;have l:((q.take h).drop c).length=h-c:=(by simp;omega);have n:((e.take h).drop c).flatten.Sublist e.flatten:=Ci _ _ _;refine⟨b::((e.take h).drop c).flatten,⟨some ⟨b,if N=c then P else P+c*d.size,none⟩,N-c,by rw[l],.inr ⟨b,_,(e.take h).drop c,rfl,rfl,by simp[ax],by rw[l];omega,?_,?_⟩⟩,?_,?_⟩
 ·intro D s t;by_cases a:N=c
  ·subst a;simp at s t;omega
  rw[ah a] at s t;have:c*d.size+(N-c)*d.size=N*d.size:=(by rw[<-eO];congr 1;omega);exact E D U U
 ·intro g G j o u;have L:g<h-c:=(by rw[<-l];exact(eT.1 o).1);rw[jA,l0 U] at o u;obtain⟨z,x,K,y⟩:=F (c+g) G j o u;refine⟨z,x,?_,y⟩;rw[ah U];rwa[show P+c*d.size+g*d.size=P+(c+g)*d.size by rw[eO];omega]
 ·rw[jC] at m|-;exact⟨λB=>m.1 (n.subset B),m.2.sublist n⟩
 intro r a;rcases dx.1 a with rfl|a
 ·simp
 exact fk _ (n.subset a)
def IQ (d:o.op=.call {callee:=.builtin .append,args:=#[b,i],argTypes:=#[H,H]}) {c:Value} (f:(Builtin.append_ #[H,H] o.type #[a.eval b,a.eval i]).run E.P w=.ok c e):(execOp a.eval o).run E.P w=.ok (.value c) e:=by simp only[execOp,d,resolve,invoke,builtin,Sem.run_bind,Sem.run_pure,Result.andThen_ok,wW,fr,qO,f]
def dA.w8 (c2:o.op=.call {callee:=.builtin .append,args:=#[b,i],argTypes:=#[H,H]}) (a0:o.dst=some N) (bd:C.ok N) (v:bC C st a.tmps w I rt fp) {next:Act->World->Prop} (c1:∀W A u,Q W->A.defers=a.defers->ff C W A.tmps u->next A u) (an:fh E.tt H=some R) (ci:ba R q=true) (d1:q.size<=1300) {S:ad4} (a3:N∈S) {O J:Nat} {xs x:List q.den} {f1:ad4} {G:Nat} (d3:a.eval b=.slice r O J) (d0:aT (bj I C.B) w (.osl q) [.slice r O J] xs f1) (bB:f1.Nodup) (z:∀e∈f1,∃j∈S,∃k,au st.h j=some k/\e∈fp j) (d4:a.eval i=.slice T x.length G) (bl:i7 (bj I C.B) w q T x V) (ce:V.flatten.Nodup) (L:∀e∈V.flatten,∃j∈S,∃k,au st.h j=some k/\e∈fp j) (a4:∀e∈f1,e∉V.flatten) (co:xs.length+x.length<=fm) (dl:Q ⟨(N,.ref N [])::kill S [] st.g,(N,⟨.osl q,xs++x⟩)::del S st.h⟩):o.wp E.P a w next s:=by
 obtain⟨j,ex,fn,Z,ab⟩:=fh.ok an;have K:=ab.lay ci;obtain⟨fs,_,d5,_⟩:=K.info;have F:∀j k,au st.h j=some k->∀e∈fp j,e<w.heap.size/\∀M,¬bj I C.B M e:=λj k m e l=>⟨((v.tree j k m).2.2 e l).2.2.1,v.notM m e l⟩;obtain⟨y,u,f2,d6,d8,_,aR,d9,ed,ek,el,em,d7,f0,_,eq⟩:=IR (P:=E.P) (ty:=o.type) Z K d5.info d1 d0 (c:=G) bl bB (λe l=>by obtain⟨j,_,k,m,n⟩:=z e l;exact(F j k m e n).2) ce a4 (λM e cv=>v.ib e (mq cv)) (λe l=>by obtain⟨j,_,k,m,n⟩:=z e l;exact(F j k m e n).1) (λe l=>by obtain⟨j,_,k,m,n⟩:=L e l;exact(F j k m e n).1) co;have ds:(execOp a.eval o).run E.P w=.ok (.value y) u:=IQ (E:=E) c2 (by rw[d3,d4];exact d6);have ap:∀e∈f2,(∃j∈S,∃k,au st.h j=some k/\e∈fp j)\/(w.heap.size<=e/\e<u.heap.size):=λe l=>by
  rcases d9 e l with p|p|p
  ·exact .inl (z e p)
  ·exact .inl (L e p)
  exact .inr p
 have d2:=v.bU (l5.one (st:=st) (C:=C) (rt:=rt) (w':=u) (I':=I) (S:=S) (d:=N) (t:=⟨.osl q,xs++x⟩) (cs:=[y]) (f:=f2) (.inl a3) ed ek el em (λe l am=>d7 e l (λbs=>by obtain⟨j,D,k,m,n⟩:=z e bs;exact am j D k m n)) eq (λ_ p=>p) (λ_ p=>.inl p) d8 aR (λe l=>by
   rcases ap e l with⟨j,D,k,m,n⟩|⟨X,Y⟩
   ·obtain⟨ax,ft,fz,fT⟩:=(v.tree j k m).2.2 e n;exact⟨ax,U,.inr ⟨j,D,k,m,n⟩⟩
   exact⟨λad=>by have:=v.ib e (.inl ad);omega,Y,.inl X⟩))
 unfold Oper.wp;rw[ds];show next (a.put o.dst y) u
 rw[a0];refine c1 _ _ _ dl rfl ⟨I,_,_,d2.put bd (av:=.ref N []) ?_⟩;have:y=bO (.osl q) [y]:=rfl;rw[this];refine .ref (t:=⟨.osl q,xs++x⟩) (loc:=none) (by rw[jo,b1,ai rfl];rfl) ?_;rw[CK];exact aW.here
end
end
section
section
variable {E:eh} {C:dD} {st:aQ} {a:Act} {A:adW} {w:World} {I:Nat->Prop} {rt:Nat->adY} {fp:Nat->ad4} {o:Oper} {Q:aQ->Prop}
def IT (kg:o.op=.call {callee:=.builtin .append,args:=#[b,i],argTypes:=#[H,H]}) (an:o.dst=some N) (ic:C.ok N) (y:bC C st a.tmps w I rt fp) {next:Act->World->Prop} (kd:∀f5 bs w',Q f5->bs.defers=a.defers->ff C f5 bs.tmps w'->next bs w') (hr:fh E.tt H=some R) (i1:ba R q=true) (lb:q.size<=1300) (ds:q.jq=true) {id:Nat} (ii:aV st.g b=.ref id n) {p:d.den} (v:au st.h id=some ⟨d,p⟩) (ap:au st.h N=none) {D a3:List q.den} (c1:df d p n (.osl q) D) {S2:ad4} (lo:∃d6 F J,a.eval i=.slice d6 a3.length F/\i7 (bj I C.B) w q d6 a3 J/\J.flatten.Nodup/\∀e∈J.flatten,∃k∈S2,∃G,au st.h k=some G/\e∈fp k) (ci:∀k∈S2,k≠id/\∃R,au st.h k=some R) (i2:D.length+a3.length<=fm) (d0:Q ⟨(N,.app id n q a3 (N::S2))::kill [id] [(id,n),(id,[])] st.g,(N,⟨.di,()⟩)::(id,⟨d,p⟩)::del [id] st.h⟩):o.wp E.P a w next s:=by
 obtain⟨k,pr,ad,gt,gv⟩:=fh.ok hr;have d9:=gv.lay i1;obtain⟨rd,_,mz,_⟩:=d9.info;have d2:=y.aV b;rw[ii] at d2;generalize lk:a.eval b=rl at d2;cases d2 with|ref x dl=>
 rename_i rs d7 f7;rw[v] at x;cases x;simp only at dl;obtain⟨nd,d3,d4⟩:=y.tree id _ v;obtain⟨rg,pz,X,d5,gf,d8,gi,ab,gl,go,gs⟩:=yt n (loc:=none) nd (λ_ _ j=>by cases j) d3 (λ_ _ j=>by cases j) (y.notM v) c1;obtain⟨f8,al,f9⟩:=dl.iF gf;subst f8;subst al;subst f9;have fn:=ab.nodup_iff.1 d3;rw[iq] at fn;obtain⟨i3,ex,i8⟩:=fn;obtain⟨bB,ce,rfl,_⟩:=(show aT (bj I C.B) w (.osl q) f7 D X from d8);obtain⟨d6,F,J,lp,io,is,cv⟩:=lo;have M:∀e∈X,e∈fp id:=λe f=>ab.mem_iff.2 (by simp[f]);have L:∀e∈fp id,e<w.heap.size/\∀T,¬bj I C.B T e:=λe f=>⟨(d4 e f).2.2.1,y.notM v e f⟩;have ft:∀e∈J.flatten,e<w.heap.size:=λe f=>(by obtain⟨k,m,G,O,am⟩:=cv e f;exact((y.tree k G O).2.2 e am).2.2.1);obtain⟨f6,w',f2,nn,nx,f3,f4,n5,of,ol,on,or,f1,no,_,os⟩:=IR (P:=E.P) (ty:=o.type) gt d9 mz.info lb d8 (c:=F) io i3 (λe f=>(L e (M e f)).2) is (λe f hv=>by
  obtain⟨k,m,G,O,am⟩:=cv e hv;exact y.dis id k _ G v O (ci k m).1.symm e (M e f) am)
  (λT e c2=>y.ib e (mq c2)) (λe f=>(L e (M e f)).1) ft i2
 have la:(execOp a.eval o).run E.P w=.ok (.value f6) w':=IQ (E:=E) kg (by rw[lk,lp];exact nn);have fs:∀e∈d5,e<w.heap.size/\e∉X:=λe f=>⟨(L e (ab.mem_iff.2 (by simp[f]))).1,λj=>i8 e j e f rfl⟩;have d1:∀e,(∃T,bj I C.B T e)\/e∈d5->bT w w' e:=λe f=>by
  rcases f with⟨T,c2⟩|f
  ·exact no T e c2
  exact .of_heap (f1 e (fs e f).1 (fs e f).2)
 have hs:∀e U,d7=some (e,U)->dU w' e U [.slice bB D.length ce]:=λe U l=>by
  have f:e∈d5:=by
   rcases gl e U l with⟨bl,j,_⟩|j
   ·cases j
   exact j
  exact(gi e U l).1.eE (d1 e (.inr f))
 obtain⟨ra,Y,lt,_,l2,_,mc,fz⟩:=go w' (bj I C.B) [.slice bB D.length ce] D X p (λ_ _ j=>j) (λe f=>by
  have a4:bT w w' e:=d1 e (by
   rcases f with j|j|⟨U,j⟩
   ·exact .inl j
   ·exact .inr j
   cases j)
  exact⟨λA _=>(a4.1 A).1,λA=>(a4.1 A).2,λA=>by rw[(a4.1 A).1],a4.2⟩) f3 (λ_ _=>rfl) hs (dK.same c1)
 obtain rfl:=l2 rfl (.inr rfl);have K:Y.Perm (fp id):=mc.trans ab.symm;have u:N≠id:=λl=>(by rw[l,v] at ap;cases ap);have el:∀e∈f2,e∈X\/e∈J.flatten\/(w.heap.size<=e/\e<w'.heap.size):=λe f=>n5 e f
 let Z:=f2.filter λe=>decide (w.heap.size<=e)
 have cs:∀e∈Z,w.heap.size<=e/\e<w'.heap.size:=λe f=>by
  have ed:=eY.1 f;have ad:w.heap.size<=e:=(by simpa using ed.2);rcases el e ed.1 with j|j|j
  ·have:=(L e (M e j)).1;omega
  ·have:=ft e j;omega
  exact j
 have le:=y.bU (S:=[id]) (keep:=[(id,n),(id,[])]) (new:=[(N,⟨.di,()⟩),(id,⟨d,p⟩)]) (rtn:=λk=>if k=N then[] else rt id) (fpn:=λk=>if k=N then Z else Y) (w':=w') (I':=I) ⟨of,ol,on,or,λe f hi=>f1 e f (λj=>hi id ac _ v (M e j)),λe f=>.of_eq (os e f),λ_ j=>j,λ_ j=>.inl j,(by
   intro k W m;rw[b1] at m;split at m
   ·rename_i l;subst l;cases m;refine⟨.inr ap,(by simp only[if_true];exact rfl),(by simp only[if_true];exact f4.filter _),λe f=>?_⟩;simp only[if_true] at f;obtain⟨ax,V⟩:=cs e f;exact⟨λhc=>by have:=y.ib e (.inl hc);omega,V,.inl ax⟩
   ·rw[b1] at m;split at m
    ·rename_i _ l;subst l;cases m;have r:¬(id=N):=λl=>u l.symm;refine⟨.inl ac,(by simp only[ah r];exact lt),(by simp only[ah r];rw[K.nodup_iff];exact d3),λe f=>?_⟩;simp only[ah r] at f;rw[K.mem_iff] at f;exact⟨(d4 e f).1,by have:=(d4 e f).2.2.1;omega,.inr ⟨id,ac,_,v,f⟩⟩
    cases m),(by
   intro k A oN pl m i0 eq e f;have ek:∀bd W,au [(N,(⟨.di,()⟩:aH)),(id,⟨d,p⟩)] bd=some W->bd=N\/bd=id:=λbd W z=>by
    rw[b1] at z;split at z
    ·rename_i l;exact .inl l.symm
    rw[b1] at z;split at z
    ·rename_i _ l;exact .inr l.symm
    cases z
   have r:¬(id=N):=λl=>u l.symm;rcases ek k oN m with rfl|rfl<;>rcases ek A pl i0 with rfl|rfl
   ·exact absurd rfl eq
   ·simp only[if_true] at f;simp only[ah r];rw[K.mem_iff];intro j;have:=(L e j).1;have:=(cs e f).1;omega
   ·simp only[ah r] at f;simp only[if_true];rw[K.mem_iff] at f;intro j;have:=(L e f).1;have:=(cs e j).1;omega
   ·exact absurd rfl eq),(by
   intro k m W x;have a0:k=(id,n)\/k=(id,[]):=(by simpa using m);have ad:k.1=id:=by rcases a0 with rfl|rfl<;>rfl
   have x:au st.h id=some W:=(by rw[<-ad];exact x);rw[v] at x;obtain rfl:=ee x;have r:¬(id=N):=λl=>u l.symm;refine⟨⟨d,p⟩,by rw[ad,b1,ah u,b1,ai rfl],rfl,by rw[ad];simp only[ah r],(by rcases a0 with rfl|rfl;exact⟨_,dl.ty⟩;exact⟨d,by cases d<;>rfl⟩),λbl _ _ _ z d0=>?_⟩;rcases a0 with rfl|rfl
   ·exact fz.2 bl _ _ _ z d0
   ·rw[Cx] at z;cases z),(by
   intro k m W x bl s0 ro fT ps rb an ds ex em k0;have a0:k=(id,n)\/k=(id,[]):=(by simpa using m);rcases a0 with rfl|rfl
   ·rw[v] at x;obtain rfl:=ee x;have r:¬(id=N):=λl=>u l.symm;refine⟨⟨d,p⟩,by rw[b1,ah u,b1,ai rfl],em,λF hw=>?_⟩;obtain⟨ax,V⟩:=gs bl _ _ _ _ _ an (by exact ds) em ex k0 F hw;exact⟨by simp only[ah r];exact K.mem_iff.2 (ab.mem_iff.2 (lw _ ax)),d1 F (.inr ax)⟩
   rw[tk] at an;cases an)⟩
 unfold Oper.wp;rw[la];show next (a.put o.dst f6) w'
 rw[an];refine kd _ _ _ d0 rfl ⟨I,_,_,le.put ic (av:=.app id n q a3 (N::S2)) ?_⟩;have r:¬(id=N):=λl=>u l.symm;have mo:au ([(N,(⟨.di,()⟩:aH)),(id,⟨d,p⟩)]++del [id] st.h) id=some ⟨d,p⟩:=(by rw[jo,b1,ah u,b1,ai rfl];rfl);have fT:au ([(N,(⟨.di,()⟩:aH)),(id,⟨d,p⟩)]++del [id] st.h) N=some ⟨.di,()⟩:=(by rw[jo,b1,ai rfl];rfl);have f0:au [(N,(⟨.di,()⟩:aH)),(id,⟨d,p⟩)] id=some ⟨d,p⟩:=(by rw[b1,ah u,b1,ai rfl]);have mp:au [(N,(⟨.di,()⟩:aH)),(id,⟨d,p⟩)] N=some ⟨.di,()⟩:=(by rw[b1,ai rfl]);have ge:dI [(N,(⟨.di,()⟩:aH)),(id,⟨d,p⟩)] (λk=>if k=N then Z else Y) fp id=Y:=(by simp only[dI,f0,ah r]);have gc:dI [(N,(⟨.di,()⟩:aH)),(id,⟨d,p⟩)] (λk=>if k=N then Z else Y) fp N=Z:=(by simp only[dI,mp,if_true]);have ne:dI [(N,(⟨.di,()⟩:aH)),(id,⟨d,p⟩)] (λk=>if k=N then[] else rt id) rt id=rt id:=(by simp only[dI,f0,ah r]);have jp:aW w' d none (rt id) n (.osl q) d7 [.slice bB D.length ce]:=fz.1;refine .app (t:=⟨d,p⟩) mo ds (by rw[ne];exact jp) c1 f3 (λe f=>by rw[ge,K.mem_iff];exact M e f) nx ?_ ?_ f4
 ·intro k m;rcases dx.1 m with rfl|m
  ·exact⟨u,_,fT⟩
  obtain⟨ax,pm,V⟩:=ci k m;have co:¬(N=k):=λl=>(by rw[<-l,ap] at V;cases V);refine⟨ax,pm,?_⟩;rw[jo,b1,ah co,b1,ah (λl=>ax l.symm),lK,ah (by simpa using ax),V];rfl
 intro e f;rcases el e f with j|j|j
 ·exact .inl j
 ·obtain⟨k,m,G,O,am⟩:=cv e j;obtain⟨ax,_⟩:=ci k m;have co:¬(N=k):=λl=>(by rw[<-l,ap] at O;cases O);have mt:au [(N,(⟨.di,()⟩:aH)),(id,⟨d,p⟩)] k=none:=(by rw[b1,ah co,b1,ah (λl=>ax l.symm)];rfl);exact .inr ⟨k,fk _ m,by simp only[dI,mt];exact am⟩
 exact .inr ⟨N,ac,by rw[gc];exact eY.2 ⟨f,by simpa using j.1⟩⟩
def IS (N:o.op=.call {callee:=.builtin .append,args:=#[b,i],argTypes:=#[H,H]}) (z:o.dst=some c) (D:C.ok c) (x:bC C st a.tmps w I rt fp) {next:Act->World->Prop} (M:∀l e m,Q l->e.defers=a.defers->ff C l e.tmps m->next e m) (y:fh E.tt H=some R) (J:ba R d=true) (S:d.size<=1300) (L:d.jq=true) {id:Nat} (F:aV st.g b=.ref id n) {j:q.den} (T:au st.h id=some ⟨q,j⟩) (A:au st.h c=none) {p f:List d.den} (G:df q j n (.osl d) p) (U:w5 I C.B w d (a.eval i) f) (K:p.length+f.length<=fm) (O:Q ⟨(c,.app id n d f [c])::kill [id] [(id,n),(id,[])] st.g,(c,⟨.di,()⟩)::(id,⟨q,j⟩)::del [id] st.h⟩):o.wp E.P a w next s:=by obtain⟨V,r,t,u,v,k⟩:=U;exact IT (S2:=[]) N z D x M y J S L F T A G ⟨V,r,t,u,v,by rw[k];exact .nil,by rw[k];simp⟩ ac K O
end
end
section
section
variable {E:eh} {C:dD} {st:aQ} {o:Oper} {Q:aQ->Prop}
def dA.app {dl:List (Nat×aj)} {W:TypeId} {A N:Operand} {t:Nat} (z:o.op=.call {callee:=.builtin .append,args:=#[A,N],argTypes:=#[W,W]}) (w:o.dst=some t) (x:C.ok t) (a:(Al E.tt dl st t W (aV st.g A) (aV st.g N)).K Q):dA E C o st Q:=by
 rintro F J ⟨D,U,G,c⟩ next fn y
 have r:=c.aV A;unfold Al at a;split at a
 ·exact a.elim
 rename_i V v;split at a
 ·rename_i id u;split at a
  case h_2=>exact a.elim
  rename_i e k i;cases b:(ba V e&&Nat.ble e.size 1300) with
  |false=>rw[b] at a;exact a.elim
  |true=>
  rw[b] at a;simp only[bp] at b;obtain⟨l,d⟩:=b;have d:=e4 d;simp only[cond_true] at a;rw[u] at r;generalize H:F.eval A=c1 at r;cases r with|ref M ad=>
  rw[i] at M;cases M;obtain⟨al,_,L⟩:=aW.e1.1 ad;subst al;subst L;obtain⟨I,T,el⟩:=c.tree id _ i;obtain⟨ap,Y,a3,_⟩:=(show aT (bj D C.B) J (.osl e) (U id) k (G id) from I);have ci:F.eval A=.slice ap k.length Y:=(by rw[H];show(U id).headD undef=_;rw[a3];rfl);have cs:aT (bj D C.B) J (.osl e) [.slice ap k.length Y] k (G id):=(by rw[<-a3];exact I);split at a
  ·rename_i m fT ds;split at a
   case h_2=>exact a.elim
   rename_i c2 s R;split at a
   case isFalse=>exact a.elim
   rename_i Z;subst Z;cases P:Nat.beq id m with
   |true=>rw[P] at a;exact a.elim
   |false=>
   rw[P] at a;have d3:id≠m:=λZ=>(by rw[Z,pC] at P;cases P);obtain⟨_,h,a⟩:=a;have am:=c.aV N;rw[ds] at am;generalize q:F.eval N=f7 at am;cases am with|ref ce d2=>
   rw[R] at ce;cases ce;obtain⟨al,_,L⟩:=aW.e1.1 d2;subst al;subst L;obtain⟨cv,eq,f6⟩:=c.tree m _ R;obtain⟨av,a0,a4,_⟩:=(show aT (bj D C.B) J (.osl c2) (U m) s (G m) from cv);have d4:F.eval N=.slice av s.length a0:=(by rw[q];show(U m).headD undef=_;rw[a4];rfl);have em:aT (bj D C.B) J (.osl c2) [.slice av s.length a0] s (G m):=(by rw[<-a4];exact cv);obtain⟨_,_,O,p,bl,d1,_⟩:=i7.osl em;exact dA.w8 z w x c y v l d (S:=[id,m,t]) ac ci cs T (λn b=>⟨id,ac,_,i,b⟩) d4 p (d1 eq) (λn b=>⟨m,ac,_,R,bl n b⟩) (λn b d0=>c.dis id m _ _ i R d3 n b (bl n d0)) h a
  obtain⟨s,j,h,a⟩:=kE.DH a;obtain⟨an,X,O,q,p,f⟩:=uA c j;exact dA.w8 z w x c y v l d (S:=[id,t]) ac ci cs T (λn b=>⟨id,ac,_,i,b⟩) q p (by rw[f];simp) (by rw[f];simp) (by rw[f];simp) h a
 ·rename_i id f5 f0 u;split at a
  case h_2=>exact a.elim
  rename_i gc f8 i bd;split at a
  case h_2=>exact a.elim
  rename_i e f2;cases b:(ba V e&&Nat.ble e.size 1300&&e.jq) with
  |false=>rw[b] at a;exact a.elim
  |true=>
  rw[b] at a;simp only[bp] at b;obtain⟨⟨l,d⟩,bB⟩:=b;have d:=e4 d;simp only[cond_true] at a;split at a
  ·rename_i s j;obtain⟨k,⟨ab,h⟩,a⟩:=a;exact IS z w x c y v l d bB u i bd ab (uA c (by rw[j];exact rfl)) h a
  ·rename_i f9 ge fp j;obtain⟨⟨k,d9⟩,⟨ab,d5,h⟩,a⟩:=a;exact IS z w x c y v l d bB u i bd ab (uA c (by rw[j];exact⟨d9,d5,rfl⟩)) h a
  exact a.elim
 ·rename_i id co bs u;split at a
  case h_2=>exact a.elim
  rename_i e k i;cases b:(ba V e&&Nat.ble e.size 1300) with
  |false=>rw[b] at a;exact a.elim
  |true=>
  rw[b] at a;simp only[bp] at b;obtain⟨l,d⟩:=b;have d:=e4 d;simp only[cond_true] at a;rw[u] at r;obtain⟨I,T,el⟩:=c.tree id _ i;generalize H:F.eval A=c1 at r;cases r with|kR=>(obtain⟨s,j,h,a⟩:=kE.DH a;obtain⟨an,X,O,q,p,f⟩:=uA c j;exact dA.w8 z w x c y v l d (S:=[id,t]) ac (xs:=[]) (f1:=[]) H ⟨none,0,rfl,.inl ⟨rfl,rfl,rfl,rfl⟩⟩ ac ac q p (by rw[f];simp) (by rw[f];simp) ac (by simpa using h) (by simpa using a))|view M ad d6 d7 d8=>
  rename_i n f4 f3 Y;rw[i] at M;cases M;obtain⟨al,_,L⟩:=aW.e1.1 ad;cases al;obtain⟨s,j,h,a⟩:=kE.DH a;obtain⟨an,X,O,q,p,f⟩:=uA c j;rw[L] at I;obtain⟨ex,ax,ed,ek⟩:=aaq (show aT (bj D C.B) J (.osl e) _ k (G id) from I) T d6 d7 d8;have fz:((k.take bs).drop co).length=bs-co:=(by obtain⟨ft,_⟩:=i7.osl (show aT (bj D C.B) J (.osl e) _ k (G id) from I);simp;omega);exact dA.w8 z w x c y v l d (S:=[id,t]) ac H ax ed (λn b=>⟨id,ac,_,i,ek n b⟩) q p (by rw[f];simp) (by rw[f];simp) (by rw[f];simp) h a
 ·rename_i u;split at a
  case h_2=>exact a.elim
  rename_i e fs;cases b:(ba V e&&Nat.ble e.size 1300) with
  |false=>rw[b] at a;exact a.elim
  |true=>
  rw[b] at a;simp only[bp] at b;obtain⟨l,d⟩:=b;have d:=e4 d;simp only[cond_true] at a;rw[u] at r;generalize H:F.eval A=c1 at r;cases r;obtain⟨s,j,h,a⟩:=kE.DH a;obtain⟨an,X,O,q,p,f⟩:=uA c j;exact dA.w8 z w x c y v l d (S:=[t]) ac (xs:=[]) (f1:=[]) H ⟨none,0,rfl,.inl ⟨rfl,rfl,rfl,rfl⟩⟩ ac ac q p (by rw[f];simp) (by rw[f];simp) ac (by simpa using h) (by simpa using a)
 exact a.elim
end
end
section
def g6 (E:eh) (C:dD) (B:Array Oper) (g:ad4) (st:aQ) (Q:aQ->Prop):Prop:=
 ∀(a:Act) (e:World),ff C st a.tmps e->∀c:Exit->Act->World->Prop,(∀d b f,Q d->b.defers=a.defers->ff C d b.tmps f->c .normal b f)->wpOps E.P B c g a e
def ju (B:Array Oper) (st:aQ) (d:Oper) (a:Bool):Prop:=
 match d.guard with
 |none=>a=true
 |some (c,e)=>match(B[c]?).bind (·.dst) with
  |some b=>match gt st.g b with
   |.val .bool f=>(f==e)=a
   |.cv (.tuple _)=>a=false
   |_=>False
  |none=>False
section
variable {E:eh} {C:dD} {st:aQ} {B:Array Oper} {Q:aQ->Prop}
theorem ju.ok {c:Act} (j:bC C st c.tmps e m o p) {l:Oper} {i:Bool} (b:ju B st l i):Region.wanted l (yielded B c.tmps)=i:=by
 unfold ju at b;unfold Region.wanted;split at b
 ·rename_i g;rw[g];exact b.symm
 rename_i v u g;rw[g];split at b
 ·rename_i d k;split at b
  ·rename_i n h;have:=j.tmp d;rw[h] at this;generalize a:c.tmps.getD d undef=t at this;cases this with|val r=>
   obtain⟨_,rfl⟩:=r;have q:c.tmps[d]?=some (.bool n):=by
    rw[zK] at a;cases f:c.tmps[d]? with
    |none=>rw[f] at a;cases a
    |some s=>rw[f] at a;simp only[jE] at a;rw[a];rfl
   simp only[yielded,k,aG,q];rw[<-b];cases n<;>cases u<;>rfl
  ·rename_i w h;have:=j.tmp d;rw[h] at this;generalize a:c.tmps.getD d undef=t at this;cases this;subst b;simp only[yielded,k,aG];rw[zK] at a;cases f:c.tmps[d]? with
   |none=>rfl
   |some s=>rw[f] at a;simp only[jE] at a;rw[a];rfl
  exact b.elim
 exact b.elim
def g6.nil (b:Q st):g6 E C B [] st Q:=λa e c _ d=>d st a e b rfl c
def g6.op {a:Oper} (p:B[c]?=some a) (t:ju B st a true) (i:dA E C a st (λd=>g6 E C B j d Q)):g6 E C B (c::j) st Q:=by intro f v b e q;obtain⟨y,A,z,l⟩:=id b;simp only[wpOps,p];rw[t.ok l,ai rfl];exact .inl (i f v b _ _ (λd g w o m r=>o g w r e (λu h x k n s=>q u h x k (n.trans m) s)))
def g6.skip {a:Oper} (q:B[N]?=some a) (n:a.dst=some c) (p:C.ok c) (t:ju B st a false) (k:g6 E C B j ⟨(c,.cv undef)::st.g,st.h⟩ Q):g6 E C B (N::j) st Q:=by intro y w m e r;obtain⟨d,u,i,b⟩:=id m;simp only[wpOps,q];rw[t.ok b,ah ac,n];exact k _ w ⟨d,u,i,b.put p (.cv undef)⟩ e (λv f x l o s=>r v f x l o s)
def ff.xi {b:adW} {c:World} {st a:aQ} (f:ff C st b c) (j:nF a.g st) (k:nG a.h st) (l:k8 a.g a.h=true):ff C a b c:=by obtain⟨d,m,e,i⟩:=f;exact⟨d,m,e,i.xi j k (k8.get l)⟩
def J (E:eh) (C:dD) (e:Code) (st:aQ) (Q:Exit->aQ->Prop):Prop:=
 ∀(a:Act) (d:World),ff C st a.tmps d->a.defers=[]->e.wp E.P (λf b g=>∃c,Q f c/\ff C c b.tmps g/\b.defers=[]) a d
variable {A:Exit->aQ->Prop}
def J.aat {b:Code} {a:aQ} (i:nF a.g st) (j:nG a.h st) (k:k8 a.g a.h=true) (d:J E C b a A):J E C b st A:=λc l e f=>d c l (e.xi i j k) f
def J.region {id:Nat} (c:g6 E C B (List.range B.size) st (λa=>A .normal a)):J E C (.region id B false) st A:=
 λb i d e=>wp_region (c b i d _ (λa _a' _w' g f h=>⟨a,g,h,f.trans e⟩))
def J.skip (a:A .normal st):J E C .skip st A:=λ_ _ b c=>wp_skip ⟨st,a,b,c⟩
def J.exit {id:Nat} (a:A (.exit id) st):J E C (.exit id) st A:=λ_ _ b c=>wp_exit ⟨st,a,b,c⟩
def J.ret (a:A .ret st):J E C .ret st A:=λ_ _ b c=>wp_ret ⟨st,a,b,c⟩
def Y7 (E:eh) (C:dD) (b:Code) (A:Exit->aQ->Prop):Exit->aQ->Prop
 |.normal,a=>J E C b a A
 |e,a=>A e a
def J.seq {d e:Code} (i:J E C d st (Y7 E C e A)):J E C (.seq d e) st A:=λf m j k=>by
 refine wp_seq (wp_mono (i f m j k) ?_);rintro h g n ⟨l,a,b,c⟩;cases h with
 |normal=>exact a g n b c
 |_=>exact⟨l,a,b,c⟩
def J.cond {a:Operand} {l m:Code} {c:Bool} (n:aV st.g a=.val .bool c) (p:c=true->J E C l st A) (o:c=false->J E C m st A):J E C (.cond a l m) st A:=by
 rintro b k ⟨f,j,h,e⟩ i;have:=e.aV a;rw[n] at this;generalize q:b.eval a=s at this;cases this with|val r=>
 obtain⟨_,rfl⟩:=r;exact wp_cond_split q (λd=>p d b k ⟨f,j,h,e⟩ i) (λd=>o d b k ⟨f,j,h,e⟩ i)
def EB (id:Nat) (A:Exit->aQ->Prop):Exit->aQ->Prop
 |.exit b,a=>match Nat.beq b id with
  |true=>A .normal a
  |false=>A (.exit b) a
 |e,a=>A e a
def J.block {id:Nat} {g:Code} (j:J E C g st (EB id A)):J E C (.block id g) st A:=λh n k m=>by
 refine wp_block (wp_mono (j h n k m) ?_);rintro i o p ⟨f,a,b,c⟩;cases i with
 |exit e=>
  simp only[Exit.inBlock];simp only[EB] at a;by_cases d:e=id
  ·subst d;rw[pC] at a;rw[ai rfl];exact⟨f,a,b,c⟩
  have:Nat.beq e id=false:=by
   cases l:Nat.beq e id
   ·rfl
   exact absurd (eF l) d
  rw[this] at a;rw[ah d];exact⟨f,a,b,c⟩
 |_=>exact⟨f,a,b,c⟩
def h8 {a c:Type} (b:a->Option (a⊕c)):Nat->a->Option c
 |0,_=>none
 |n+1,e=>match b e with
  |none=>none
  |some (.inl f)=>h8 b n f
  |some (.inr d)=>some d
open Classical in
def loop {σ ρ:Type} (a:σ->Option (σ⊕ρ)) (d:σ):Option ρ:=
 if h:∃c,∃b,h8 a b d=some c then some h.choose else none
def Gf {e g:Type} {f:e->Option (e⊕g)}:∀{n b:Nat} {d:e} {c:g},n<=b->h8 f n d=some c->h8 f b d=some c
 |0,_,_,_,_,a=>by cases a
 |n+1,0,_,_,a,_=>by omega
 |n+1,b+1,d,c,h,a=>by
  simp only[h8] at a|-;split at a
  ·cases a
  ·exact Gf U a
  exact a
def vX {j:Type} {e:G->Option (G⊕j)} {g:G} {b:j}:loop e g=some b↔∃a,h8 e a g=some b:=by
 unfold loop;constructor
 ·intro f;split at f
  ·rename_i c;obtain⟨a,d⟩:=c.choose_spec;exact⟨a,by rw[d];exact f⟩
  cases f
 rintro⟨a,d⟩;have c:∃b,∃a,h8 e a g=some b:=⟨b,a,d⟩;rw[dif_pos c];obtain⟨i,l⟩:=c.choose_spec;have k:=Gf (Nat.le_max_left a i) d;have h:=Gf (Nat.le_max_right a i) l;rw[k] at h;exact h.symm
def T6 {j:Type} (d:G->Option (G⊕j)) (e:G):loop d e=match d e with
 |none=>none
 |some (.inl g)=>loop d g
 |some (.inr f)=>some f:=by
 apply Option.ext;intro f;rw[vX];cases c:d e with
 |none=>
  simp only[reduceCtorEq,iff_false];rintro⟨b,a⟩;cases b with
  |zero=>cases a
  |succ b=>simp only[h8,c] at a;cases a
 |some i=>
  cases i with
  |inl g=>
   simp only;rw[vX];constructor
   ·rintro⟨b,a⟩;cases b with
    |zero=>cases a
    |succ b=>simp only[h8,c] at a;exact⟨b,a⟩
   rintro⟨b,a⟩;exact⟨b+1,by simp only[h8,c];exact a⟩
  |inr k=>
   simp only;constructor
   ·rintro⟨b,a⟩;cases b with
    |zero=>cases a
    |succ b=>simp only[h8,c] at a;exact a
   intro h;exact⟨1,by simp only[h8,c];exact h⟩
def J.loop {σ ρ L:Type} {c:Code} (jK:σ->aQ) {z:σ->Option (σ⊕ρ)} {s:σ} {w:ρ->Option L} {K:L} (O:(loop z s).bind w=some K) (T:nF (jK s).g st) (U:nG (jK s).h st) (V:k8 (jK s).g (jK s).h=true) (S:∀e l,z e=some l->(match l with|.inl _=>True|.inr I=>w I=some K)->J E C c (jK e) (λd t=>match l with
  |.inl m=>d=.normal/\nF (jK m).g t/\nG (jK m).h t/\k8 (jK m).g (jK m).h=true
  |.inr _=>(d=.normal->False)/\A d t)):J E C (.loop c) st A:=by
 obtain⟨I,Z,W⟩:=dp.1 O;obtain⟨r,a⟩:=vX.1 Z;have ad:∀(r:Nat) (e:σ) (f:Act) (n:World),h8 z r e=some I->ff C (jK e) f.tmps n->f.defers=[]->∀(j:Frame) (w:List Item) (k:List Frame),
  ∃d v D,(∃t,A d t/\ff C t v.tmps D/\v.defers=[])/\Arrives E.P (lone (j.at f (.code c::.inLoop c::w)) k n) j w k d v D:=by
  intro r
  induction r with
  |zero=>intro e f n a;cases a
  |succ r ab=>
   intro e f n a F G j B k;simp only[h8] at a;cases H:z e with
   |none=>rw[H] at a;cases a
   |some l=>
    rw[H] at a;have R:=S e l H (by
     cases l with
     |inl m=>trivial
     |inr ap=>simp only at a;cases a;exact W)
    obtain⟨d,o,u,⟨y,b,q,p⟩,i⟩:=R f n F G j (.inLoop c::B) k;cases l with
    |inl m=>
     simp only at a b;obtain⟨rfl,ax,am,an⟩:=b;obtain⟨N,M,av,Y,Q⟩:=ab m o u a (q.xi ax am an) p j B k;exact⟨N,M,av,Y,.of_steps (Steps.trans i (.one step_inLoop)) Q⟩
    |inr ap=>
     obtain⟨X,b⟩:=b;cases d with
     |normal=>exact(X rfl).elim
     |exit id=>exact⟨_,o,u,⟨y,b,q,p⟩,.pass (x:=.inLoop c) rfl (λ_ _=>.inl ac) i⟩
     |goto a3=>exact⟨_,o,u,⟨y,b,q,p⟩,.pass (x:=.inLoop c) rfl (λ_ _=>.inl ac) i⟩
     |ret=>exact⟨_,o,u,⟨y,b,q,p⟩,.pass (x:=.inLoop c) rfl (λ_ _=>.inl ac) i⟩
     |panic a0=>exact⟨_,o,u,⟨y,b,q,p⟩,.pass (x:=.inLoop c) rfl (λ_ _=>.inl ac) i⟩
     |outgrown=>exact⟨_,o,u,⟨y,b,q,p⟩,.pass (x:=.inLoop c) rfl (λ_ _=>.inl ac) i⟩
 refine J.aat T U V (λf n F G j B k=>?_);obtain⟨d,v,D,b,i⟩:=ad r s f n a F G j B k;exact⟨d,v,D,b,.of_steps (.one step_loop) i⟩
end
end
def rM:dg->dg->Bool
 |.bK,_=>true
 |.dt,.dt=>true
 |.dt,.bK=>false
def vP:dg->Bool
 |.dt=>true
 |.bK=>false
def dj:aj->aj->Bool
 |.int i,.int j=>if i=j then true else false
 |.bool,.bool|.str,.str|.nil,.nil=>true
 |.bb c a,.bb d b=>rM c d&&dj a b
 |.osl a,.bb c b=>vP c&&dj a b
 |.ptr c a,.ptr d b=>rM c d&&dj a b
 |.st a,.st b=>dj a b
 |.pr e f,.pr g h=>dj e g&&dj f h
 |.mp a,.dN c b=>vP c&&dj a b
 |.dN c a,.dN d b=>rM c d&&dj a b
 |_,_=>false
theorem rM.ok (e:∀c,m c->F c) {b:dg} (d:rM Q b=true) (a:bj W m Q c):bj W F b c:=by
 cases Q<;>cases b
 ·exact a
 ·exact .inl a
 ·cases d
 exact a.imp id (e c)
theorem vP.ok (a:vP Q=true):Q=.dt:=by cases Q;cases a;rfl
def dj.den:∀{d υ:aj},dj d υ=true->d.den=υ.den:=by
 intro d
 induction d with
 |bb f c b=>
  intro υ a;cases υ<;>simp only[dj] at a<;>try (cases a;done)
  simp only[bp] at a;exact congrArg List (b a.2)
 |ptr f c b=>
  intro υ a;cases υ<;>simp only[dj] at a<;>try (cases a;done)
  simp only[bp] at a;exact congrArg Option (b a.2)
 |osl c b=>
  intro υ a;cases υ<;>simp only[dj] at a<;>try (cases a;done)
  simp only[bp] at a;exact congrArg List (b a.2)
 |st c b=>
  intro υ a;cases υ with
  |st k=>exact b (υ:=k) (by simpa only[dj] using a)
  |_=>simp only[dj] at a;cases a
 |pr g h i j=>
  intro υ a;cases υ<;>simp only[dj] at a<;>try (cases a;done)
  simp only[bp] at a;show(g.den×h.den)=_;rw[i a.1,j a.2]
 |int l=>intro υ a;cases υ<;>simp only[dj] at a<;>first|rfl|cases a
 |bool=>intro υ a;cases υ<;>simp only[dj] at a<;>first|rfl|cases a
 |str=>intro υ a;cases υ<;>simp only[dj] at a<;>first|rfl|cases a
 |nil=>intro υ a;cases υ<;>simp only[dj] at a<;>first|rfl|cases a
 |optr c _=>intro υ a;cases υ<;>simp only[dj] at a<;>cases a
 |di=>intro υ a;cases υ<;>simp only[dj] at a<;>cases a
 |mp c b=>
  intro υ a;cases υ<;>simp only[dj] at a<;>try (cases a;done)
  simp only[bp] at a;exact congrArg (λe=>Option (List (Int×e)×Nat)) (b a.2)
 |dN f c b=>
  intro υ a;cases υ<;>simp only[dj] at a<;>try (cases a;done)
  simp only[bp] at a;exact congrArg (λe=>Option (List (Int×e)×Nat)) (b a.2)
theorem dj.size:∀{c b:aj},dj c b=true->c.size=b.size:=by
 intro c
 induction c with
 |st i d=>intro b a;cases b<;>simp only[dj] at a<;>first|(simp only[aj.size];exact d a)|cases a
 |pr g h e f=>
  intro b a;cases b<;>simp only[dj] at a<;>try (cases a;done)
  simp only[bp] at a;simp only[aj.size];rw[e a.1,f a.2]
 |_=>intro b a;cases b<;>simp only[dj] at a<;>first|rfl|cases a
def KF (l:A=G) {e:Option (List (Int×A)×Nat)} {i:Option (List (Int×G)×Nat)} (m:HEq e i):(e=none/\i=none)\/∃j c k,e=some (j,c)/\i=some (k,c)/\∀b:List (Int×Nat×A),jf b j c->∃f:List (Int×Nat×G),jf f k c/\f.length=b.length/\∀(h:Nat) (d:Int×Nat×G),f[h]?=some d->∃a:Int×Nat×A,b[h]?=some a/\a.1=d.1/\a.2.1=d.2.1/\HEq a.2.2 d.2.2:=by
 subst l;cases m;cases e with
 |none=>exact .inl ⟨rfl,rfl⟩
 |some g=>exact .inr ⟨g.1,g.2,g.1,rfl,rfl,λb n=>⟨b,n,rfl,λh a o=>⟨a,o,rfl,rfl,HEq.rfl⟩⟩⟩
def dj.bO {a b:aj} (d:dj a b=true) (c:adY):bO b c=h2.bO a c:=by cases a<;>cases b<;>simp only[dj] at d<;>first|rfl|cases d
def KE (f:G=A) {c:List G} {d:List A} (g:HEq c d):d.length=c.length/\∀(b:Nat) (a:A),d[b]?=some a->∃e,c[b]?=some e/\HEq e a:=by subst f;cases g;exact⟨rfl,λb a h=>⟨a,h,HEq.rfl⟩⟩
def Th (e:A=G) {b:Option A} {c:Option G} (f:HEq b c):(b=none/\c=none)\/∃a d,b=some a/\c=some d/\HEq a d:=by
 subst e;cases f;cases b with
 |none=>exact .inl ⟨rfl,rfl⟩
 |some a=>exact .inr ⟨a,a,rfl,rfl,HEq.rfl⟩
def Ti {c d:Type} (e:A=c) (f:G=d) {a:A×G} {b:c×d} (g:HEq a b):HEq a.1 b.1/\HEq a.2 b.2:=by subst e;subst f;cases g;exact⟨HEq.rfl,HEq.rfl⟩
def aT.dt (L:∀c,F c->m c):∀{B υ:aj} {f:adY} {x:B.den} {y:υ.den} {g:ad4},dj B υ=true->HEq x y->aT (bj W F) e B f x g->(∀c∈g,m c)->aT (bj W m) e υ f y []:=by
 intro B
 induction B with
 |int ds=>
  intro υ f x y g a d b _;cases υ<;>simp only[dj] at a<;>try (cases a;done)
  split at a
  ·rename_i an;subst an;cases d;exact⟨rfl,b.2⟩
  cases a
 |bool=>intro υ f x y g a d b _;cases υ<;>simp only[dj] at a<;>first|(cases a;done)|(cases d;exact⟨rfl,b.2⟩)
 |str=>intro υ f x y g a d b _;cases υ<;>simp only[dj] at a<;>first|(cases a;done)|(cases d;exact⟨rfl,b.2⟩)
 |nil=>intro υ f x y g a d b _;cases υ<;>simp only[dj] at a<;>first|(cases a;done)|(cases d;exact⟨rfl,b.2⟩)
 |optr w _=>intro υ f x y g a;cases υ<;>simp only[dj] at a<;>cases a
 |di=>intro υ f x y g a;cases υ<;>simp only[dj] at a<;>cases a
 |mp w l=>
  intro υ f x y g a d b i;cases υ<;>simp only[dj] at a<;>try (cases a;done)
  simp only[bp] at a;obtain rfl:=vP.ok a.1;rcases KF (dj.den a.2) d with⟨rfl,rfl⟩|⟨bB,C,ce,rfl,rfl,k⟩
  ·exact⟨rfl,b.2⟩
  obtain⟨c,I,E,ax,u,M,v,A,S⟩:=b;obtain⟨G,N,j,k⟩:=k E M;refine⟨c,I,G,ax,rfl,N,.inr (i c (by rw[u];simp)),v,by rw[j];exact A,λh R O=>?_⟩;obtain⟨Q,n,p,J,K⟩:=k h R O;obtain⟨o,q,r,s⟩:=S h Q n;exact⟨o,by rw[<-dj.size a.2];exact q,by rw[r,dj.bO a.2,p,J],l a.2 K s ac⟩
 |dN Z w l=>
  intro υ f x y g a d b i;cases υ<;>simp only[dj] at a<;>try (cases a;done)
  simp only[bp] at a;rcases KF (dj.den a.2) d with⟨rfl,rfl⟩|⟨bB,C,ce,rfl,rfl,k⟩
  ·exact⟨rfl,b.2⟩
  obtain⟨c,I,E,ax,u,M,z,v,A,S⟩:=b;obtain⟨G,N,j,k⟩:=k E M;refine⟨c,I,G,ax,rfl,N,rM.ok L a.1 z,v,by rw[j];exact A,λh R O=>?_⟩;obtain⟨Q,n,p,J,K⟩:=k h R O;obtain⟨o,q,r,s⟩:=S h Q n;exact⟨o,by rw[<-dj.size a.2];exact q,by rw[r,dj.bO a.2,p,J],l a.2 K s ac⟩
 |st w l=>
  intro υ f x y g a d b i;cases υ with
  |st D=>exact l (υ:=D) (x:=x) (y:=y) (by simpa only[dj] using a) d b i
  |_=>simp only[dj] at a;cases a
 |pr ad c bl bs=>
  intro υ f x y g a d b i;cases υ<;>simp only[dj] at a<;>try (cases a;done)
  rename_i C c1;simp only[bp] at a;obtain⟨c2,f2,rfl,n,p⟩:=b;obtain⟨al,ap⟩:=Ti (dj.den a.1) (dj.den a.2) d;have Y:=dj.size a.1;exact⟨[],[],rfl,by rw[<-Y];exact bl a.1 al n (λc z=>i c (by simp[z])),by rw[<-Y];exact bs a.2 ap p (λc z=>i c (by simp[z]))⟩
 |bb Z w l=>
  intro υ f x y g a d b i;obtain⟨rfl,X,H,rfl,ax,u,v⟩:=b;cases υ<;>simp only[dj] at a<;>try (cases a;done)
  rename_i ab D;simp only[bp] at a;obtain⟨j,k⟩:=KE (dj.den a.2) d;refine⟨rfl,X,H,by rw[j],by rw[j];exact ax,u,?_⟩;rcases v with rfl|⟨c,t,rfl,a0,bd⟩
  ·left;exact lX (by rw[j];rfl)
  right;refine⟨c,t,rfl,rM.ok L a.1 a0,λh T P=>?_⟩;obtain⟨V,n,p⟩:=k h T P;obtain⟨o,q,r,s⟩:=bd h V n;rw[<-dj.size a.2];exact⟨o,q,r,l a.2 p s ac⟩
 |osl w l=>
  intro υ f x y g a d b i;cases υ<;>simp only[dj] at a<;>try (cases a;done)
  rename_i ab D;simp only[bp] at a;obtain rfl:=vP.ok a.1;obtain⟨X,H,rfl,b⟩:=b;obtain⟨j,k⟩:=KE (dj.den a.2) d;rcases b with⟨rfl,rfl,rfl,rfl⟩|⟨c,t,av,rfl,rfl,ax,u,v,A⟩
  ·obtain rfl:y=[]:=lX (by rw[j];rfl);exact⟨rfl,none,0,rfl,a2 _,λ_=>rfl,.inl rfl⟩
  refine⟨rfl,some ⟨c,t,none⟩,H,by rw[j],by rw[j];exact u,(λa=>by cases a),.inr ⟨c,t,rfl,.inr (i c ac),λh T P=>?_⟩⟩;obtain⟨V,n,p⟩:=k h T P;have dl:h<x.length:=(eT.1 n).1;obtain⟨o,q,r,s⟩:=A h V (av[h]'(by omega)) n ac
  rw[<-dj.size a.2];exact⟨o,q,r,l a.2 p s (λC a4=>i C (fk _ (je.2 ⟨_,bA U,a4⟩)))⟩
 |ptr Z w l=>
  intro υ f x y g a d b i;obtain⟨rfl,b⟩:=b;cases υ<;>simp only[dj] at a<;>try (cases a;done)
  rename_i ab D;simp only[bp] at a;refine⟨rfl,?_⟩;rcases Th (dj.den a.2) d with⟨rfl,rfl⟩|⟨ad,c,rfl,rfl,a3⟩
  ·exact b
  obtain⟨am,t,o,ci,co,cs,aR,cv⟩:=b;exact⟨am,t,o,ci,rM.ok L a.1 co,by rw[<-dj.size a.2];exact cs,aR,l a.2 a3 cv ac⟩
inductive mK:(τ:aj)->τ.den->(υ:aj)->υ.den->Prop
 |same {τ υ:aj} {x:τ.den} {y:υ.den} (h:dj τ υ=true) (Tg:HEq x y):mK τ x υ y
 |ptr {t u:aj} {x:t.den} {y:u.den} (h:dj t u=true) (Tg:HEq x y):mK (.optr t) x (.ptr .dt u) (some y)
def mK.rep {B:Nat->Prop} (h:∀a,B a->m a) {k:d.den} {l:q.den} (b:mK d k q l) (i:aT (bj F B) e d g k j) (f:∀a∈j,m a):aT (bj F m) e q g l []:=by
 cases b with
 |same b c=>exact i.dt h b c f
 |ptr b c=>
  obtain⟨a,r,u,o,rfl,rfl,ax,s,v,t⟩:=i;exact⟨rfl,a,r,o,rfl,.inr (f a ac),by rw[<-dj.size b];exact ax,s,t.dt h b c (λn p=>f n (by simp[p]))⟩
def mK.st {c:d.den} {e:q.den} (a:mK d c q e) (b:adY):bO d b=bO q b:=by
 cases a with
 |same a _=>cases d<;>cases q<;>first|rfl|(simp only[dj] at a;cases a;done)
 |ptr a _=>rfl
section
def kZ {c d e:Type} (b:c->d->e->Prop):List c->List d->List e->Prop
 |[],[],[]=>True
 |a::as,f::g,h::i=>b a f h/\kZ b as g i
 |_,_,_=>False
def hl {c d:Type} (b:c->d->Prop):List c->List d->Prop
 |[],[]=>True
 |a::as,e::f=>b a e/\hl b as f
 |_,_=>False
theorem IC {d e:Type} {f:d->e->Prop}:∀{as:List d} {c:List e},hl f as c->c.length=as.length
 |[],[],_=>rfl
 |[],_::_,b=>b.elim
 |_::_,[],b=>b.elim
 |a::as,g::c,b=>by have:=IC b.2;grind
def Em {e f:Type} {c:e->f->Prop}:∀{as:List e} {d:List f} {g:List e} {h:List f},hl c as d->hl c g h->hl c (as++g) (d++h)
 |[],[],_,_,_,b=>b
 |[],_::_,_,_,b,_=>b.elim
 |_::_,[],_,_,b,_=>b.elim
 |a::as,j::d,_,_,b,i=>⟨b.1,Em b.2 i⟩
theorem Ai {h i:Type} {f:h->i->Prop}:∀{as:List h} {c:List i},as.length=c.length->(∀(e:Nat) a b,as[e]?=some a->c[e]?=some b->f a b)->hl f as c
 |[],[],_,_=>trivial
 |[],_::_,d,_=>by cases d
 |_::_,[],d,_=>by cases d
 |a::as,b::c,d,g=>⟨g 0 a b rfl rfl,Ai (by grind) (λe j k l m=>g (e+1) j k (by grind) (by grind))⟩
def En {b g h:Type} {c:g->h->Prop} {d:b->g} {e:b->h} (f:∀x,c (d x) (e x)):∀a:List b,hl c (a.map d) (a.map e)
 |[]=>trivial
 |x::a=>⟨f x,En f a⟩
inductive gh where
 |v (t:aH)
 |m (t:aH) (y:t.1.den)
 |o (t:aH)
 |c (f:Nat) (aa1:List aH)
 |n
 |s (f:Nat) (l:ad4)
 |w (σ:aj) (xs:List σ.den) (lo hi:Nat) (zI:List σ.den)
def wM (I c:Nat->Prop) (w:World) (a:aH) (d:Value):Prop:=∃b,d=bO a.1 b/\aT (bj I c) w a.1 b a.2 []
def wF (I f:Nat->Prop) (w:World):gh->Value->ad4->Prop
 |.v b,d,a=>a=[]/\∃e,d=bO b.1 e/\aT (bj I f) w b.1 e b.2 []
 |.m b _,d,a=>∃e,d=bO b.1 e/\aT (bj I f) w b.1 e b.2 a
 |.o b,d,a=>∃e,d=bO b.1 e/\aT (bj I f) w b.1 e b.2 a
 |.n,d,a=>a=[]/\d=.slice none 0 0
 |.s _ _,_,a=>a=[]
 |.w q h g j _,d,a=>∃k l i,d=.slice (some ⟨k,l+g*q.size,none⟩) (j-g) (i-g)/\(g<j/\j<=h.length/\h.length<=i)/\aT (bj I f) w (.osl q) [.slice (some ⟨k,l,none⟩) h.length i] h a
 |.c r t,d,a=>a=[]/\∃p:adY,d=.func (.func r) #[] p.toArray/\hl (wM I f w) t p
def nZ:Nat->List gh->Option cU
 |_,[]=>none
 |k,.s a b::_=>some (k,a,b)
 |k,_::c=>nZ (k+1) c
def Io (w:World) (b:adY) (i:adT):Option cU->Prop
 |none=>True
 |some (d,h,e)=>d<b.length/\(∀c∈e,c<b.length)/\∃a f g,b.getD d undef=.pointer (some ⟨a,f,none⟩)/\a<w.heap.size/\a∉i.flatten/\w.cell? ⟨a,f,none⟩=some (.func (.func h) #[] g)/\g.toList=e.map λc=>b.getD c undef
def wG (I e:Nat->Prop) (w:World):gh->Value->ad4->Prop
 |.m i n,d,a=>∃g,d=bO i.1 g/\aT (bj I e) w i.1 g n a
 |.w j l b k o,d,a=>∃f h c,d=.slice (some ⟨f,h+b*j.size,none⟩) (k-b) (c-b)/\b<c/\aT (bj I e) w (.osl j) [.slice (some ⟨f,h,none⟩) l.length c] o a
 |_,_,a=>a=[]
def z5 (I:Nat->Prop) (w:World) (a:aH) (d:Value) (c:ad4):Prop:=∃b,d=bO a.1 b/\aT (bj I (λ_=>False)) w a.1 b a.2 c
def o7:adY->Value
 |[v]=>v
 |vs=>.tuple vs.toArray
structure In (I B:Nat->Prop) (w:World) (fs:adT) (args:List gh) (vs:adY) (res:List aH) (I':Nat->Prop) (gs hs:adT) (Y3:adY) (w':World):Prop where
 args:kZ (wG I' B w') args vs gs
 res:kZ (z5 I' w') res Y3 hs
 wd:(gs.flatten++hs.flatten).Nodup
 Jd:∀b∈gs.flatten++hs.flatten,¬I' b/\¬B b/\b<w'.heap.size/\(w.heap.size<=b\/b∈fs.flatten)
 i:∀b,I b->I' b
 i2:∀b,I' b->I b\/(b<w'.heap.size/\(w.heap.size<=b\/b∈fs.flatten))
 size:w.heap.size<=w'.heap.size
 os:w'.os=w.os
 tape:w'.tape=w.tape
 output:w'.output=w.output
 evo:∀b,b<w.heap.size->jv w w' b
 heap:∀b,b<w.heap.size->b∉fs.flatten->w'.heap[b]?=w.heap[b]?
def j2 (E:eh) (I:Nat->Prop) (w:World):Prop:=∀a∈E.glob,aT (bj I λ_=>False) w (.bb .bK (.int a.k)) [.slice (some ⟨a.b,0,none⟩) a.xs.length a.xs.length] a.xs []
def j2.mono {E:eh} {I I':Nat->Prop} {w w':World} (g:j2 E I w) (c:∀a,I a->I' a) (i:∀a,I a->w'.heap[a]?=w.heap[a]?):j2 E I' w':=λf h=>
 (g f h).mono (λe a d=>by
  have b:I a:=(by cases e;exact d;exact d.elim id False.elim);exact⟨by cases e;exact c a b;exact .inl (c a b),bT.of_heap (i a b)⟩) (λa b=>by cases b)
def qD (E:eh) (h:FuncId) (e:List gh) (k:List aH):Prop:=
 ∀(w:World) (I c:Nat->Prop) (d:adY) (b:adT),(∀a,I a\/c a->a<w.heap.size)->kZ (wF I c w) e d b->b.flatten.Nodup->(∀a∈b.flatten,¬I a/\¬c a/\a<w.heap.size)->Io w d b (nZ 0 e)->j2 E I w->Calls E.P h d.toArray w (λg w'=>∃I' i j f,g=.returned (o7 f)/\In I c w b e d k I' i j f w')
def aj.eD:aj->Bool
 |.bb .dt _|.ptr .dt _|.dN .dt _=>false
 |.bb .bK a|.ptr .bK a|.osl a|.optr a|.st a|.mp a|.dN .bK a=>a.eD
 |.pr b c=>b.eD&&c.eD
 |_=>true
def qB:aj->Bool
 |.pr _ _|.nil|.di=>false
 |_=>true
def Yu (b:qB d=true) (c:g.length=d.size) (e:x.length=d.size) (a:bO d g=bO d x):g=x:=by
 have i:d.size=1->bO d g=g.headD undef->bO d x=x.headD undef->g=x:=(by intro h al f;rw[h] at c e;obtain⟨k,rfl⟩:=uN.1 c;obtain⟨l,rfl⟩:=uN.1 e;rw[al,f] at a;simpa using a);cases d with
 |st j=>have a:Value.agg g.toArray=Value.agg x.toArray:=a;simpa using a
 |pr=>cases b
 |nil=>cases b
 |di=>cases b
 |_=>exact i rfl rfl rfl
def si (g:List (Nat×aH)) (f:ad4):ao->aH->Prop
 |.val b i,a=>mK b i a.1 a.2
 |.cv d,a=>hG a.1 d.cells.toList=some a.2/\bO a.1 d.cells.toList=d
 |.ref id h,a=>du id f=false/\∃c b e,au g id=some c/\df c.1 c.2 h b e/\mK b e a.1 a.2
 |_,_=>False
def Pb (b:List (Nat×aH)) (f:ad4):ao->gh->Prop
 |av,.v a=>si b f av a
 |.ref id [],.m a _=>au b id=some a/\a.1.eD=true/\qB a.1=true
 |.ref id [],.o a=>au b id=some a
 |.dv l d,.c k p=>l=k/\hl (si b f) d p
 |.cv e,.o a=>e=.slice none 0 0/\∃r,a=⟨.osl r,[]⟩
 |.cv e,.n=>e=.slice none 0 0
 |.view id [] h g,.w i q d j _=>au b id=some ⟨.osl i,q⟩/\(d=h/\j=g)/\h<g/\i.eD=true
 |_,.s _ _=>True
 |_,_=>False
def nl (c:List (Nat×aH)) (b:ad4):List ao->List gh->Prop
 |[],[]=>True
 |a::as,d::e=>Pb c b a d/\nl c b as e
 |_,_=>False
def eM:List ao->List gh->ad4
 |.ref id []::as,.m _ _::a=>id::eM as a
 |.ref id []::as,.o _::a=>id::eM as a
 |.view id [] _ _::as,.w _ _ _ _ _::a=>id::eM as a
 |_::as,_::a=>eM as a
 |_,_=>[]
def lc:List ao->List gh->ad4
 |.ref id []::as,.m _ _::a=>id::lc as a
 |.view id [] _ _::as,.w _ _ _ _ _::a=>id::lc as a
 |_::as,_::a=>lc as a
 |_,_=>[]
def iI:List ao->List gh->List (Nat×aH)
 |.ref id []::as,.m b c::a=>(id,⟨b.1,c⟩)::iI as a
 |.view id [] _ _::as,.w e _ _ _ d::a=>(id,⟨.osl e,d⟩)::iI as a
 |_::as,_::a=>iI as a
 |_,_=>[]
def qs (a:Nat) (c:Bool) (b:Nat):Nat:=bif c then a else 1000*(a+1)+b
def r4 (b:Nat) (c:Bool):Nat->List aH->List ao
 |_,[]=>[]
 |j,a::d=>(bif a.1.pure then .val a.1 a.2 else .ref (qs b c j) [])::r4 b c (j+1) d
def hO (a:Nat) (b:Bool):Nat->List aH->List (Nat×aH)
 |_,[]=>[]
 |j,d::c=>bif d.1.pure then hO a b (j+1) c else(qs a b j,d)::hO a b (j+1) c
def uk (a:Nat):List aH->ao
 |[t]=>bif t.1.pure then .val t.1 t.2 else .ref a []
 |l=>.dM (r4 a false 0 l)
def hq:List aH->Bool
 |[_]=>true
 |_=>false
def h9:ad4->Bool
 |[]=>true
 |a::b=>!(du a b)&&h9 b
theorem h9.ok:∀{c:ad4},h9 c=true->c.Nodup
 |[],_=>List.nodup_nil
 |a::e,b=>by simp only[h9,bp,wK] at b;exact jC.2 ⟨(λd=>by rw[fG.2 d] at b;cases b.1),h9.ok b.2⟩
def QV (c:Nat) (st:aQ) (b:List ao) (a:List gh) (d:List aH):aQ:=
 ⟨(c,uk c d)::kill (eM b a) (vR (lc b a)) st.g,(iI b a++hO c (hq d) 0 d)++del (eM b a) st.h⟩
theorem aT.eD {I G B':Nat->Prop} {w:World}:∀{τ:aj} {e:adY} {b:τ.den} {f:ad4},τ.eD=true->aT (bj I G) w τ e b f->aT (bj I B') w τ e b f:=by
 intro τ
 induction τ with
 |bb n l h=>
  intro e b f d a;cases n
  ·obtain⟨o,r,s,ax,g,j,k⟩:=a;refine⟨o,r,s,ax,g,j,k.imp id ?_⟩;rintro⟨c,i,N,v,P⟩;refine⟨c,i,N,v,λp D F=>?_⟩;obtain⟨m,H,J,K⟩:=P p D F;exact⟨m,H,J,h (by simpa only[aj.eD] using d) K⟩
  grind [aj.eD]
 |ptr n l h=>
  intro e b f d a;cases n
  ·obtain⟨o,ax⟩:=a;refine⟨o,?_⟩;cases b with
   |none=>exact ax
   |some D=>
    obtain⟨c,i,m,z,A,B,aR,C⟩:=ax;exact⟨c,i,m,z,A,B,aR,h (by grind [aj.eD]) C⟩
  grind [aj.eD]
 |osl l h=>
  intro e b f d a;obtain⟨r,s,ax,g⟩:=a;refine⟨r,s,ax,g.imp id ?_⟩;rintro⟨c,i,M,z,A,B,aR,C,V⟩;refine⟨c,i,M,z,A,B,aR,C,λp D E F U=>?_⟩;grind [aj.eD]
 |optr l h=>
  intro e b f d a;obtain⟨c,i,E,m,ax,g,j,k,y,S⟩:=a;exact⟨c,i,E,m,ax,g,j,k,y,h (by grind [aj.eD]) S⟩
 |st l h=>intro e b f d a;exact h (by grind [aj.eD]) a
 |mp l h=>
  intro e b f d a;cases b with
  |none=>exact a
  |some x=>
   obtain⟨c,t,q,ax,g,u,j,k,y⟩:=a;refine⟨c,t,q,ax,g,u,j,k,λp x O=>?_⟩;grind [aj.eD]
 |dN n l h=>
  intro e b f d a;cases n
  ·cases b with
   |none=>exact a
   |some x=>
    obtain⟨c,t,q,ax,g,u,v,j,k,y⟩:=a;refine⟨c,t,q,ax,g,u,v,j,k,λp x O=>?_⟩;grind [aj.eD]
  grind [aj.eD]
 |pr T c Q R=>
  intro e b f d a;simp only[aj.eD,bp] at d;obtain⟨L,f2,o,ax,g⟩:=a;exact⟨L,f2,o,Q d.1 ax,R d.2 g⟩
 |_=>intro e b f d a;exact a
theorem Li {e f:Type} (c:e->f):∀(b:List (Nat×e)) (a:Nat),au (b.map λd=>(d.1,c d.2)) a=(au b a).map c
 |[],_=>rfl
 |(g,v)::b,a=>by rw[fr,b1,b1,Li c b a];grind
abbrev wZ:=aH×adY×ad4
def fo (rt:Nat->adY):List ao->List gh->adT->List (Nat×wZ)
 |.ref id []::as,.m d e::a,c::b=>(id,(⟨d.1,e⟩,rt id,c))::fo rt as a b
 |.view id [] _ _::as,.w g _ _ _ f::a,c::b=>(id,(⟨.osl g,f⟩,rt id,c))::fo rt as a b
 |_::as,_::a,_::b=>fo rt as a b
 |_,_,_=>[]
def jV (a:Nat) (b:Bool):Nat->List aH->c8->adT->List (Nat×wZ)
 |j,f::e,g::c,h::d=>bif f.1.pure then jV a b (j+1) e c d else(qs a b j,(f,g,h))::jV a b (j+1) e c d
 |_,_,_,_=>[]
theorem M3 {rt:Nat->adY}:∀{as:List ao} {bs:List gh} {gs:adT},gs.length=bs.length->(fo rt as bs gs).map (λf=>(f.1,f.2.1))=iI as bs
 |[],bs,gs,_=>by cases bs<;>cases gs<;>rfl
 |a::as,[],gs,e=>by cases gs with
  |nil=>cases a<;>first|rfl|(rename_i id b;cases b<;>rfl)|(rename_i id b h g;cases b<;>rfl)
  |cons=>cases e
 |a::as,c::bs,[],e=>by cases e
 |a::as,c::bs,i::gs,e=>by
  have d:=M3 (rt:=rt) (as:=as) (bs:=bs) (gs:=gs) (by grind);cases a with
  |ref id b=>cases b with
   |nil=>cases c<;>simp only[fo,iI,fr,d]
   |cons=>cases c<;>simp only[fo,iI,d]
  |view id b h g=>cases b with
   |nil=>cases c<;>simp only[fo,iI,fr,d]
   |cons=>cases c<;>simp only[fo,iI,d]
  |_=>cases c<;>simp only[fo,iI,d]
theorem Dp {d:Nat} {s:Bool}:∀{j:Nat} {res:List aH} {cs:c8} {hs:adT},cs.length=res.length->hs.length=res.length->(jV d s j res cs hs).map (λe=>(e.1,e.2.1))=hO d s j res
 |j,[],cs,hs,a,b=>by cases cs<;>cases hs<;>simp[jV,hO]
 |j,f::c,[],hs,a,b=>by cases a
 |j,f::c,g::cs,[],a,b=>by cases b
 |j,f::c,g::cs,h::hs,a,b=>by have i:=Dp (d:=d) (s:=s) (j:=j+1) (res:=c) (cs:=cs) (hs:=hs) (by grind) (by grind);simp only[jV,hO];grind
section
variable {C:dD} {st:aQ} {A:adW} {w w':World} {I I' B':Nat->Prop} {rt:Nat->adY} {fp:Nat->ad4}
theorem M4 (D:bC C st A w I rt fp) {S:ad4}:∀{avs:List ao} {t:adY} {args:List gh} {gs:adT},hl (bL (bj I C.B) w st.h rt fp) avs t->nl st.h S avs args->kZ (wG I' B' w') args t gs->∀a∈fo rt avs args gs,aT (bj I' C.B) w' a.2.1.1 a.2.2.1 a.2.1.2 a.2.2.2/\a.2.2.1=rt a.1/\a.1∈eM avs args/\∃g,au st.h a.1=some g/\a.2.1.1=g.1
 |[],t,args,gs,l,p,q,a,b=>by cases args<;>cases gs<;>cases b
 |x::i,t,[],gs,l,p,q,a,b=>by cases x<;>exact p.elim
 |x::i,[],d::u,gs,l,p,q,a,b=>l.elim
 |x::i,v::t,d::u,[],l,p,q,a,b=>q.elim
 |av::i,v::t,d::u,X::gs,l,p,q,a,b=>by
  obtain⟨M,Y⟩:=l;obtain⟨J,Z⟩:=p;obtain⟨K,ab⟩:=q;have ad:=M4 D (S:=S) (avs:=i) (args:=u) (gs:=gs) Y Z ab;have e:a∈fo rt i u gs->aT (bj I' C.B) w' a.2.1.1 a.2.2.1 a.2.1.2 a.2.2.2/\a.2.2.1=rt a.1/\a.1∈eM (av::i) (d::u)/\∃g,au st.h a.1=some g/\a.2.1.1=g.1:=by
   intro b;obtain⟨ax,P,r,G⟩:=ad a b;refine⟨ax,P,?_,G⟩;cases av with
   |ref id f=>cases f<;>cases d<;>simp only[eM]<;>first|exact fk _ r|exact r
   |view id f O L=>cases f<;>cases d<;>simp only[eM]<;>first|exact fk _ r|exact r
   |_=>cases d<;>exact r
  cases av with
  |ref id f=>
   cases f with
   |cons s f=>exact e (by cases d<;>exact b)
   |nil=>
    cases d with
    |v g=>exact e b
    |o g=>exact e b
    |c n c1=>exact e b
    |n=>exact e b
    |s bs am=>exact e b
    |w a0 i O L Q=>exact e b
    |m g c2=>
     simp only[fo,dx] at b;rcases b with rfl|b
     ·obtain⟨j,N,F⟩:=J;obtain⟨bd,k,z⟩:=K;cases M with|ref y E=>
      rw[j] at y;cases y;obtain⟨rfl,rfl,rfl⟩:=aW.e1.1 E;have:=Yu F (D.tree id _ j).1.len z.len k;subst this;exact⟨z.eD N,rfl,by simp[eM],g,j,rfl⟩
     grind
  |view id f O L=>
   cases f with
   |cons s f=>exact e (by cases d<;>exact b)
   |nil=>
    cases d with
    |w a0 i am k Q=>
     simp only[fo,dx] at b;rcases b with rfl|b
     ·obtain⟨j,⟨rfl,rfl⟩,N,F⟩:=J;obtain⟨d,o,T,k,bB,z⟩:=K;cases M with
      |kR=>omega
      |view y E ax P r=>
      rename_i cv dl ce R ap an V;rw[j] at y;cases y;obtain⟨al,bl,W⟩:=aW.e1.1 E;simp only[aj.osl.injEq] at al;subst al;obtain⟨a3,a4,G,_⟩:=(D.tree id _ j).1;have H:rt id=[.slice (some ⟨R,ap,none⟩) an V]:=W;rw[G] at H;simp only[gu,Value.slice.injEq,and_true] at H;rw[ah U] at k;simp only[Value.slice.injEq,bS,Addr.mk.injEq,and_true] at k;obtain⟨⟨ci,co⟩,cs,aR⟩:=k;have:rt id=[.slice (some ⟨d,o,none⟩) i.length T]:=(by grind);refine⟨?_,rfl,by simp[eM],_,j,rfl⟩;show aT (bj I' C.B) w' (.osl _) (rt id) Q X;rw[this];exact z.eD F
     grind
    |_=>exact e b
  |_=>exact e (by cases d<;>exact b)
theorem M2 {x:ad4}:∀{as:List ao} {r:List gh} {g:adY} {e:adT},nl st.h x as r->kZ (wG I' B' w') r g e->((fo rt as r e).map (λz=>z.2.2.2)).flatten=e.flatten
 |[],[],g,e,f,d=>by cases g<;>cases e<;>first|rfl|exact d.elim
 |[],q::t,g,e,f,d=>f.elim
 |a::as,[],g,e,f,d=>by cases a<;>exact f.elim
 |a::as,q::t,[],e,f,d=>d.elim
 |a::as,q::t,v::g,[],f,d=>d.elim
 |a::as,q::t,v::g,k::e,f,d=>by
  have y:=M2 (as:=as) f.2 d.2;have l:=f.1;have p:=d.1;rw[j3,<-y];cases q with
  |m u F=>
   cases a with
   |ref id b=>cases b with
    |nil=>grind [List.flatten_cons,fo]
    |cons=>exact l.elim
   |_=>exact l.elim
  |w H E C B G=>
   cases a with
   |view id b i j=>cases b with
    |nil=>grind [List.flatten_cons,fo]
    |cons=>exact l.elim
   |ref id b=>cases b<;>exact l.elim
   |_=>exact l.elim
  |v u=>
   have:k=[]:=p;subst this;cases a with
   |ref id b=>grind [fo]
   |view id b i j=>grind [fo]
   |_=>simp only[fo,hC]
  |o u=>
   have:k=[]:=p;subst this;cases a with
   |ref id b=>grind [fo]
   |view id b i j=>grind [fo]
   |_=>simp only[fo,hC]
  |n=>
   have:k=[]:=p;subst this;cases a with
   |ref id b=>grind [fo]
   |view id b i j=>grind [fo]
   |_=>simp only[fo,hC]
  |s A i=>
   have:k=[]:=p;subst this;cases a with
   |ref id b=>grind [fo]
   |view id b i j=>grind [fo]
   |_=>simp only[fo,hC]
  |c n D=>
   have:k=[]:=p;subst this;cases a with
   |ref id b=>grind [fo]
   |view id b i j=>grind [fo]
   |_=>simp only[fo,hC]
theorem Nz {I:Nat->Prop}:∀{f:List aH} {c:adY} {b:adT},kZ (z5 I w) f c b->∃h:c8,h.length=f.length/\b.length=f.length/\c.length=f.length/\∀(e:Nat) (t:aH) (d:adY) (a:ad4) (g:Value),f[e]?=some t->h[e]?=some d->b[e]?=some a->c[e]?=some g->g=bO t.1 d/\aT (bj I (λ_=>False)) w t.1 d t.2 a
 |[],c,b,a=>by cases c<;>cases b<;>first|exact⟨[],rfl,rfl,rfl,λe t d a g r=>by grind⟩|exact a.elim
 |t::i,[],b,a=>a.elim
 |t::i,g::c,[],a=>a.elim
 |t::i,g::c,p::b,a=>by obtain⟨⟨d,l,u⟩,j⟩:=a;obtain⟨h,v,x,y,s⟩:=Nz j;refine⟨d::h,by grind,by grind,by grind,λe z k q A al m n o=>?_⟩;grind
theorem NB {m:Nat} {n:Bool}:∀{j:Nat} {i:List aH} {c:c8} {d:adT},c.length=i.length->d.length=i.length->∀a∈jV m n j i c d,∃e:Nat,i[e]?=some a.2.1/\c[e]?=some a.2.2.1/\d[e]?=some a.2.2.2
 |j,[],c,d,f,g,a,b=>by cases c<;>cases d<;>simp[jV] at b
 |j,k::h,[],d,f,g,a,b=>by cases f
 |j,k::h,l::c,[],f,g,a,b=>by cases g
 |j,k::h,l::c,q::d,f,g,a,b=>by
  simp only[jV] at b;have s:a∈jV m n (j+1) h c d->∃e,(k::h)[e]?=some a.2.1/\(l::c)[e]?=some a.2.2.1/\(q::d)[e]?=some a.2.2.2:=λb=>(by obtain⟨e,al,o,p⟩:=NB (by grind) (by grind) a b;exact⟨e+1,by rw[py];exact al,by rw[py];exact o,by rw[py];exact p⟩);cases r:k.1.pure
  ·rw[r] at b;simp only[cond_false,dx] at b;rcases b with rfl|b
   ·exact⟨0,rfl,rfl,rfl⟩
   grind
  grind
theorem NA {d:Nat} {s:Bool}:∀{j:Nat} {res:List aH} {cs:c8} {hs:adT},((jV d s j res cs hs).map (λe=>e.2.2.2)).flatten.Sublist hs.flatten
 |j,[],cs,hs=>by simp[jV]
 |j,b::a,[],hs=>by simp[jV]
 |j,b::a,c::cs,[]=>by simp[jV]
 |j,b::a,c::cs,f::hs=>by have g:=NA (d:=d) (s:=s) (j:=j+1) (res:=a) (cs:=cs) (hs:=hs);simp only[jV];grind
theorem IW (o:bC C st A w I rt fp) (g:∀b,C.B b->B' b) (n:∀id a,au st.h id=some a->du id j=false->∀b∈fp id,B' b) (d:bL (bj I C.B) w st.h rt fp L E) {a:aH} (c:si st.h j L a):∃f,E=bO a.1 f/\aT (bj I B') w a.1 f a.2 []:=by
 cases L with
 |val m l=>
  have c:mK m l a.1 a.2:=c;cases d with|val v=>
  exact⟨_,c.st _,c.rep g v ac⟩
 |cv F=>
  obtain⟨ax,z⟩:=c;cases d;grind [oK]
 |ref id y=>
  obtain⟨p,D,m,l,e,u,k⟩:=c;cases d with|ref i s=>
  rw[e] at i;cases i;obtain⟨rfl,x,t,_,r⟩:=o.jO e u s;exact⟨_,k.st _,k.rep g t (λb q=>n id _ e p b (r b q))⟩
 |_=>exact c.elim
def IZ (i:bC C st A w I rt fp) {c:ad4} (f:∀b,C.B b->B' b) (g:∀id l,au st.h id=some l->du id c=false->∀b∈fp id,B' b):∀{d:List ao} {k:adY} {j:List aH},hl (bL (bj I C.B) w st.h rt fp) d k->hl (si st.h c) d j->hl (wM I B' w) j k
 |[],[],[],_,_=>trivial
 |[],_::_,_,a,_=>a.elim
 |_::_,[],_,a,_=>a.elim
 |[],_,_::_,_,a=>a.elim
 |_::_,_,[],_,a=>a.elim
 |_::_,_::_,_::_,a,e=>⟨IW i f g a.1 e.1,IZ i f g a.2 e.2⟩
theorem I2 (r:bC C st A w I rt fp) {S:ad4} (E:∀d,C.B d->B' d) (H:∀id q,au st.h id=some q->du id S=false->∀d∈fp id,B' d):∀{F:List ao} {t:adY} {args:List gh},hl (bL (bj I C.B) w st.h rt fp) F t->nl st.h S F args->∃e,kZ (wF I B' w) args t e/\e.flatten=((eM F args).map fp).flatten
 |[],t,args,i,g=>by cases args with
  |nil=>cases t with
   |nil=>exact⟨[],trivial,rfl⟩
   |cons=>exact i.elim
  |cons=>exact g.elim
 |x::l,t,[],i,g=>by cases x<;>exact g.elim
 |x::l,[],d::u,i,g=>i.elim
 |av::l,v::t,d::u,i,g=>by
  obtain⟨p,i⟩:=i;obtain⟨a,X⟩:=g;obtain⟨e,f,W⟩:=I2 r E H i X;cases d with
  |v q=>
   have D:eM (av::l) (.v q::u)=eM l u:=by cases av<;>first|rfl|(rename_i id b;cases b<;>rfl)|(rename_i id b z D;cases b<;>rfl)
   have a:si st.h S av q:=(by cases av<;>exact a);exact⟨[]::e,⟨⟨rfl,IW r E H p a⟩,f⟩,by grind⟩
  |s V z=>
   have D:eM (av::l) (.s V z::u)=eM l u:=by cases av<;>first|rfl|(rename_i id b;cases b<;>rfl)|(rename_i id b z D;cases b<;>rfl)
   exact⟨[]::e,⟨rfl,f⟩,by grind⟩
  |n=>
   cases av with
   |cv Q=>
    obtain rfl:Q=.slice none 0 0:=a;cases p;exact⟨[]::e,⟨⟨rfl,rfl⟩,f⟩,by grind [eM]⟩
   |ref id b=>cases b<;>exact a.elim
   |_=>exact a.elim
  |c n dl=>
   cases av with
   |dv m z=>
    obtain⟨rfl,a⟩:=a;cases p with|dv bs Y=>
    rename_i an;refine⟨[]::e,⟨⟨rfl,an.toList,rfl,IZ r E H (Ai U (λab R d f W=>Y ab R d f (by grind))) a⟩,f⟩,by grind [eM]⟩
   |ref id b=>cases b<;>exact a.elim
   |_=>exact a.elim
  |w ap l ce bl d0=>
   cases av with
   |view id b z D=>cases b with
    |nil=>
     obtain⟨k,⟨rfl,rfl⟩,J,ad⟩:=a;cases p with
     |kR=>omega
     |view j y ax co cs=>
     rename_i c2 d1 ci K P O L;rw[k] at j;cases j;obtain⟨al,bd,T⟩:=aW.e1.1 y;simp only[aj.osl.injEq] at al;subst al;have N:=(r.tree id _ k).1;have G:rt id=[.slice (some ⟨K,P,none⟩) O L]:=T;have Z:=N;obtain⟨a3,a4,am,c1⟩:=Z;rw[am] at G;simp only[gu,Value.slice.injEq,and_true] at G;have bB:l.length=O:=G.2.1;refine⟨fp id::e,⟨⟨K,P,L,?_,⟨J,U,U⟩,?_⟩,f⟩,by grind [List.flatten_cons,eM]⟩
     ·rw[ah U]
     have:=aT.eD (τ:=.osl ap) (B':=B') ad N;grind
    |cons=>exact a.elim
   |ref id b=>cases b<;>exact a.elim
   |_=>exact a.elim
  |m q ds=>
   cases av with
   |ref id b=>cases b with
    |nil=>
     obtain⟨k,J,_⟩:=a;cases p with|ref j y=>
     rw[k] at j;cases j;obtain⟨rfl,rfl,rfl⟩:=aW.e1.1 y;exact⟨fp id::e,⟨⟨rt id,rfl,(r.tree id _ k).1.eD J⟩,f⟩,by grind [List.flatten_cons,eM]⟩
    |cons=>exact a.elim
   |_=>exact a.elim
  |o q=>
   cases av with
   |ref id b=>cases b with
    |nil=>
     have k:au st.h id=some q:=a;cases p with|ref j y=>
     rw[k] at j;cases j;obtain⟨rfl,rfl,rfl⟩:=aW.e1.1 y;refine⟨fp id::e,⟨⟨rt id,rfl,(r.tree id _ k).1.mono (λm d M=>⟨?_,bT.refl w d⟩) (λd _=>bT.refl w d)⟩,f⟩,by grind [List.flatten_cons,eM]⟩;cases m
     ·exact M
     exact M.imp (λg=>g) (E d)
    |cons=>exact a.elim
   |cv Q=>
    obtain⟨rfl,a0,rfl⟩:=a;cases p;exact⟨[]::e,⟨⟨[.slice none 0 0],rfl,none,0,rfl,.inl ⟨rfl,rfl,rfl,rfl⟩⟩,f⟩,by grind [eM]⟩
   |_=>exact a.elim
end
end
end Go.h2
end
