import Derived.Test.YtkgcbbkodalfmaaGreatDoorQ3
import Derived.Lib.ItoaMem
namespace Go.Proofs.YtkgcbbkodalfmaaGreatDoor
open Go.RowKit
set_option linter.unusedVariables false
set_option linter.unusedSimpArgs false
structure aQ (s:ah.T):Prop where
 pos:(0:Int)≤s.2.1
 le:(s.2.1:Int)≤(s.1.length:Int)
 len:s.1.length≤maxLen
 bytes:∀b ∈ s.1,(0:Int)≤b∧(b:Int)≤255
 seed0:(0:Int)≤s.2.2.1
 seed1:(s.2.2.1:Int)<2147483647
def drawn(n v:Int):Prop:=0≤v∧(v<n∨(n≤1∧v=0))
theorem wT {m n:Int}(hm:0≤m)(hn:0<n):0≤Int.tmod m n∧Int.tmod m n<n:=⟨Int.tmod_nonneg n hm,Int.tmod_lt_of_pos m hn⟩
theorem Yh(s:Int)(h0:0≤s)(h1:s<2147483647):IntKind.i64.wrap (IntKind.i64.wrap (s*48271)+17)=s*48271+17:=by
 rw[wrap_i64 (n:=s*48271) (by omega) (by omega),wrap_i64 (by omega) (by omega)]
def mi(s:Int):Int:=Int.tmod (s*48271+17) 2147483647
theorem ZO(s:Int)(h0:0≤s)(h1:s<2147483647):0≤mi s∧mi s<2147483647:=wT (by omega) (by omega)
theorem OO(s:ah.T)(n:Int)(hs:aQ s):∃(v:Int) (s':ah.T),aa (s,n,())=some (v,s',())∧drawn n v∧aQ s':=by
 obtain⟨l,(p:Int),(c:Int),u⟩:=s
 have p0:0≤p:=hs.pos
 have p1:p≤(l.length:Int):=hs.le
 have pl:l.length≤9223372036854775807:=hs.len
 have c0:0≤c:=hs.seed0
 have c1:c<2147483647:=hs.seed1
 obtain⟨n0,n1⟩:=ZO c c0 c1
 have hw:=Yh c c0 c1
 unfold aa
 by_cases hn:n≤1
 ·exact⟨0,(l,p,c,u),by simp only[decide_eq_true hn],⟨by omega,Or.inr ⟨hn,rfl⟩⟩,hs⟩
 ·have hn0:n≠0:=by omega
  have hnp:0<n:=by omega
  have hdiv:Int.tdiv (mi c) 23=mi c / 23:=Int.tdiv_eq_ediv_of_nonneg n0
  have hw2:IntKind.i64.wrap (mi c / 23)=mi c / 23:=wrap_i64 (by omega) (by omega)
  have hseed:Int.tmod (IntKind.i64.wrap (IntKind.i64.wrap (c*48271)+17)) 2147483647=mi c:=by rw[hw];rfl
  have hnn:(n=0)=False:=by simp[hn0]
  by_cases hp:p<(l.length:Int)
  ·obtain⟨i,rfl⟩:∃i:Nat,p=i:=⟨p.toNat,by omega⟩
   have hi:i<l.length:=by omega
   obtain⟨b0,b1⟩:=hs.bytes l[i] (List.getElem_mem hi)
   have hpn:IntKind.i64.wrap ((i:Int)+1)=((i+1:Nat):Int):=by rw[wrap_i64]<;>omega
   have hpm:IntKind.i64.wrap (((i+1:Nat):Int)-1)=(i:Int):=by rw[wrap_i64]<;>omega
   have hg:aQ (l,((i+1:Nat):Int),mi c,()):=⟨by show(0:Int)≤((i+1:Nat):Int);omega,by show((i+1:Nat):Int)≤(l.length:Int);omega,hs.len,hs.bytes,n0,n1⟩
   have hb:IntKind.i64.wrap l[i]=l[i]:=wrap_i64 (Int.le_trans (by decide) b0) (Int.le_trans b1 (by decide))
   have hsum0:(0:Int)≤mi c / 23+l[i]:=Int.add_nonneg (by omega) b0
   have hsum1:mi c / 23+(l[i]:Int)≤9223372036854775807:=by
    have:=Int.add_le_add (show mi c / 23≤2147483647 by omega) b1
    exact Int.le_trans this (by decide)
   have hws:IntKind.i64.wrap (mi c / 23+l[i])=mi c / 23+l[i]:=wrap_i64 (Int.le_trans (by decide) hsum0) hsum1
   have m1:=wT hsum0 hnp
   have m2:=wT b0 hnp
   simp only[decide_eq_false hn,decide_eq_true hp,hseed,hdiv,hw2,hpn,hpm,am hi,ab,hb,hws,hnn,if_false]
   rcases Bool.eq_false_or_eq_true (decide (n≤256))with h1|h1<;>simp only[h1]
   ·rcases Bool.eq_false_or_eq_true (Int.tmod ((i+1:Nat):Int) 2==0)with h2|h2<;>simp only[h2]
    ·exact⟨_,_,rfl,⟨m2.1,Or.inl m2.2⟩,hg⟩
    ·exact⟨_,_,rfl,⟨m1.1,Or.inl m1.2⟩,hg⟩
   ·exact⟨_,_,rfl,⟨m1.1,Or.inl m1.2⟩,hg⟩
  ·have m1:=wT (m:=mi c / 23) (by omega) hnp
   simp only[decide_eq_false hn,decide_eq_false hp,hseed,hdiv,hw2,hnn,if_false]
   exact⟨_,_,rfl,⟨m1.1,Or.inl m1.2⟩,⟨p0,p1,hs.len,hs.bytes,n0,n1⟩⟩
theorem abo(l:List Int)(hl:l.length≤4096)(hb:∀b ∈ l,(0:Int)≤b∧b≤255):∃s,yH (l,())=some (s,())∧aQ s:=by
 have key:∀(k i:Nat) (c:Int),i+k=l.length→0≤c→c<2147483647→∃s,ac iI (l,(l,(0:Int),c,()),(i:Int),())=some (.inl (s,()))∧aQ s:=by
  intro k
  induction k with
  |zero=>
   intro i c hi h0 h1
   have:i=l.length:=by omega
   subst this
   refine⟨(l,(0:Int),c,()), ?_,⟨Int.le_refl 0,by show(0:Int)≤(l.length:Int);omega,by show l.length≤maxLen;unfold maxLen;omega,hb,h0,h1⟩⟩
   rw[ag]
   simp only[iI,bp]
  |succ k ih=>
   intro i c hi h0 h1
   have h:i<l.length:=by omega
   obtain⟨b0,b1⟩:=hb l[i] (List.getElem_mem h)
   rw[ag]
   simp only[iI,a7 h]
   rcases Bool.eq_false_or_eq_true (decide ((i:Int)<64))with h64|h64<;>simp only[h64]
   ·have hw1:IntKind.i64.wrap (c*53)=c*53:=wrap_i64 (by omega) (by omega)
    have hw2:IntKind.i64.wrap l[i]=l[i]:=wrap_i64 (by omega) (by omega)
    have hw3:IntKind.i64.wrap (c*53+l[i])=c*53+l[i]:=wrap_i64 (by omega) (by omega)
    have m:=wT (m:=c*53+l[i]) (n:=2147483647) (by omega) (by omega)
    simp only[am h,ab,aG h (show l.length≤1099511627776 by omega),hw1,hw2,hw3]
    exact ih (i+1) _ (by omega) m.1 m.2
   ·exact⟨(l,(0:Int),c,()),rfl,⟨Int.le_refl 0,by show(0:Int)≤(l.length:Int);omega,by show l.length≤maxLen;unfold maxLen;omega,hb,h0,h1⟩⟩
 obtain⟨s,hs,hg⟩:=key l.length 0 40009 (by omega) (by omega) (by omega)
 have hs':ac iI (l,(l,(0:Int),(40009:Int),()),(0:Int),())=some (.inl (s,())):=hs
 refine⟨s, ?_,hg⟩
 unfold yH
 simp only[hs']
theorem Vd {s:ah.T}{n:Int}(hs:aQ s):aa (s,n,())≠none:=by
 obtain⟨v,s',h,_⟩:=OO s n hs
 rw[h]
 simp
theorem Px {s:ah.T}{n:Int}{v}(hs:aQ s)(h:aa (s,n,())=some v):drawn n v.1∧aQ (v.2.1.1,v.2.1.2.1,v.2.1.2.2.1,()):=by
 obtain⟨v',s',h',hd,hg⟩:=OO s n hs
 rw[h']at h
 cases h
 exact⟨hd,hg⟩
theorem dB {s:ah.T}(h:aQ s):aQ (s.1,s.2.1,s.2.2.1,()):=h
theorem pick {α:Type}{n v:Int}(l:List α)(hd:drawn n v)(hn:n≤l.length)(h1:1≤l.length):∃y,aq l v=some y∧l[v.toNat]? =some y∧y ∈ l:=by
 obtain⟨h0,h⟩:=hd
 have hv:v.toNat<l.length:=by omega
 refine⟨l[v.toNat], ?_, ?_,List.getElem_mem hv⟩
 ·unfold aq
  rw[if_pos h0,List.getElem?_eq_getElem hv]
 ·rw[List.getElem?_eq_getElem hv]
theorem ZP {α:Type}{n v:Int}{l:List α}(hd:drawn n v)(hn:n≤l.length)(h1:1≤l.length):∃y,aq l v=some y:=by
 obtain⟨y,h2,h3,h4⟩:=pick l hd hn h1
 exact⟨y,h2⟩
theorem sV {α:Type}{n v:Int}{l:List α}(hd:drawn n v)(hn:n≤l.length)(h1:1≤l.length):l[v.toNat]? ≠none:=by
 obtain⟨y,h2,h3,h4⟩:=pick l hd hn h1
 rw[h3];simp
theorem lX {α:Type}{n v:Int}{l:List α}(hd:drawn n v)(hn:n≤l.length)(h1:1≤l.length):aq l v≠none:=by
 obtain⟨y,h⟩:=ZP hd hn h1
 rw[h];simp
theorem ZQ {l:List Int}(hx:Wf (.list (.int .u8)) l):∀b ∈ l,(0:Int)≤b∧b≤255:=by
 intro b hb
 have h1:(Lit.int .u8 b).wf=true:=hx.2 b hb
 simp[Lit.wf,IntKind.min,IntKind.max,IntKind.signed,IntKind.bits]at h1
 omega
end Go.Proofs.YtkgcbbkodalfmaaGreatDoor
namespace Go.Proofs.YtkgcbbkodalfmaaGreatDoor
open Go.RowKit
set_option linter.unusedVariables false
set_option linter.unusedSimpArgs false
theorem Py {s:ah.T}(hs:aQ s):∃y,ip (s,())=some y∧aQ (y.2.1.1,y.2.1.2.1,y.2.1.2.2.1,()):=by
 have hs:=dB hs
 unfold ip
 simp only
 repeat' first
  |exact⟨_,rfl,by assumption⟩
  |(split;(rename_i h;exact absurd h (Vd (by assumption)));rename_i v h;obtain⟨hd,hg⟩:=Px (by assumption) h)
  |split
theorem ZR {s:ah.T}(hs:aQ s):ip (s,())≠none:=by
 obtain⟨y,h,_⟩:=Py hs
 rw[h]
 simp
theorem Wz {s:ah.T}{v}(hs:aQ s)(h:ip (s,())=some v):aQ (v.2.1.1,v.2.1.2.1,v.2.1.2.2.1,()):=by
 obtain⟨y,h',hg⟩:=Py hs
 rw[h']at h
 cases h
 exact hg
theorem Ve {s:ah.T}(hs:aQ s):∃y,mv (s,())=some y∧aQ (y.2.1.1,y.2.1.2.1,y.2.1.2.2.1,()):=by
 have hs:=dB hs
 unfold mv
 simp only[ab]
 split;(rename_i h;exact absurd h (ZR (by assumption)))
 rename_i v h
 have hg:=Wz (by assumption) h
 repeat' first
  |exact⟨_,rfl,by assumption⟩
  |(split;(rename_i h;exact absurd h (Vd (by assumption)));rename_i v h;obtain⟨hd,hg⟩:=Px (by assumption) h)
  |(split;rotate_left;(rename_i h;exact absurd h (lX (by assumption) (by simp) (by simp))))
  |(split;(rename_i h;exact absurd h (sV (by assumption) (by simp) (by simp)));rename_i v h)
  |split
end Go.Proofs.YtkgcbbkodalfmaaGreatDoor
namespace Go.Proofs.YtkgcbbkodalfmaaGreatDoor
open Go.RowKit
set_option linter.unusedVariables false
set_option linter.unusedSimpArgs false
theorem lY {R:Type}(x:Option R):aX x=x:=cW x
theorem abp {n:Int}(h0:0≤n)(h1:n≤255):IntKind.u8.wrap n=n:=by
 simp[IntKind.wrap,IntKind.signed,IntKind.bits]
 omega
abbrev CP(n:Nat):List UInt8:=Lib.decDigits n
theorem Hk {n:Nat}(h:n<10):CP n= [UInt8.ofNat (48+n)]:=by
 show Lib.decDigits n=_
 rw[Lib.decDigits,dif_pos h]
theorem Vf {n:Nat}(h:¬n<10):CP n=CP (n / 10)++ [UInt8.ofNat (48+n % 10)]:=by
 show Lib.decDigits n=_
 rw[Lib.decDigits,dif_neg h]
theorem CQ(k:Nat)(h:k<10):List.map (fun n=>UInt8.ofNat (Int.toNat n)) ([(IntKind.u8.wrap (IntKind.i64.wrap ((48:Int)+(k:Int))))]:List Int)= [UInt8.ofNat (48+k)]:=by
 rw[wrap_i64 (by omega) (by omega),abp (by omega) (by omega)]
 have:Int.toNat ((48:Int)+(k:Int))=48+k:=by omega
 simp[this]
theorem OP:∀(i n:Nat),n<10^(i+1)→(CP n).length≤i+1
 |0,n,h=>by rw[Hk (by simpa using h)];simp
 |i+1,n,h=>by
  by_cases hn:n<10
  ·rw[Hk hn];simp
  ·rw[Vf hn]
   have:=OP i (n / 10) (by rw[Nat.pow_succ]at h;omega)
   simp
   omega
theorem Yi:∀(i n:Nat),i≤1000→n<10^(i+1)→n≤9223372036854775807→kr (i+1) ((n:Int),())=some (CP n,())
 |0,n,_,h,_=>by
  have hn:n<10:=by simpa using h
  have e:kr (0+1) ((n:Int),())=ka (kr 0) ((n:Int),()):=rfl
  have hd:decide ((n:Int)<10)=true:=by simp;omega
  rw[e,Hk hn]
  unfold ka
  simp only[hd,CQ n hn]
 |i+1,n,hi,h,hb=>by
  have e:kr (i+1+1) ((n:Int),())=ka (kr (i+1)) ((n:Int),()):=rfl
  rw[e]
  unfold ka
  by_cases hn:n<10
  ·have hd:decide ((n:Int)<10)=true:=by simp;omega
   rw[Hk hn]
   simp only[hd,CQ n hn]
  ·have hd:decide ((n:Int)<10)=false:=by simp;omega
   have hlt:n / 10<10^(i+1):=by rw[Nat.pow_succ]at h;omega
   have h1:IntKind.i64.wrap (Int.tdiv (n:Int) (10:Int))=((n / 10:Nat):Int):=by
    have:Int.tdiv (n:Int) (10:Int)=((n / 10:Nat):Int):=rfl
    rw[this,wrap_i64]<;>omega
   have h2:Int.tmod (n:Int) (10:Int)=((n % 10:Nat):Int):=rfl
   have h3:=CQ (n % 10) (by omega)
   have h4:=OP i (n / 10) hlt
   rw[Vf hn]
   simp only[hd,h1,h2,h3,Yi i (n / 10) (by omega) hlt (by omega),lY,cW]
   rw[aA (by simp only[List.length_cons,List.length_nil];omega)]
theorem adv(n:Nat)(h:n≤4294967295):kr 100 ((n:Int),())=some (CP n,()):=Yi 99 n (by decide) (Nat.lt_of_lt_of_le (show n<10^10 by omega) (Nat.pow_le_pow_right (by decide) (by decide))) (by omega)
theorem Yj(n:Nat)(h:n≤4294967295):(CP n).length≤10:=OP 9 n (by omega)
end Go.Proofs.YtkgcbbkodalfmaaGreatDoor
namespace Go.Proofs.YtkgcbbkodalfmaaGreatDoor
open Go.RowKit
set_option linter.unusedVariables false
set_option linter.unusedSimpArgs false
theorem ce {α:Type}{o:Option α}{Q:α→Prop}(h:∃y,o=some y∧Q y):o≠none:=by
 obtain⟨y,e,_⟩:=h
 rw[e];simp
theorem bo {α:Type}{o:Option α}{Q:α→Prop}{v:α}(h:∃y,o=some y∧Q y)(e:o=some v):Q v:=by
 obtain⟨y,e',q⟩:=h
 rw[e']at e
 cases e
 exact q
theorem az {s:ah.T}{n:Int}(hs:aQ s):∃y,aa (s,n,())=some y∧(drawn n y.1∧aQ (y.2.1.1,y.2.1.2.1,y.2.1.2.2.1,())):=by
 obtain⟨v,s',h,hd,hg⟩:=OO s n hs
 exact⟨_,h,hd,hg⟩
theorem Pz {X O:Type}{B:X→Option (X ⊕ O)}(I:Nat→X→Prop)(Q:O→Prop)(h0:∀x,I 0 x→∃o,B x=some (.inr o)∧Q o)(hs:∀n x,I (n+1) x→∃y,B x=some y∧(match y with| .inl x'=>I n x'| .inr _=>False)):
  ∀n x,I n x→∃o,ac B x=some o∧Q o
 |0,x,h=>by
  obtain⟨o,h1,h2⟩:=h0 x h
  exact⟨o,by rw[ag,h1],h2⟩
 |n+1,x,h=>by
  obtain⟨y,h1,h2⟩:=hs n x h
  cases y with
  |inr o=>exact h2.elim
  |inl x'=>
   obtain⟨o,h3,h4⟩:=Pz I Q h0 hs n x' h2
   exact⟨o,by rw[ag,h1];exact h3,h4⟩
theorem WA {k:Nat}(hk:k≤1000000):IntKind.i64.wrap (((k+1:Nat):Int)-1)=(k:Int):=by rw[wrap_i64]<;>omega
theorem WB(k:Nat):decide (((k+1:Nat):Int)>0)=true:=by simp
theorem WC:decide (((0:Nat):Int)>0)=false:=by simp
theorem dC {n v:Int}(h:drawn n v)(hn:1≤n):∃k:Nat,v=k∧(k:Int)<n:=by
 obtain⟨h0,h1⟩:=h
 exact⟨v.toNat,by omega,by omega⟩
def rO(v:au.T):Prop:=0≤(v.1:Int)∧(v.1:Int)≤31∧v.2.1.length≤20
theorem Uo(n:Nat)(hn:n≤4)(x)(h0:(x.2.2.2.1:Int)=(n:Nat))(hg:aQ x.1)(hl:x.2.1.length+n≤4)(h1:1≤x.2.1.length+n)(hid:0≤(x.2.2.1:Int))(hid2:(x.2.2.1:Int)+3*n≤20)(hp:∀v ∈ x.2.1,rO v):
  ∃o,ac iJ x=some (.inl o)∧(aQ o.1∧o.2.1.length≤4∧1≤o.2.1.length∧∀v ∈ o.2.1,rO v):=by
 obtain⟨o,h2,h3⟩:=Pz (B:=iJ) (fun k x=>(x.2.2.2.1:Int)=(k:Nat)∧aQ x.1∧x.2.1.length+k≤4∧1≤x.2.1.length+k∧0≤(x.2.2.1:Int)∧(x.2.2.1:Int)+3*k≤20∧∀v ∈ x.2.1,rO v) (fun o=>match o with
  | .inl v=>aQ v.1∧v.2.1.length≤4∧1≤v.2.1.length∧∀u ∈ v.2.1,rO u
  | .inr _=>False) (fun x ⟨hk,hg,hl,h1,hi,hi2,hp⟩=>by
    unfold iJ
    rw[hk]
    simp only[WC]
    exact⟨_,rfl,hg,by omega,by omega,hp⟩) (fun k x ⟨hk,hg,hl,h1,hi,hi2,hp⟩=>by
    obtain⟨s,l,(id:Int),(c:Int),⟨⟩⟩:=x
    have hg:=dB hg
    have hk:c=((k+1:Nat):Int):=hk
    have hi:0≤id:=hi
    have hi2:id+3*((k+1:Nat):Int)≤20:=hi2
    have hl:l.length+(k+1)≤4:=hl
    have hp:∀v ∈ l,rO v:=hp
    obtain⟨j,rfl⟩:∃j:Nat,id=(j:Int):=⟨id.toNat,by omega⟩
    have hjl:j≤20:=by omega
    have hdec:kr 100 ((j:Int),())=some (CP j,()):=adv j (by omega)
    have hlen:(CP j).length≤10:=Yj j (by omega)
    subst hk
    unfold iJ
    rw[WA (by omega)]
    simp only[WB,hdec]
    rw[aA (by simp;omega)]
    (split;(rename_i h;exact absurd h (ce (az (by assumption))));rename_i v h;obtain⟨hd,hg⟩:=bo (az (by assumption)) h)
    (split;(rename_i h;exact absurd h (ce (az (by assumption))));rename_i v h;obtain⟨hd,hg⟩:=bo (az (by assumption)) h)
    rw[aA (by simp;omega)]
    split;(rename_i h;exact absurd h (ce (az (by assumption))))
    rename_i v6 h6
    obtain⟨hd6,hg6⟩:=bo (az (by assumption)) h6
    obtain⟨d,hd,hd3⟩:=dC hd6 (by omega)
    have e1:IntKind.i64.wrap ((j:Int)+1)=(j:Int)+1:=wrap_i64 (by omega) (by omega)
    have e2:IntKind.i64.wrap ((j:Int)+1+(d:Int))=(j:Int)+1+(d:Int):=wrap_i64 (by omega) (by omega)
    rw[hd,e1,e2]
    refine⟨_,rfl,rfl,hg6,by simp;omega,by simp;omega,by show(0:Int)≤(j:Int)+1+(d:Int);omega,by show(j:Int)+1+(d:Int)+3*(k:Int)≤20;omega,fun u hu=> ?_⟩
    rcases List.mem_append.1 hu with hu|hu
    ·exact hp u hu
    ·simp only[List.mem_singleton]at hu
     subst hu
     exact⟨by show(0:Int)≤(j:Int);omega,by show(j:Int)≤31;omega,by simp;omega⟩) n x ⟨h0,hg,hl,h1,hid,hid2,hp⟩
 cases o with
 |inr v=>exact h3.elim
 |inl v=>exact⟨v,h2,h3⟩
theorem MQ {s:ah.T}(hs:aQ s):∃y,tE (s,())=some y∧(aQ (y.2.1.1,y.2.1.2.1,y.2.1.2.2.1,())∧y.1.length≤4∧1≤y.1.length∧∀v ∈ y.1,rO v):=by
 have hs:=dB hs
 unfold tE
 split;(rename_i h;exact absurd h (ce (az (by assumption))))
 rename_i v1 h1
 obtain⟨hd1,hg1⟩:=bo (az (by assumption)) h1
 split;(rename_i h;exact absurd h (ce (az (by assumption))))
 rename_i v2 h2
 obtain⟨hd2,hg2⟩:=bo (az (by assumption)) h2
 obtain⟨a,ha,ha2⟩:=dC hd1 (by omega)
 obtain⟨b,hb,hb2⟩:=dC hd2 (by omega)
 have e:IntKind.i64.wrap ((1:Int)+(b:Int))=((b+1:Nat):Int):=by rw[wrap_i64]<;>omega
 rw[ha,hb,e]
 obtain⟨o,h3,h4⟩:=Uo (b+1) (by omega) ((v2.2.1.1,v2.2.1.2.1,v2.2.1.2.2.1,()),[],(a:Int),((b+1:Nat):Int),()) rfl hg2 (by simp;omega) (by simp) (by show(0:Int)≤(a:Int);omega) (by show(a:Int)+3*((b+1:Nat):Int)≤20;omega) (fun v hv=>by cases hv)
 simp only[h3]
 exact⟨_,rfl,h4⟩
def yj(l:List au.T):Prop:=l.length≤100∧∀v ∈ l,v.2.1.length≤100
theorem WD:yj []:=⟨Nat.zero_le _,fun v hv=>by cases hv⟩
theorem CS {l:List au.T}{k:Nat}{u:au.T}(h:yj l)(hu:u.2.1.length≤100):yj (l.set k u):=by
 refine⟨by rw[List.length_set];exact h.1,fun v hv=> ?_⟩
 rcases List.mem_or_eq_of_mem_set hv with hv|rfl
 ·exact h.2 v hv
 ·exact hu
theorem PA {s:ah.T}(hs:aQ s):∃y,qE (s,())=some y∧(aQ (y.2.1.1,y.2.1.2.1,y.2.1.2.2.1,())∧yj y.1):=by
 have hs:=dB hs
 unfold qE
 simp only[ab]
 split;(rename_i h;exact absurd h (ce (MQ (by assumption))))
 rename_i v1 h1
 obtain⟨hg1,hl1,hp1,hn1⟩:=bo (MQ (by assumption)) h1
 have hS:yj v1.1:=⟨by omega,fun v hv=>by have:=(hn1 v hv).2.2;omega⟩
 have hm:∀ {k:Nat} {u:au.T},v1.1[k]? =some u→u.2.1.length≤100:=fun h=>hS.2 _ (List.mem_of_getElem? h)
 have hnames:∀ {k:Nat} {u:List UInt8},[[],([115,101,118,101,110,110,55]:List UInt8),([115,105,120,120,120,54]:List UInt8),([78,49]:List UInt8),([110,48]:List UInt8)][k]? =some u→u.length≤100:=fun h=>by
  have:=List.mem_of_getElem? h
  simp only[List.mem_cons,List.not_mem_nil,or_false]at this
  rcases this with rfl|rfl|rfl|rfl|rfl<;>simp
 (split;(rename_i h;exact absurd h (ce (az (by assumption))));rename_i v h;obtain⟨hd,hg⟩:=bo (az (by assumption)) h)
 (split;(rename_i h;exact absurd h (ce (az (by assumption))));rename_i v h;obtain⟨hd,hg⟩:=bo (az (by assumption)) h)
 repeat' first
  |exact⟨_,rfl,by assumption,by assumption⟩
  |exact⟨_,rfl,by assumption,WD⟩
  |exact⟨_,rfl,by assumption,CS hS (hnames (by assumption))⟩
  |exact⟨_,rfl,by assumption,CS hS (hm (by assumption))⟩
  |exact⟨_,rfl,by assumption,CS hS (show v.2.1.length≤100 from hm h)⟩
  |(rw[aA (by simp;omega)];refine⟨_,rfl,by assumption,by simp;omega,fun v hv=> ?_⟩;rcases List.mem_append.1 hv with hv|hv;exact hS.2 v hv;(simp only[List.mem_singleton]at hv;subst hv;first|exact hm (by assumption)|exact(show v.2.1.length≤100 from hm h)|exact hm h))
  |(split;(rename_i h;exact absurd h (ce (az (by assumption))));rename_i v h;obtain⟨hd,hg⟩:=bo (az (by assumption)) h)
  |(first|(split;rotate_left;(rename_i h;exact absurd h (lX (by assumption) (by simp) (by first|assumption|simp))))|(split;(rename_i h;exact absurd h (sV (by assumption) (by simp) (by first|assumption|simp)));rename_i v h))
  |split
def ut(l:List ay.T):Prop:=l.length≤100∧∀v ∈ l,v.2.2.1.length≤100
theorem WE:ut []:=⟨Nat.zero_le _,fun v hv=>by cases hv⟩
theorem WF {n:Nat}{u:ay.T}(h:n≤100)(hu:u.2.2.1.length≤100):ut (List.replicate n u):=⟨by rw[List.length_replicate];exact h,fun v hv=>by rw[List.eq_of_mem_replicate hv];exact hu⟩
theorem ve {i n:Int}(h:i<n):decide (i<n)=true:=decide_eq_true h
theorem z8 {i n:Int}(h:¬i<n):decide (i<n)=false:=decide_eq_false h
theorem Kw {i n:Int}(h0:0≤i)(h:i<n)(hn:n≤1000000):IntKind.i64.wrap (i+1)=i+1:=wrap_i64 (by omega) (by omega)
def Yk(l:List ay.T):Prop:=∀v ∈ l,v.2.2.1.length≤10
theorem zw(out:List ay.T)(c i:Int)(hc:c≤10):∀(k:Nat) (s:ah.T) (nx:List Int) (j:Int),aQ s→0≤j→j+(k:Int)=c→nx.length+k≤10→
  ∃(s':ah.T) (nx':List Int),ac gC (s,out,c,i,nx,j,())=some (.inl (s',out,c,i,nx',()))∧aQ s'∧nx'.length≤10
 |0,s,nx,j,hs,h0,hk,hl=>by
  refine⟨s,nx, ?_,hs,by omega⟩
  rw[ag]
  simp only[gC,z8 (show ¬j<c by omega)]
 |k+1,s,nx,j,hs,h0,hk,hl=>by
  have hw:IntKind.i64.wrap (j+1)=j+1:=Kw h0 (n:=c) (by omega) (by omega)
  obtain⟨y,hy,hd,hg⟩:=az (n:=2) hs
  have hy:aa ((s.1,s.2.1,s.2.2.1,()),(2:Int),())=some y:=hy
  have hr:∀ {R:Type} (q:Option R),aI (nx.length+ [j].length) q=q:=fun q=>aA (by simp;omega)
  by_cases hj:(j != i)=true
  ·by_cases hz:(y.1==(0:Int))=true
   ·obtain⟨s',nx',h1,h2,h3⟩:=zw out c i hc k (y.2.1.1,y.2.1.2.1,y.2.1.2.2.1,()) (nx++ [j]) (j+1) hg (by omega) (by omega) (by simp;omega)
    refine⟨s',nx', ?_,h2,h3⟩
    rw[ag]
    simp only[gC,ve (show j<c by omega),hj,hy,hz,hr,hw]
    exact h1
   ·have hz:(y.1==(0:Int))=false:=by simpa using hz
    obtain⟨s',nx',h1,h2,h3⟩:=zw out c i hc k (y.2.1.1,y.2.1.2.1,y.2.1.2.2.1,()) nx (j+1) hg (by omega) (by omega) (by omega)
    refine⟨s',nx', ?_,h2,h3⟩
    rw[ag]
    simp only[gC,ve (show j<c by omega),hj,hy,hz,hw]
    exact h1
  ·have hj:(j != i)=false:=by simpa using hj
   obtain⟨s',nx',h1,h2,h3⟩:=zw out c i hc k (s.1,s.2.1,s.2.2.1,()) nx (j+1) (dB hs) (by omega) (by omega) (by omega)
   refine⟨s',nx', ?_,h2,h3⟩
   rw[ag]
   simp only[gC,ve (show j<c by omega),hj,hw]
   exact h1
theorem IV(c:Int)(hc:c≤10):∀(k:Nat) (s:ah.T) (l:List ay.T) (i:Int),aQ s→0≤i→i+(k:Int)=c→l.length+k≤10→Yk l→
  ∃(s':ah.T) (l':List ay.T),ac jW (s,l,c,i,())=some (.inl (s',l',()))∧aQ s'∧Yk l'∧l'.length=l.length+k
 |0,s,l,i,hs,h0,hk,hl,hm=>by
  refine⟨s,l, ?_,hs,hm,rfl⟩
  rw[ag]
  simp only[jW,z8 (show ¬i<c by omega)]
 |k+1,s,l,i,hs,h0,hk,hl,hm=>by
  have hw:IntKind.i64.wrap (i+1)=i+1:=Kw h0 (n:=c) (by omega) (by omega)
  obtain⟨s1,nx,e1,hg1,hn⟩:=zw l c i hc c.toNat (s.1,s.2.1,s.2.2.1,()) [] 0 (dB hs) (by omega) (by omega) (by show 0+c.toNat≤10;omega)
  obtain⟨y,hy,hd,hg⟩:=az (n:=3) hg1
  have hy:aa ((s1.1,s1.2.1,s1.2.2.1,()),(3:Int),())=some y:=hy
  obtain⟨z,hz,hd2,hg2⟩:=az (n:=4) hg
  have hr:∀ {R:Type} (u:ay.T) (q:Option R),aI (l.length+ [u].length) q=q:=fun u q=>aA (by simp;omega)
  obtain⟨s',l',h1,h2,h3,h4⟩:=IV c hc k (z.2.1.1,z.2.1.2.1,z.2.1.2.2.1,()) (l++ [((IntKind.i64.wrap ((1:Int)+y.1)),(IntKind.i64.wrap ((1:Int)+z.1)),nx,())]) (i+1) hg2 (by omega) (by omega) (by simp;omega) (fun v hv=>by
   rcases List.mem_append.1 hv with hv|hv
   ·exact hm v hv
   ·simp only[List.mem_singleton]at hv
    subst hv
    exact hn)
  refine⟨s',l', ?_,h2,h3,by rw[h4];simp;omega⟩
  rw[ag]
  simp only[jW,ve (show i<c by omega),e1,hy,hz,hr,hw]
  exact h1
theorem Yl {s:ah.T}(hs:aQ s):∃y,yM (s,())=some y∧(aQ (y.2.1.1,y.2.1.2.1,y.2.1.2.2.1,())∧(∀v ∈ y.1,v.2.2.1.length≤10)∧1≤y.1.length∧y.1.length≤10):=by
 have hs:=dB hs
 unfold yM
 split;(rename_i h;exact absurd h (ce (az (by assumption))))
 rename_i v1 h1
 obtain⟨hd1,hg1⟩:=bo (az (by assumption)) h1
 obtain⟨a,ha,ha2⟩:=dC hd1 (by omega)
 have e:IntKind.i64.wrap ((1:Int)+(a:Int))=(1:Int)+(a:Int):=wrap_i64 (by omega) (by omega)
 rw[ha,e]
 obtain⟨s2,l2,h3,h4,h5,h6⟩:=IV ((1:Int)+(a:Int)) (by omega) (a+1) (v1.2.1.1,v1.2.1.2.1,v1.2.1.2.2.1,()) [] 0 hg1 (by omega) (by omega) (by simp;omega) (fun v hv=>by cases hv)
 simp only[h3]
 have h6:l2.length=0+(a+1):=h6
 exact⟨_,rfl,dB h4,h5,by show 1≤l2.length;omega,by show l2.length≤10;omega⟩
theorem MS {l:List ay.T}{k:Nat}{u:ay.T}(h:ut l)(hu:u.2.2.1.length≤100):ut (l.set k u):=by
 refine⟨by rw[List.length_set];exact h.1,fun v hv=> ?_⟩
 rcases List.mem_or_eq_of_mem_set hv with hv|rfl
 ·exact h.2 v hv
 ·exact hu
theorem Ym(x):∃z,eA x=some (z,()):=by
 have hb:∀a b:Int,∃z,jV (a,b,())=some (z,()):=fun a b=>by
  unfold jV dP
  simp only[ui]
  rcases Bool.eq_false_or_eq_true (a != (0:Int))with h|h<;>rcases Bool.eq_false_or_eq_true (dn a)with h2|h2<;>simp only[h,h2]<;>exact⟨_,rfl⟩
 obtain⟨z,hz⟩:=hb x.1 x.2.1
 unfold eA
 simp only[hz]
 exact⟨_,rfl⟩
theorem S5 {s:ah.T}(hs:aQ s):∃y,pX (s,())=some y∧aQ (y.2.1.1,y.2.1.2.1,y.2.1.2.2.1,()):=by
 have hs:=dB hs
 have hc:∀a b:Int,∃z,eA (a,b,())=some (z,()):=fun a b=>Ym _
 have hdt:∀a:Int,∃b,fZ (a,())=some (b,()):=fun a=>by
  unfold fZ
  split<;>exact⟨_,rfl⟩
 unfold pX
 simp only
 (split;(rename_i h;exact absurd h (ce (az (by assumption))));rename_i v h;obtain⟨hd,hg⟩:=bo (az (by assumption)) h)
 (split;(rename_i h;exact absurd h (ce (az (by assumption))));rename_i v h;obtain⟨hd,hg⟩:=bo (az (by assumption)) h)
 (split;(rename_i h;exact absurd h (ce (az (by assumption))));rename_i v h;obtain⟨hd,hg⟩:=bo (az (by assumption)) h)
 split
 ·rename_i h
  exact absurd h (by obtain⟨b,e⟩:=hdt _;rw[e];simp)
 repeat' first
  |exact⟨_,rfl,by assumption⟩
  |(split;(rename_i h;exact absurd h (by obtain⟨b,e⟩:=hc _ _;rw[e];simp)))
  |(split;(rename_i h;exact absurd h (ce (az (by assumption))));rename_i v h;obtain⟨hd,hg⟩:=bo (az (by assumption)) h)
  |split
theorem PB {s:ah.T}(hs:aQ s):∃y,qG (s,())=some y∧aQ (y.2.1.1,y.2.1.2.1,y.2.1.2.2.1,()):=by
 have hs:=dB hs
 have hc:∀x,∃z,eA x=some (z,()):=fun x=>Ym x
 unfold qG
 simp only[ab]
 split;(rename_i h;exact absurd h (ce (S5 (by assumption))))
 rename_i v1 h1
 have hg1:=bo (S5 (by assumption)) h1
 repeat' first
  |exact⟨_,rfl,by assumption⟩
  |(split;(rename_i h;exact absurd h (by obtain⟨b,e⟩:=hc _;rw[e];simp)))
  |(split;(rename_i h;exact absurd h (ce (az (by assumption))));rename_i v h;obtain⟨hd,hg⟩:=bo (az (by assumption)) h)
  |(first|(split;rotate_left;(rename_i h;exact absurd h (lX (by assumption) (by simp) (by first|assumption|simp))))|(split;(rename_i h;exact absurd h (sV (by assumption) (by simp) (by first|assumption|simp)));rename_i v h))
  |split
end Go.Proofs.YtkgcbbkodalfmaaGreatDoor
namespace Go.Proofs.YtkgcbbkodalfmaaGreatDoor
open Go.RowKit
set_option linter.unusedVariables false
set_option linter.unusedSimpArgs false
theorem Vg(m0:an.T)(nodes:List au.T)(act:List Int)(modes:List ay.T)(slots:List al.T)(c mo r n:Int)(nx:List Int)(hn:n≤1000):∀(k:Nat) (s:ah.T) (durs:List Int) (j:Int),aQ s→0≤j→j+(k:Int)=n→(durs.length:Int)=j→
  ∃s' d',ac f3 (s,m0,nodes,act,modes,slots,c,mo,(r,n,nx,()),durs,j,())=some (.inl (s',m0,nodes,act,modes,slots,c,mo,(r,n,nx,()),d',()))∧aQ s'∧(d'.length:Int)=n
 |0,s,durs,j,hs,h0,hk,hl=>by
  refine⟨s,durs, ?_,hs,by omega⟩
  rw[ag]
  simp only[f3,z8 (show ¬j<n by omega)]
 |k+1,s,durs,j,hs,h0,hk,hl=>by
  obtain⟨y,hy,hd,hg⟩:=az (n:=100) hs
  have hy:aa ((s.1,s.2.1,s.2.2.1,()),(100:Int),())=some y:=hy
  obtain⟨s',d',h1,h2,h3⟩:=Vg m0 nodes act modes slots c mo r n nx hn k (y.2.1.1,y.2.1.2.1,y.2.1.2.2.1,()) (durs++ [(IntKind.i64.wrap ((260:Int)+y.1))]) (j+1) hg (by omega) (by omega) (by simp;omega)
  refine⟨s',d', ?_,h2,h3⟩
  rw[ag]
  simp only[f3,ve (show j<n by omega),hy,Kw h0 (show j<n by omega) (by omega)]
  rw[aA (by simp;omega)]
  exact h1
theorem ZS {α:Type}{l:List α}{j:Int}(h0:0≤j)(hl:1≤l.length):∃y,aq l (Int.tmod j (l.length:Int))=some y∧l[(Int.tmod j (l.length:Int)).toNat]? =some y:=by
 have h:=wT (m:=j) (n:=(l.length:Int)) h0 (by omega)
 have hlt:(Int.tmod j (l.length:Int)).toNat<l.length:=by omega
 refine⟨l[(Int.tmod j (l.length:Int)).toNat], ?_,List.getElem?_eq_getElem hlt⟩
 unfold aq
 rw[if_pos h.1,List.getElem?_eq_getElem hlt]
theorem ac2 {α:Type}{l:List α}{j:Int}(h0:0≤j)(hl:j<(l.length:Int)):∃y,aq l j=some y∧l[j.toNat]? =some y:=by
 have hlt:j.toNat<l.length:=by omega
 refine⟨l[j.toNat], ?_,List.getElem?_eq_getElem hlt⟩
 unfold aq
 rw[if_pos h0,List.getElem?_eq_getElem hlt]
theorem S6(m0:an.T)(nodes:List au.T)(act:List Int)(modes:List ay.T)(c mo r n:Int)(nx durs:List Int)(rd:Int)(hn:n≤1000)(ha:1≤act.length)(ha2:act.length≤1000)(hd:(durs.length:Int)=n):∀(k:Nat) (s:ah.T) (slots:List al.T) (j:Int),aQ s→0≤j→j+(k:Int)=n→slots.length+k≤100000→
  ∃s' slots',ac eY (s,m0,nodes,act,modes,slots,c,mo,(r,n,nx,()),durs,rd,j,())=some (.inl (s',m0,nodes,act,modes,slots',c,mo,(r,n,nx,()),durs,rd,()))∧aQ s'∧slots'.length=slots.length+k
 |0,s,slots,j,hs,h0,hk,hl=>by
  refine⟨s,slots, ?_,hs,by omega⟩
  rw[ag]
  simp only[eY,z8 (show ¬j<n by omega)]
 |k+1,s,slots,j,hs,h0,hk,hl=>by
  obtain⟨y,hy,hg⟩:=S5 hs
  have hy:pX ((s.1,s.2.1,s.2.2.1,()),())=some y:=hy
  obtain⟨z,hz1,hz2⟩:=ZS (l:=act) h0 ha
  obtain⟨d,hd1,hd2⟩:=ac2 (l:=durs) h0 (by omega)
  have hne:((act.length:Int)=0)=False:=by
   have:¬((act.length:Int)=0):=by omega
   simp only[this]
  have key:∀u:al.T,∃s' slots',ac eY ((y.2.1.1,y.2.1.2.1,y.2.1.2.2.1,()),m0,nodes,act,modes,slots++ [u],c,mo,(r,n,nx,()),durs,rd,j+1,())=some (.inl (s',m0,nodes,act,modes,slots',c,mo,(r,n,nx,()),durs,rd,()))∧aQ s'∧slots'.length=slots.length+(k+1):=fun u=>by
   obtain⟨s',slots',h1,h2,h3⟩:=S6 m0 nodes act modes c mo r n nx durs rd hn ha ha2 hd k (y.2.1.1,y.2.1.2.1,y.2.1.2.2.1,()) (slots++ [u]) (j+1) hg (by omega) (by omega) (by simp;omega)
   exact⟨s',slots',h1,h2,by rw[h3];simp;omega⟩
  have hr:∀ {R:Type} (u:al.T) (q:Option R),aI (slots.length+ [u].length) q=q:=fun u q=>aA (by simp;omega)
  have hB:∃u,eY (s,m0,nodes,act,modes,slots,c,mo,(r,n,nx,()),durs,rd,j,())=some (.inl ((y.2.1.1,y.2.1.2.1,y.2.1.2.2.1,()),m0,nodes,act,modes,slots++ [u],c,mo,(r,n,nx,()),durs,rd,j+1,())):=by
   simp only[eY,ve (show j<n by omega),hy,hz1,hz2,hd1,hd2,ab,hne,if_false,Kw h0 (show j<n by omega) (by omega),hr]
   repeat' first
    |exact⟨_,rfl⟩
    |split
  obtain⟨u,hB⟩:=hB
  obtain⟨s',slots',h1,h2,h3⟩:=key u
  refine⟨s',slots', ?_,h2,h3⟩
  rw[ag,hB]
  exact h1
theorem PC(m0:an.T)(nodes:List au.T)(act:List Int)(modes:List ay.T)(c mo r n:Int)(nx durs:List Int)(hn:n≤1000)(hn0:0≤n)(hr:r≤10)(ha:1≤act.length)(ha2:act.length≤1000)(hd:(durs.length:Int)=n):∀(k:Nat) (s:ah.T) (slots:List al.T) (rd:Int),aQ s→0≤rd→rd+(k:Int)=r→slots.length+k*1000≤100000→
  ∃s' slots',ac f4 (s,m0,nodes,act,modes,slots,c,mo,(r,n,nx,()),durs,rd,())=some (.inl (s',m0,nodes,act,modes,slots',c,mo,()))∧aQ s'∧slots'.length=slots.length+k*n.toNat
 |0,s,slots,rd,hs,h0,hk,hl=>by
  refine⟨s,slots, ?_,hs,by omega⟩
  rw[ag]
  simp only[f4,z8 (show ¬rd<r by omega)]
 |k+1,s,slots,rd,hs,h0,hk,hl=>by
  obtain⟨s1,sl1,e1,g1,l1⟩:=S6 m0 nodes act modes c mo r n nx durs rd hn ha ha2 hd n.toNat s slots 0 hs (by omega) (by omega) (by omega)
  obtain⟨s',slots',h1,h2,h3⟩:=PC m0 nodes act modes c mo r n nx durs hn hn0 hr ha ha2 hd k s1 sl1 (rd+1) g1 (by omega) (by omega) (by omega)
  refine⟨s',slots', ?_,h2,by rw[h3,l1,Nat.add_mul];omega⟩
  have e1:ac eY ((s.1,s.2.1,s.2.2.1,()),(m0.1,m0.2.1,m0.2.2.1,m0.2.2.2.1,()),nodes,act,modes,slots,c,mo,(r,n,nx,()),durs,rd,(0:Int),())=_:=e1
  rw[ag]
  simp only[f4,ve (show rd<r by omega),e1,Kw h0 (show rd<r by omega) (by omega)]
  exact h1
theorem S7(m0:an.T)(nodes:List au.T)(act:List Int)(c:Int)(hc:c≤2)(ha:1≤act.length)(ha2:act.length≤32):∀(k:Nat) (s:ah.T) (modes:List ay.T) (slots:List al.T) (mo:Int),aQ s→0≤mo→mo+(k:Int)=c→slots.length+k*2000≤10000→modes.length+k≤10→(∀v ∈ modes,v.2.2.1.length≤10)→
  ∃s' modes' slots',ac ej (s,m0,nodes,act,modes,slots,c,mo,())=some (.inl (s',m0,nodes,modes',slots',()))∧(aQ s'∧modes'.length≤10∧(∀v ∈ modes',v.2.2.1.length≤10)∧slots.length+k≤slots'.length∧slots'.length≤10000∧modes'.length=modes.length+k)
 |0,s,modes,slots,mo,hs,h0,hk,hl,hm,hv=>by
  refine⟨s,modes,slots, ?_,hs,by omega,hv,by omega,by omega,by omega⟩
  rw[ag]
  simp only[ej,z8 (show ¬mo<c by omega)]
 |k+1,s,modes,slots,mo,hs,h0,hk,hl,hm,hv=>by
  obtain⟨y,hy,hd,hg⟩:=az (n:=2) hs
  have hy:aa ((s.1,s.2.1,s.2.2.1,()),(2:Int),())=some y:=hy
  obtain⟨z,hz,hd2,hg2⟩:=az (n:=2) hg
  obtain⟨a,ha1,ha3⟩:=dC hd (by omega)
  obtain⟨b,hb1,hb2⟩:=dC hd2 (by omega)
  have e1:IntKind.i64.wrap ((1:Int)+(a:Int))=(1:Int)+(a:Int):=wrap_i64 (by omega) (by omega)
  have e2:IntKind.i64.wrap ((act.length:Int)+(b:Int))=(act.length:Int)+(b:Int):=wrap_i64 (by omega) (by omega)
  have e3:IntKind.i64.wrap (mo+1)=mo+1:=Kw h0 (show mo<c by omega) (by omega)
  have hr:∀ {R:Type} (u:ay.T) (q:Option R),aI (modes.length+ [u].length) q=q:=fun u q=>aA (by simp;omega)
  have key:∀nx:List Int,nx.length≤10→∃s1 d1 s2 sl2,ac f3 ((z.2.1.1,z.2.1.2.1,z.2.1.2.2.1,()),(m0.1,m0.2.1,m0.2.2.1,m0.2.2.2.1,()),nodes,act,modes++ [((1:Int)+(a:Int),(act.length:Int)+(b:Int),nx,())],slots,c,mo,((1:Int)+(a:Int),(act.length:Int)+(b:Int),nx,()),[],(0:Int),())=some (.inl (s1,m0,nodes,act,modes++ [((1:Int)+(a:Int),(act.length:Int)+(b:Int),nx,())],slots,c,mo,((1:Int)+(a:Int),(act.length:Int)+(b:Int),nx,()),d1,()))∧
    ac f4 ((s1.1,s1.2.1,s1.2.2.1,()),(m0.1,m0.2.1,m0.2.2.1,m0.2.2.2.1,()),nodes,act,modes++ [((1:Int)+(a:Int),(act.length:Int)+(b:Int),nx,())],slots,c,mo,((1:Int)+(a:Int),(act.length:Int)+(b:Int),nx,()),d1,(0:Int),())=some (.inl (s2,m0,nodes,act,modes++ [((1:Int)+(a:Int),(act.length:Int)+(b:Int),nx,())],sl2,c,mo,()))∧
    ∃s' modes' slots',ac ej (s2,m0,nodes,act,modes++ [((1:Int)+(a:Int),(act.length:Int)+(b:Int),nx,())],sl2,c,mo+1,())=some (.inl (s',m0,nodes,modes',slots',()))∧(aQ s'∧modes'.length≤10∧(∀v ∈ modes',v.2.2.1.length≤10)∧slots.length+(k+1)≤slots'.length∧slots'.length≤10000∧modes'.length=modes.length+(k+1)):=fun nx hnx=>by
   obtain⟨s1,d1,q1,q2,q3⟩:=Vg m0 nodes act (modes++ [((1:Int)+(a:Int),(act.length:Int)+(b:Int),nx,())]) slots c mo ((1:Int)+(a:Int)) ((act.length:Int)+(b:Int)) nx (by omega) (act.length+b) _ [] 0 hg2 (by omega) (by omega) rfl
   have hsl:slots.length+(1+a)*1000≤100000:=Nat.le_trans (Nat.add_le_add_left (Nat.mul_le_mul_right 1000 (show 1+a≤10 by omega)) _) (show slots.length+10000≤100000 by omega)
   obtain⟨s2,sl2,p1,p2,p3⟩:=PC m0 nodes act (modes++ [((1:Int)+(a:Int),(act.length:Int)+(b:Int),nx,())]) c mo ((1:Int)+(a:Int)) ((act.length:Int)+(b:Int)) nx d1 (by omega) (by omega) (by omega) ha (by omega) q3 (1+a) s1 slots 0 q2 (by omega) (by omega) hsl
   have ht:((act.length:Int)+(b:Int)).toNat=act.length+b:=by omega
   rw[ht]at p3
   have hge:1+a+slots.length≤slots.length+(1+a)*(act.length+b):=by
    have:=Nat.mul_le_mul_left (1+a) (show 1≤act.length+b by omega)
    omega
   have hle:(1+a)*(act.length+b)≤2*33:=Nat.mul_le_mul (by omega) (by omega)
   obtain⟨s',modes',slots',h1,h2,h3,h4,h5,h6,h7⟩:=S7 m0 nodes act c hc ha ha2 k s2 (modes++ [((1:Int)+(a:Int),(act.length:Int)+(b:Int),nx,())]) sl2 (mo+1) p2 (by omega) (by omega) (by omega) (by simp;omega) (fun v hv'=>by
    rcases List.mem_append.1 hv' with h|h
    ·exact hv v h
    ·simp only[List.mem_singleton]at h
     subst h
     exact hnx)
   refine⟨s1,d1,s2,sl2,q1,p1,s',modes',slots',h1,h2,h3,h4,by omega,h6,by rw[h7];simp;omega⟩
  by_cases h1:c>1
  ·obtain⟨s1,d1,s2,sl2,q1,q2,s',modes',slots',q3,q4⟩:=key [(IntKind.i64.wrap ((1:Int)-mo))] (by simp)
   refine⟨s',modes',slots', ?_,q4⟩
   rw[ag]
   simp only[ej,ve (show mo<c by omega),hy,hz,ha1,hb1,e1,e2,e3,decide_eq_true h1,hr,q1,q2]
   exact q3
  ·obtain⟨s1,d1,s2,sl2,q1,q2,s',modes',slots',q3,q4⟩:=key [] (by simp)
   refine⟨s',modes',slots', ?_,q4⟩
   rw[ag]
   simp only[ej,ve (show mo<c by omega),hy,hz,ha1,hb1,e1,e2,e3,decide_eq_false h1,hr,q1,q2]
   exact q3
theorem OQ:∀(l:List au.T) (v k:Nat),(v.testBit k=true∨∃n ∈ l,n.2.2.2.1=false∧n.1.toNat=k)→(l.foldl pI v).testBit k=true
 | [],v,k,h=>by
   rcases h with h|⟨n,hn,_⟩
   ·exact h
   ·cases hn
 |n::r,v,k,h=>by
  refine OQ r (pI v n) k ?_
  rcases h with h|⟨m,hm,h1,h2⟩
  ·left
   unfold pI
   split
   ·exact h
   ·rw[Nat.testBit_or,h];rfl
  ·rcases List.mem_cons.1 hm with rfl|hm
   ·left
    unfold pI
    rw[h1,if_neg (by simp),Nat.testBit_or,Nat.testBit_two_pow,h2]
    simp
   ·exact .inr ⟨m,hm,h1,h2⟩
theorem Yn {l:List au.T}(hp:∀v ∈ l,rO v):∀n ∈ l,∃k:Nat,k<32∧n.1=(k:Int):=fun n hn=>SV _ (hp n hn).1 (hp n hn).2.1
theorem Yo {l:List au.T}(hp:∀v ∈ l,rO v):∀s,∀n ∈ l,s<4294967296→pI s n<4294967296:=by
 intro s n hn hs
 obtain⟨k,hk,e⟩:=Yn hp n hn
 unfold pI
 split
 ·exact hs
 ·rw[e];exact OH s k hs hk
theorem ac3 {l:List au.T}(hl:l.length≤100)(hp:∀v ∈ l,rO v)(hh:∃n ∈ l,n.2.2.2.1=false):∃a A,cV (l,())=some (a,())∧jk (a,())=some (A,0,())∧1≤A.length∧A.length≤32:=by
 have hid:=Yn hp
 have e:=nd (B:=cX) l (fun(s:Nat) i=>(l,(s:Int),(i:Int),())) pI (fun s=>.inl ((s:Int),())) (fun s=>s<4294967296) (Yo hp) (fun s _=>by simp only[cX,bp]) (fun s i hi hs=>by
  obtain⟨k,hk,e⟩:=hid _ (List.getElem_mem hi)
  have ho:=Wp s k hs hk
  simp only[cX,a7 hi,aG hi (show l.length≤1099511627776 by omega),am hi,ab,e,ho,pI,Int.toNat_natCast]
  cases l[i].2.2.2.1<;>rfl) l.length 0 0 (by omega) (by omega)
 have e':ac cX (l,(0:Int),(0:Int),())=_:=e
 have hlt:cS l<4294967296:=nf (P:=fun s=>s<4294967296) l 0 (Yo hp) (by omega)
 have h1:cV (l,())=some ((cS l:Int),()):=by
  unfold cV
  simp only[e',List.drop_zero]
  rfl
 have h2:=Po (cS l:Int)
 rw[if_pos (aY.2 ⟨by omega,by omega⟩)]at h2
 refine⟨_,_,h1,h2, ?_, ?_⟩
 ·obtain⟨n,hn,hn2⟩:=hh
  obtain⟨k,hk,ek⟩:=hid n hn
  have hb:=OQ l 0 k (.inr ⟨n,hn,hn2,by rw[ek];rfl⟩)
  rw[zX,←wD]
  have hm:k ∈ (List.range 32).filter (fun k=>((cS l:Int).toNat / 2^k) % 2==1):=by
   rw[List.mem_filter]
   refine⟨List.mem_range.2 hk, ?_⟩
   have:ou (cS l) k=true:=by rw[Kt];exact hb
   exact this
  exact List.length_pos_of_mem hm
 ·rw[zX,←wD]
  exact Nat.le_trans (List.length_filter_le _ _) (by simp)
def BP(m:an.T):Prop:=yj m.2.1∧ut m.2.2.1∧m.2.2.2.1.length≤10000
theorem yk {m:an.T}(h:BP m):fH m:=by
 obtain⟨⟨h1,h2⟩,⟨h3,h4⟩,h5⟩:=h
 exact⟨by omega,fun v hv=>Nat.le_trans (h2 v hv) (by omega),by omega,fun v hv=>Nat.le_trans (h4 v hv) (by omega),by omega⟩
theorem Yp {s:ah.T}(hs:aQ s):∃y,yL (s,())=some y∧(aQ (y.2.1.1,y.2.1.2.1,y.2.1.2.2.1,())∧BP y.1∧1≤y.1.2.2.2.1.length):=by
 have hs:=dB hs
 unfold yL
 simp only
 split;(rename_i h;exact absurd h (ce (az (by assumption))))
 rename_i v1 h1
 obtain⟨hd1,hg1⟩:=bo (az (by assumption)) h1
 split
 ·unfold zI
  refine⟨_,rfl,hg1,⟨⟨by simp, ?_⟩,⟨by simp, ?_⟩,by simp⟩,by simp⟩
  ·intro v hv
   simp only[List.mem_cons,List.not_mem_nil,or_false]at hv
   rcases hv with rfl|rfl<;>simp
  ·intro v hv
   simp only[List.mem_cons,List.not_mem_nil,or_false]at hv
   rcases hv with rfl|rfl<;>simp
 ·split;(rename_i h;exact absurd h (ce (MQ (by assumption))))
  rename_i v3 h3
  obtain⟨hg3,hl3,hp3,hn3⟩:=bo (MQ (by assumption)) h3
  obtain⟨n0,r0,e0⟩:∃n r,v3.1=n::r:=by
   cases hv:v3.1 with
   |nil=>rw[hv]at hp3;simp at hp3
   |cons n r=>exact⟨n,r,rfl⟩
  have ei:aq v3.1 (0:Int)=some n0:=by rw[e0];rfl
  have eg:v3.1[(0:Int).toNat]? =some n0:=by rw[e0];rfl
  have es:∀u:au.T,v3.1.set ((0:Int).toNat) u=u::r0:=fun u=>by rw[e0];rfl
  simp only[ei,ab,eg,es]
  have hall:∀v ∈ ((n0.1,n0.2.1,n0.2.2.1,false,()):au.T)::r0,rO v:=by
   intro v hv
   rcases List.mem_cons.1 hv with rfl|hv
   ·exact hn3 n0 (by rw[e0];simp)
   ·exact hn3 v (by rw[e0];simp[hv])
  have hlen:(((n0.1,n0.2.1,n0.2.2.1,false,()):au.T)::r0).length≤4:=by rw[e0]at hl3;simpa using hl3
  have key:∀L:List au.T,L.length≤4→(∀v ∈ L,rO v)→(∃n ∈ L,n.2.2.2.1=false)→∃y,(match cV (L,())with
    |none=>none
    |some v7=>match jk (v7.1,())with
     |none=>none
     |some v8=>match aa ((v3.2.1.1,v3.2.1.2.1,v3.2.1.2.2.1,()),(2:Int),())with
      |none=>none
      |some v9=>match ac ej ((v9.2.1.1,v9.2.1.2.1,v9.2.1.2.2.1,()),((0:Int),[],[],[],()),L,v8.1,[],[],(IntKind.i64.wrap ((1:Int)+v9.1)),(0:Int),())with
       |none=>none
       |some (.inl v24)=>match aa ((v24.1.1,v24.1.2.1,v24.1.2.2.1,()),(5000:Int),())with
        |none=>none
        |some v26=>some (((IntKind.i64.wrap ((1:Int)+v26.1)),v24.2.2.1,v24.2.2.2.1,v24.2.2.2.2.1,()),(v26.2.1.1,v26.2.1.2.1,v26.2.1.2.2.1,()),())
       |some (.inr v27)=>none:Option (Ty.T (.pair (.pair (.int .i64) (.pair (.own 136 au) (.pair (.own 159 ay) (.pair (.own 167 al) .unit)))) (.pair (.box ah) .unit))))=some y∧(aQ (y.2.1.1,y.2.1.2.1,y.2.1.2.2.1,())∧BP y.1∧1≤y.1.2.2.2.1.length):=fun L hL hLp hLh=>by
   obtain⟨a,A,e1,e2,hA1,hA2⟩:=ac3 (by omega) hLp hLh
   obtain⟨v9,e3,hd9,hg9⟩:=az (n:=2) hg3
   obtain⟨b,hb,hb2⟩:=dC hd9 (by omega)
   have ew:IntKind.i64.wrap ((1:Int)+(b:Int))=(1:Int)+(b:Int):=wrap_i64 (by omega) (by omega)
   obtain⟨s',m',sl',e4,hg',hm1,hm2,hsl,hsl2,hm3⟩:=S7 ((0:Int),[],[],[],()) L A ((1:Int)+(b:Int)) (by omega) hA1 hA2 (1+b) (v9.2.1.1,v9.2.1.2.1,v9.2.1.2.2.1,()) [] [] 0 hg9 (by omega) (by omega) (by simp;omega) (by simp;omega) (fun v hv=>by cases hv)
   obtain⟨v26,e5,hd26,hg26⟩:=az (n:=5000) hg'
   have e5:aa ((s'.1,s'.2.1,s'.2.2.1,()),(5000:Int),())=some v26:=e5
   simp only[e1,e2,e3,hb,ew,e4,e5]
   refine⟨_,rfl,hg26,⟨⟨by show L.length≤100;omega,fun v hv=>Nat.le_trans (hLp v hv).2.2 (by omega)⟩,⟨by show m'.length≤100;omega,fun v hv=>Nat.le_trans (hm2 v hv) (by omega)⟩,hsl2⟩, ?_⟩
   show 1≤sl'.length
   simp at hsl
   omega
  split
  ·rename_i hgt
   have hbd:aH (((n0.1,n0.2.1,n0.2.2.1,false,()):au.T)::r0).length none (some (.dat (.int .i64) (3:Int)))=some (0,3):=oS (a:=3) (by simp at hgt;simp;omega)
   rw[hbd]
   exact key _ (by rw[List.length_take];omega) (fun v hv=>hall v (List.mem_of_mem_take hv)) ⟨(n0.1,n0.2.1,n0.2.2.1,false,()),by simp,rfl⟩
  ·exact key _ hlen hall ⟨(n0.1,n0.2.1,n0.2.2.1,false,()),by simp,rfl⟩
theorem S8(m0:an.T)(id:Int)(nodes:List au.T)(modes:List ay.T)(s:ah.T):∀(k:Nat) (slots:List al.T) (j:Nat),slots.length≤10000→j+k=slots.length→
  ∃slots',ac ep (s,m0,(id,nodes,modes,slots,()),(j:Int),())=some (.inl (s,m0,(id,nodes,modes,slots',()),()))∧slots'.length=slots.length
 |0,slots,j,hl,hk=>by
  refine⟨slots, ?_,rfl⟩
  rw[ag]
  simp only[ep,z8 (show ¬(j:Int)<(slots.length:Int) by omega)]
 |k+1,slots,j,hl,hk=>by
  have hj:j<slots.length:=by omega
  have key:∀u:al.T,∃slots',ac ep (s,m0,(id,nodes,modes,slots.set j u,()),((j+1:Nat):Int),())=some (.inl (s,m0,(id,nodes,modes,slots',()),()))∧slots'.length=slots.length:=fun u=>by
   obtain⟨s',h1,h2⟩:=S8 m0 id nodes modes s k (slots.set j u) (j+1) (by simpa using hl) (by simp;omega)
   exact⟨s',h1,by simpa using h2⟩
  obtain⟨slots',h1,h2⟩:=key (slots[j].1,slots[j].2.1,slots[j].2.2.1,(slots[j].2.2.2.1.1,slots[j].2.2.2.1.2.1,slots[j].2.2.2.1.2.2.1,(1000:Int),slots[j].2.2.2.1.2.2.2.2.1,()),())
  refine⟨slots', ?_,h2⟩
  have hi:=am hj
  have hw:=aG hj (show slots.length≤1099511627776 by omega)
  rw[ag]
  simp only[ep,ve (show(j:Int)<(slots.length:Int) by omega),hi,ab,Int.toNat_natCast,List.getElem?_eq_getElem hj,hw]
  exact h1
theorem S9(m0:an.T)(id:Int)(nodes:List au.T)(R S:Int)(nx:List Int)(hR:0≤R∧R≤10)(hS:1≤S∧S≤100)(s:ah.T):∀(k:Nat) (slots:List al.T) (j:Int),0≤j→j+(k:Int)=R*S→slots.length+k≤10000→
  ∃slots',ac cK (s,m0,(id,nodes,[(R,S,nx,())],[],()),slots,j,())=some (.inl (s,m0,(id,nodes,[(R,S,nx,())],[],()),slots',()))∧slots'.length=slots.length+k:=by
 have hRS:0≤R*S∧R*S≤1000:=by
  refine⟨Int.mul_nonneg hR.1 (by omega), ?_⟩
  have h1:R*S≤10*S:=Int.mul_le_mul_of_nonneg_right hR.2 (by omega)
  omega
 have hw:IntKind.i64.wrap (R*S)=R*S:=wrap_i64 (by omega) (by omega)
 have hi:aq [((R,S,nx,()):ay.T)] (0:Int)=some (R,S,nx,()):=rfl
 have hg: [((R,S,nx,()):ay.T)][(0:Int).toNat]? =some (R,S,nx,()):=rfl
 have hne:(S=0)=False:=by
  have:¬S=0:=by omega
  simp only[this]
 intro k
 induction k with
 |zero=>
  intro slots j h0 hk hl
  refine⟨slots, ?_,rfl⟩
  rw[ag]
  simp only[cK,hi,hg,ab,hw,z8 (show ¬j<R*S by omega)]
 |succ k ih=>
  intro slots j h0 hk hl
  have hr:∀ {Q:Type} (u:al.T) (q:Option Q),aI (slots.length+ [u].length) q=q:=fun u q=>aA (by simp;omega)
  obtain⟨slots',h1,h2⟩:=ih (slots++ [((0:Int),(IntKind.i64.wrap (Int.tdiv j S)),(Int.tmod j S),((0:Int),(1:Int),(0:Int),(1000:Int),false,()),())]) (j+1) (by omega) (by omega) (by simp;omega)
  refine⟨slots', ?_,by rw[h2];simp;omega⟩
  rw[ag]
  simp only[cK,hi,hg,ab,hw,ve (show j<R*S by omega),hne,if_false,hr,cW,lY,Kw h0 (show j<R*S by omega) (by omega)]
  exact h1
theorem PD {s:ah.T}(hs:aQ s):∃y,qF (s,())=some y∧(aQ (y.2.1.1,y.2.1.2.1,y.2.1.2.2.1,())∧ut y.1):=by
 have hs:=dB hs
 unfold qF
 simp only[ab]
 split;(rename_i h;exact absurd h (ce (Yl (by assumption))))
 rename_i v1 h1
 obtain⟨hg1,hS10,hp1,hl1⟩:=bo (Yl (by assumption)) h1
 have hS:ut v1.1:=⟨by omega,fun v hv=>Nat.le_trans (hS10 v hv) (by omega)⟩
 split;(rename_i h;exact absurd h (ce (az (by assumption))))
 rename_i v2 h2
 obtain⟨hd2,hg2⟩:=bo (az (by assumption)) h2
 split;(rename_i h;exact absurd h (ce (az (by assumption))))
 rename_i v3 h3
 obtain⟨hd3,hg3⟩:=bo (az (by assumption)) h3
 obtain⟨u,hu1,hu2,hu3⟩:=pick v1.1 hd2 (by omega) hp1
 obtain⟨v4,h4,hd4,hg4⟩:=az (n:=3) hg3
 obtain⟨w,hw1,hw2,hw3⟩:=pick [v2.1,(v1.1.length:Int),(0:Int)] hd4 (by simp) (by simp)
 have hu10:=hS10 u hu3
 have hu:=hS.2 u hu3
 have hr:∀ {Q:Type} (z:Int) (q:Option Q),aI (u.2.2.1.length+ [z].length) q=q:=fun z q=>aA (by simp;omega)
 have hu2':(u.2.2.1++ [w]).length≤100:=by simp;omega
 simp only[hu1,hu2,h4,hw1,hw2,hr,if_true,cW,lY]
 repeat' first
  |exact⟨_,rfl,by assumption,by assumption⟩
  |exact⟨_,rfl,by assumption,MS hS hu⟩
  |exact⟨_,rfl,by assumption,MS hS hu2'⟩
  |exact⟨_,rfl,by assumption,WE⟩
  |exact⟨_,rfl,by assumption,WF (by decide) (Nat.zero_le _)⟩
  |(split;(rename_i h;exact absurd h (ce (az (by assumption))));rename_i v h;obtain⟨hd,hg⟩:=bo (az (by assumption)) h)
  |(first|(split;rotate_left;(rename_i h;exact absurd h (lX (by assumption) (by simp) (by first|assumption|simp))))|(split;(rename_i h;exact absurd h (sV (by assumption) (by simp) (by first|assumption|simp)));rename_i v h))
  |split
theorem Yq {s:ah.T}(hs:aQ s):∃y,mu (s,())=some y∧(aQ (y.2.1.1,y.2.1.2.1,y.2.1.2.2.1,())∧BP y.1):=by
 have hs:=dB hs
 unfold mu
 simp only[ab]
 split;(rename_i h;exact absurd h (ce (Yp (by assumption))))
 rename_i v1 h1
 obtain⟨hg1,hS,hp1⟩:=bo (Yp (by assumption)) h1
 obtain⟨hN,hM,hL⟩:=hS
 split;(rename_i h;exact absurd h (ce (az (by assumption))))
 rename_i v2 h2
 obtain⟨hd2,hg2⟩:=bo (az (by assumption)) h2
 split;(rename_i h;exact absurd h (ce (az (by assumption))))
 rename_i v3 h3
 obtain⟨hd3,hg3⟩:=bo (az (by assumption)) h3
 obtain⟨u,hu1,hu2,hu3⟩:=pick v1.1.2.2.2.1 hd2 (by omega) hp1
 have hlt:v2.1.toNat<v1.1.2.2.2.1.length:=(List.getElem?_eq_some_iff.1 hu2).1
 have h0:0≤v2.1:=hd2.1
 have iset:∀w:al.T,aq (v1.1.2.2.2.1.set v2.1.toNat w) v2.1=some w:=fun w=>by
  unfold aq
  rw[if_pos h0,List.getElem?_set_self hlt]
 have gset:∀w:al.T,(v1.1.2.2.2.1.set v2.1.toNat w)[v2.1.toNat]? =some w:=fun w=>List.getElem?_set_self hlt
 have hb:aH v1.1.2.2.2.1.length (some (.dat (.int .i64) (1:Int))) none=some (1,v1.1.2.2.2.1.length):=by
  simp only[aH,jY,js]
  rw[if_pos ⟨by omega,by omega,by omega⟩]
  simp
 obtain⟨sl,hlong,hlong2⟩:=S8 ((0:Int),[],[],[],()) v1.1.1 v1.1.2.1 v1.1.2.2.1 (v3.2.1.1,v3.2.1.2.1,v3.2.1.2.2.1,()) v1.1.2.2.2.1.length v1.1.2.2.2.1 0 hL (by omega)
 have hlong:ac ep ((v3.2.1.1,v3.2.1.2.1,v3.2.1.2.2.1,()),((0:Int),[],[],[],()),(v1.1.1,v1.1.2.1,v1.1.2.2.1,v1.1.2.2.2.1,()),(0:Int),())=_:=hlong
 have hf1:∀s:ah.T,∃sl,ac cK (s,((0:Int),[],[],[],()),((3:Int),[((0:Int),([97]:List UInt8),(0:Int),false,())],[((3:Int),(11:Int),[],())],[],()),[],(0:Int),())=some (.inl (s,((0:Int),[],[],[],()),((3:Int),[((0:Int),([97]:List UInt8),(0:Int),false,())],[((3:Int),(11:Int),[],())],[],()),sl,()))∧sl.length≤10000:=fun s=>by
  obtain⟨sl,e1,e2⟩:=S9 ((0:Int),[],[],[],()) (3:Int) [((0:Int),([97]:List UInt8),(0:Int),false,())] 3 11 [] (by omega) (by omega) s 33 [] 0 (by omega) (by omega) (by simp)
  exact⟨sl,e1,by rw[e2];simp⟩
 have hf2:∀s:ah.T,∃sl,ac cK (s,((0:Int),[],[],[],()),((3:Int),[((0:Int),([97]:List UInt8),(0:Int),false,())],[((2:Int),(16:Int),[],())],[],()),[],(0:Int),())=some (.inl (s,((0:Int),[],[],[],()),((3:Int),[((0:Int),([97]:List UInt8),(0:Int),false,())],[((2:Int),(16:Int),[],())],[],()),sl,()))∧sl.length≤10000:=fun s=>by
  obtain⟨sl,e1,e2⟩:=S9 ((0:Int),[],[],[],()) (3:Int) [((0:Int),([97]:List UInt8),(0:Int),false,())] 2 16 [] (by omega) (by omega) s 32 [] 0 (by omega) (by omega) (by simp)
  exact⟨sl,e1,by rw[e2];simp⟩
 obtain⟨g1f,hg1f⟩:∃g:ah.T→List al.T,∀s:ah.T,ac cK (s,((0:Int),[],[],[],()),((3:Int),[((0:Int),([97]:List UInt8),(0:Int),false,())],[((3:Int),(11:Int),[],())],[],()),[],(0:Int),())=some (.inl (s,((0:Int),[],[],[],()),((3:Int),[((0:Int),([97]:List UInt8),(0:Int),false,())],[((3:Int),(11:Int),[],())],[],()),(g s),()))∧(g s).length≤10000:=⟨fun s=>Classical.choose (hf1 s),fun s=>Classical.choose_spec (hf1 s)⟩
 have hf1a:=fun s=>(hg1f s).1
 have hf1b:=fun s=>(hg1f s).2
 obtain⟨g2f,hg2f⟩:∃g:ah.T→List al.T,∀s:ah.T,ac cK (s,((0:Int),[],[],[],()),((3:Int),[((0:Int),([97]:List UInt8),(0:Int),false,())],[((2:Int),(16:Int),[],())],[],()),[],(0:Int),())=some (.inl (s,((0:Int),[],[],[],()),((3:Int),[((0:Int),([97]:List UInt8),(0:Int),false,())],[((2:Int),(16:Int),[],())],[],()),(g s),()))∧(g s).length≤10000:=⟨fun s=>Classical.choose (hf2 s),fun s=>Classical.choose_spec (hf2 s)⟩
 have hf2a:=fun s=>(hg2f s).1
 have hf2b:=fun s=>(hg2f s).2
 have hone:yj [((0:Int),([97]:List UInt8),(0:Int),false,())]:=⟨by simp,fun v hv=>by simp only[List.mem_singleton]at hv;subst hv;simp⟩
 have hmo:∀a b:Int,ut [(a,b,([]:List Int),())]:=fun a b=>⟨by simp,fun v hv=>by simp only[List.mem_singleton]at hv;subst hv;simp⟩
 simp only[hu1,hu2,iset,gset,hb,hlong,cW,lY,List.set_set,hf1a,hf2a]
 repeat' first
  |exact⟨_,rfl,by assumption,by assumption,by assumption,by assumption⟩
  |exact⟨_,rfl,by assumption,hN,hM,by first|(rw[List.length_set];exact hL)|(simp only[List.length_set];exact hL)|(show sl.length≤10000;omega)|(simp;omega)⟩
  |(split;(rename_i h;exact absurd h (ce (PA (by assumption))));rename_i v h;obtain⟨hg,hq⟩:=bo (PA (by assumption)) h)
  |(split;(rename_i h;exact absurd h (ce (PD (by assumption))));rename_i v h;obtain⟨hg,hq⟩:=bo (PD (by assumption)) h)
  |(split;(rename_i h;exact absurd h (ce (PB (by assumption))));rename_i v h;have hg:=bo (PB (by assumption)) h)
  |exact⟨_,rfl,by assumption,hone,hmo _ _,hf1b _⟩
  |exact⟨_,rfl,by assumption,hone,hmo _ _,hf2b _⟩
  |(split;(rename_i h;exact absurd h (ce (az (by assumption))));rename_i v h;obtain⟨hd,hg⟩:=bo (az (by assumption)) h)
  |(first|(split;rotate_left;(rename_i h;exact absurd h (lX (by assumption) (by simp) (by first|assumption|simp))))|(split;(rename_i h;exact absurd h (sV (by assumption) (by simp) (by first|assumption|simp)));rename_i v h))
  |split
end Go.Proofs.YtkgcbbkodalfmaaGreatDoor
namespace Go.Proofs.YtkgcbbkodalfmaaGreatDoor
open Go.RowKit
set_option linter.unusedVariables false
set_option linter.unusedSimpArgs false
theorem ZT(v:Int):(IntKind.u64.wrap v<0)=False:=by
 have:¬IntKind.u64.wrap v<0:=by
  simp[IntKind.wrap,IntKind.signed,IntKind.bits]
  omega
 simp only[this]
theorem ac4 {s:ah.T}(hs:aQ s):∃y,yX (s,())=some y∧(aQ (y.2.2.1.1,y.2.2.1.2.1,y.2.2.1.2.2.1,())∧BP y.1):=by
 obtain⟨v1,e1,hg1,hS⟩:=Yq hs
 have e1:mu ((s.1,s.2.1,s.2.2.1,()),())=some v1:=e1
 obtain⟨v2,e2,hg2⟩:=Ve hg1
 have e3:=MH v1.1 (yk hS)
 have e3:jx ((v1.1.1,v1.1.2.1,v1.1.2.2.1,v1.1.2.2.2.1,()),())=_:=e3
 unfold yX
 simp only[e1,e2,e3,cW,lY,ZT,if_false]
 cases hm:cu v1.1 with
 |false=>exact⟨_,rfl,hg2,hS⟩
 |true=>
  obtain⟨_,hN,hM,_⟩:=kk hm
  have hlen:1≤v1.1.2.2.1.length:=by
   unfold fG at hM
   rw[Bool.and_eq_true]at hM
   have:=(aY.1 hM.1).1
   omega
  obtain⟨v4,e4,hd4,hg4⟩:=az (n:=16) hg2
  obtain⟨v5,e5,hd5,hg5⟩:=az (n:=65536) hg4
  obtain⟨v6,e6,hd6,hg6⟩:=az (n:=(v1.1.2.2.1.length:Int)) hg5
  obtain⟨u,hu1,hu2,hu3⟩:=pick v1.1.2.2.1 hd6 (by omega) hlen
  obtain⟨v8,e8,hd8,hg8⟩:=az (n:=30) hg6
  obtain⟨v9,e9,hd9,hg9⟩:=az (n:=(IntKind.i64.wrap (u.1+(IntKind.i64.wrap (Int.tdiv v8.1 (29:Int)))))) hg8
  obtain⟨v11,e11,hd11,hg11⟩:=az (n:=30) hg9
  obtain⟨v12,e12,hd12,hg12⟩:=az (n:=(IntKind.i64.wrap (u.2.1+(IntKind.i64.wrap (Int.tdiv v11.1 (29:Int)))))) hg11
  have e13:=QH v1.1.2.1 hN
  obtain⟨v14,e14,hd14,hg14⟩:=az (n:=3) hg12
  obtain⟨v15,e15,hd15,hg15⟩:=az (n:=256) hg14
  obtain⟨v16,e16,hd16,hg16⟩:=az (n:=30) hg15
  obtain⟨v17,e17,hd17,hg17⟩:=az (n:=10) hg16
  obtain⟨w16,f16,kd16,kg16⟩:=az (n:=30) hg14
  obtain⟨w17,f17,kd17,kg17⟩:=az (n:=10) kg16
  simp only[Bool.not_true,e4,e5,e6,hu1,hu2,ab,e8,e9,e11,e12,e13,e14,e15,e16,e17,f16,f17,cW,lY]
  repeat' first
   |exact⟨_,rfl,by assumption,hS⟩
   |split
theorem ac5 {m:an.T}{st:ai.T}(a d:Nat)(ha:a<m.2.2.1.length)(hst:bA st=true)(h1:st.2.1=(a:Int))(h2:st.2.2.1<m.2.2.1[a].1)(h3:st.2.2.2.1<m.2.2.1[a].2.1)(h4:st.2.2.2.2.1=(d:Int))(h5:d&&& cS m.2.1=d):bb m st=true:=by
 unfold bb
 rw[hst,h1,Int.toNat_natCast,List.getElem?_eq_getElem ha,h4,Int.toNat_natCast]
 simp only[Bool.true_and,Bool.and_eq_true,decide_eq_true_eq]
 exact⟨h2,h3,h5⟩
end Go.Proofs.YtkgcbbkodalfmaaGreatDoor
namespace Go.Proofs.YtkgcbbkodalfmaaGreatDoor
open Go.RowKit
set_option linter.unusedVariables false
set_option linter.unusedSimpArgs false
theorem Ta {a b c d e:Int}(h1:0≤a∧a≤65535)(h2:0≤b∧b≤15)(h3:0≤c∧c≤15)(h4:0≤d∧d≤255)(h5:0≤e∧e≤4294967295):bA (a,b,c,d,e,())=true:=by
 unfold bA
 simp only[aY.2 h1,aY.2 h2,aY.2 h3,aY.2 h4,aY.2 h5,Bool.and_self]
theorem fX {n v:Int}(h:drawn n v)(hn:1≤n):0≤v∧v≤n-1:=by
 obtain⟨h0,h1⟩:=h
 omega
theorem Yr {s:ah.T}(hs:aQ s):∃y,ip (s,())=some y∧(aQ (y.2.1.1,y.2.1.2.1,y.2.1.2.2.1,())∧bA y.1=true):=by
 obtain⟨v1,e1,d1,g1⟩:=az (n:=200) hs
 have e1:aa ((s.1,s.2.1,s.2.2.1,()),(200:Int),())=some v1:=e1
 obtain⟨v2,e2,d2,g2⟩:=az (n:=3) g1
 obtain⟨v3,e3,d3,g3⟩:=az (n:=3) g2
 obtain⟨v4,e4,d4,g4⟩:=az (n:=6) g3
 obtain⟨v5,e5,d5,g5⟩:=az (n:=256) g4
 obtain⟨v6,e6,d6,g6⟩:=az (n:=8) g5
 obtain⟨v7,e7,d7,g7⟩:=az (n:=9) g6
 obtain⟨v8,e8,d8,g8⟩:=az (n:=16) g7
 obtain⟨v9,e9,d9,g9⟩:=az (n:=16) g8
 obtain⟨v10,e10,d10,g10⟩:=az (n:=256) g9
 obtain⟨v11,e11,d11,g11⟩:=az (n:=99) g10
 unfold ip
 simp only[e1,e2,e3,e4,e5,e6,e7,e8,e9,e10,e11]
 have q1:=fX d1 (by omega)
 have q2:=fX d2 (by omega)
 have q3:=fX d3 (by omega)
 have q4:=fX d4 (by omega)
 have q5:=fX d5 (by omega)
 have q7:=fX d7 (by omega)
 have q8:=fX d8 (by omega)
 have q9:=fX d9 (by omega)
 have q10:=fX d10 (by omega)
 have q11:=fX d11 (by omega)
 have w7:IntKind.i64.wrap ((65535:Int)-v7.1)=65535-v7.1:=wrap_i64 (by omega) (by omega)
 have w11:IntKind.i64.wrap ((4294967295:Int)-v11.1)=4294967295-v11.1:=wrap_i64 (by omega) (by omega)
 rw[w7,w11]
 split
 ·exact⟨_,rfl,g11,Ta (by omega) (by omega) (by omega) (by omega) (by omega)⟩
 ·exact⟨_,rfl,g6,Ta (by omega) (by omega) (by omega) (by omega) (by omega)⟩
theorem Aa(z f:aB.T):∀(k:Nat) (s:ah.T) (d:List Int),aQ s→d.length+k≤10→(∀v ∈ d,0≤v∧v≤255)→∃(s':ah.T) (d':List Int),ac iO (s,z,f,d,(k:Int),())=some (.inl (s',z,f,d',()))∧aQ s'∧d'.length=d.length+k∧∀v ∈ d',0≤v∧v≤255
 |0,s,d,hs,hl,hv=>by
  refine⟨s,d, ?_,hs,rfl,hv⟩
  rw[ag]
  simp only[iO,WC]
 |k+1,s,d,hs,hl,hv=>by
  obtain⟨y,hy,hd,hg⟩:=az (n:=256) hs
  have hy:aa ((s.1,s.2.1,s.2.2.1,()),(256:Int),())=some y:=hy
  have hq:=fX hd (by omega)
  obtain⟨s',d',h1,h2,h3,h4⟩:=Aa z f k (y.2.1.1,y.2.1.2.1,y.2.1.2.2.1,()) (d++ [y.1]) hg (by simp;omega) (fun v hm=>by
   rcases List.mem_append.1 hm with hm|hm
   ·exact hv v hm
   ·simp only[List.mem_singleton]at hm
    subst hm
    omega)
  refine⟨s',d', ?_,h2,by rw[h3];simp;omega,h4⟩
  rw[ag]
  simp only[iO,WB,hy,WA (show k≤1000000 by omega)]
  rw[aA (by simp;omega)]
  exact h1
theorem CT {k q:Int}{st:ai.T}{d:List Int}(hk:aP k 0 3=true)(hq:aP q 0 7=true)(hd:gr k d.length=true)(hv:∀v ∈ d,0≤v∧v≤255)(hl:d.length≤1024)
  (hs:(if k==(0:Int)then ex ai st ((0:Int),(0:Int),(0:Int),(0:Int),(0:Int),())else if k==(3:Int)then bA st&&((st.2.1==(0:Int))&&(uh st.2.2.2.2.1&&(q==(0:Int))))else bA st)=true):bm (k,q,st,d,())=true:=by
 have hb:ix d=true:=by
  unfold ix
  simp only[Bool.and_eq_true,decide_eq_true_eq,List.all_eq_true]
  exact⟨by omega,fun v hm=>aY.2 (hv v hm)⟩
 unfold bm
 simp only[hk,hq,hd,hb,Bool.true_and]
 exact hs
theorem Ys {k:Nat}(h:k<32):uh ((2^k:Nat):Int)=true:=by
 have key:∀k:Fin 32,uh ((2^k.1:Nat):Int)=true:=by decide
 exact key ⟨k,h⟩
theorem ac6 {s:ah.T}(hs:aQ s):∃y,tN (s,())=some y∧(aQ (y.2.1.1,y.2.1.2.1,y.2.1.2.2.1,())∧y.1.2.2.2.1.length≤2000∧bm y.1=true):=by
 obtain⟨v1,e1,d1,g1⟩:=az (n:=4) hs
 have e1:aa ((s.1,s.2.1,s.2.2.1,()),(4:Int),())=some v1:=e1
 obtain⟨v2,e2,d2,g2⟩:=az (n:=8) g1
 obtain⟨v4,e4,g4,q4⟩:=Yr g2
 obtain⟨v6,e6,d6,g6⟩:=az (n:=6) g4
 obtain⟨a,ha,ha2⟩:=dC d6 (by omega)
 have wa:IntKind.i64.wrap ((1:Int)+(a:Int))=((a+1:Nat):Int):=by rw[wrap_i64]<;>omega
 obtain⟨v14,e14,d14,g14⟩:=az (n:=6) g2
 obtain⟨b,hb,hb2⟩:=dC d14 (by omega)
 have wb:IntKind.i64.wrap ((1:Int)+(b:Int))=((b+1:Nat):Int):=by rw[wrap_i64]<;>omega
 obtain⟨s8,t8,e8,g8,l8,r8⟩:=Aa ((0:Int),(0:Int),((0:Int),(0:Int),(0:Int),(0:Int),(0:Int),()),[],()) (v1.1,v2.1,(v4.1.1,v4.1.2.1,v4.1.2.2.1,v4.1.2.2.2.1,v4.1.2.2.2.2.1,()),[],()) (a+1) (v6.2.1.1,v6.2.1.2.1,v6.2.1.2.2.1,()) [] g6 (by simp;omega) (fun v hv=>by cases hv)
 obtain⟨s9,t9,e9,g9,l9,r9⟩:=Aa ((0:Int),(0:Int),((0:Int),(0:Int),(0:Int),(0:Int),(0:Int),()),[],()) (v1.1,v2.1,((0:Int),(0:Int),(0:Int),(0:Int),(0:Int),()),[],()) (b+1) (v14.2.1.1,v14.2.1.2.1,v14.2.1.2.2.1,()) [] g14 (by simp;omega) (fun v hv=>by cases hv)
 obtain⟨v12,e12,d12,g12⟩:=az (n:=10) g4
 obtain⟨c,hc,hc2⟩:=dC d12 (by omega)
 have l8:t8.length=a+1:=by simpa using l8
 have l9:t9.length=b+1:=by simpa using l9
 have q2:aP v2.1 0 7=true:=aY.2 (by have:=fX d2 (by omega);omega)
 obtain⟨P,hP⟩:∃P:Nat,P=2^c:=⟨_,rfl⟩
 have hP2:P≤2147483648:=by rw[hP];exact Nat.pow_le_pow_right (by decide) (show c≤31 by omega)
 have wk:IntKind.i64.wrap ((1:Int)*2^min (IntKind.u64.wrap (c:Int)).toNat IntKind.i64.bits)=(P:Int):=by
  have:(2:Int)^c=(P:Int):=by rw[hP,Int.natCast_pow];rfl
  rw[GL (by omega),pF (by omega),Int.one_mul,this,wrap_i64]<;>omega
 obtain⟨k,hk,hk2⟩:=dC d1 (by omega)
 have z00:((0:Int) != 0)=false:=rfl
 have hk4:k=0∨k=1∨k=2∨k=3:=by omega
 unfold tN dP
 rcases hk4 with rfl|rfl|rfl|rfl
 ·have x1:v1.1=(0:Int):=hk
  rw[x1]at e9
  have dd:dn (0:Int)=true:=rfl
  have n3:((0:Int)==3)=false:=rfl
  simp only[e1,e2,x1,z00,ui,dd,e14,hb,wb,e9,n3]
  exact⟨_,rfl,g9,by show t9.length≤2000;omega,CT rfl q2 (by unfold gr;exact aY.2 (by omega)) r9 (by omega) rfl⟩
 ·have x1:v1.1=(1:Int):=hk
  have dd:dn (1:Int)=false:=rfl
  have z1:((1:Int) != 0)=true:=rfl
  have n3:((1:Int)==3)=false:=rfl
  simp only[e1,e2,x1,z1,ui,dd,e4,n3]
  exact⟨_,rfl,g4,Nat.zero_le _,CT rfl q2 rfl (fun v hv=>by cases hv) (Nat.zero_le _) q4⟩
 ·have x1:v1.1=(2:Int):=hk
  rw[x1]at e8
  have dd:dn (2:Int)=true:=rfl
  have z1:((2:Int) != 0)=true:=rfl
  have n3:((2:Int)==3)=false:=rfl
  simp only[e1,e2,x1,z1,ui,dd,e4,e6,ha,wa,e8,n3]
  exact⟨_,rfl,g8,by show t8.length≤2000;omega,CT rfl q2 (by unfold gr;exact aY.2 (by omega)) r8 (by omega) q4⟩
 ·have x1:v1.1=(3:Int):=hk
  have dd:dn (3:Int)=false:=rfl
  have z1:((3:Int) != 0)=true:=rfl
  have n3:((3:Int)==3)=true:=rfl
  have hst:bA (v4.1.1,(0:Int),v4.1.2.2.1,v4.1.2.2.2.1,(P:Int),())=true:=by
   unfold bA at q4
   simp only[Bool.and_eq_true]at q4
   obtain⟨⟨⟨⟨y1,y2⟩,y3⟩,y4⟩,y5⟩:=q4
   have z5:aP (P:Int) 0 4294967295=true:=aY.2 (by omega)
   have z2:aP (0:Int) 0 15=true:=rfl
   unfold bA
   simp only[y1,z2,y3,y4,z5,Bool.and_self]
  simp only[e1,e2,x1,z1,ui,dd,e4,n3,e12,hc,ZT,if_false,wk]
  refine⟨_,rfl,g12,Nat.zero_le _,CT rfl rfl rfl (fun v hv=>by cases hv) (Nat.zero_le _) ?_⟩
  show(bA (v4.1.1,(0:Int),v4.1.2.2.1,v4.1.2.2.2.1,(P:Int),())&&(((0:Int)==0)&&(uh (P:Int)&&((0:Int)==0))))=true
  rw[hst,hP,Ys (by omega)]
  rfl
theorem BQ:∀(k:Nat) (s:ah.T) (d:List Int),aQ s→d.length+k≤1000→∃(s':ah.T) (d':List Int),ac ga (s,d,(k:Int),())=some (.inl (s',d',()))∧aQ s'∧d'.length≤1000
 |0,s,d,hs,hl=>by
  refine⟨s,d, ?_,hs,by omega⟩
  rw[ag]
  simp only[ga,WC]
 |k+1,s,d,hs,hl=>by
  obtain⟨y,hy,hd,hg⟩:=az (n:=256) hs
  have hy:aa ((s.1,s.2.1,s.2.2.1,()),(256:Int),())=some y:=hy
  obtain⟨s',d',h1,h2,h3⟩:=BQ k (y.2.1.1,y.2.1.2.1,y.2.1.2.2.1,()) (d++ [y.1]) hg (by simp;omega)
  refine⟨s',d', ?_,h2,h3⟩
  rw[ag]
  simp only[ga,WB,hy,WA (show k≤1000000 by omega)]
  rw[aA (by simp;omega)]
  exact h1
theorem Yt {s:ah.T}(n:Nat)(hn:n≤500)(hs:aQ s):∃y,kO (s,(n:Int),())=some y∧(aQ (y.2.1.1,y.2.1.2.1,y.2.1.2.2.1,())∧y.1.length≤2000):=by
 have wn:IntKind.i64.wrap ((n:Int)+1)=(n:Int)+1:=by rw[wrap_i64]<;>omega
 obtain⟨v1,e1,d1,g1⟩:=az (n:=(n:Int)+1) hs
 have e1:aa ((s.1,s.2.1,s.2.2.1,()),(n:Int)+1,())=some v1:=e1
 obtain⟨a,ha,ha2⟩:=dC d1 (by omega)
 obtain⟨s3,t3,e3,g3,l3⟩:=BQ a (v1.2.1.1,v1.2.1.2.1,v1.2.1.2.2.1,()) [] g1 (by simp;omega)
 obtain⟨v5,e5,d5,g5⟩:=az (n:=40) g3
 have e5:aa ((s3.1,s3.2.1,s3.2.2.1,()),(40:Int),())=some v5:=e5
 obtain⟨v6,e6,d6,g6⟩:=az (n:=2) g5
 obtain⟨w,w1,w2,_⟩:=pick [(256:Int),(-1:Int)] d6 (by simp) (by simp)
 obtain⟨b,hb,hb2⟩:=dC d6 (by omega)
 have wb:IntKind.i64.wrap ((1024:Int)+(b:Int))=(1024:Int)+(b:Int):=by rw[wrap_i64]<;>omega
 have hr:∀ {R:Type} (q:Option R),aI (t3.length+ [w].length) q=q:=fun q=>aA (by simp;omega)
 have hr2:∀ {R:Type} (q:Option R),aI (((1024:Int)+(b:Int)).toNat) q=q:=fun q=>aA (by omega)
 have hc:((0:Int)≤(1024:Int)+(b:Int)∧(1024:Int)+(b:Int)≤(1024:Int)+(b:Int))=True:=eq_true ⟨by omega,by omega⟩
 rw[hb]at w1 w2
 unfold kO
 simp only[wn,e1,ha,e3,e5,e6,hb,w1,w2,ab,hr,wb,hc,if_true,hr2]
 split
 ·exact⟨_,rfl,g6,by simp;omega⟩
 ·split
  ·exact⟨_,rfl,g6,by simp;omega⟩
  ·exact⟨_,rfl,g5,by show t3.length≤2000;omega⟩
theorem PE {s:ah.T}(hs:aQ s):∃y,jy (s,())=some y∧(aQ (y.2.1.1,y.2.1.2.1,y.2.1.2.2.1,())∧y.1.2.2.2.1.length≤2000):=by
 obtain⟨v1,e1,g1,l1,_⟩:=ac6 hs
 have e1:tN ((s.1,s.2.1,s.2.2.1,()),())=some v1:=e1
 obtain⟨v2,e2,d2,g2⟩:=az (n:=30) g1
 obtain⟨v3,e3,d3,g3⟩:=az (n:=6) g2
 obtain⟨v4,e4,d4,g4⟩:=az (n:=3) g2
 obtain⟨w,w1,w2,_⟩:=pick [(-1:Int),(1:Int),(8:Int)] d4 (by simp) (by simp)
 obtain⟨v7,e7,g7⟩:=Ve g2
 obtain⟨v8,e8,g8,l8⟩:=Yt 3 (by omega) g2
 have e8:kO ((v2.2.1.1,v2.2.1.2.1,v2.2.1.2.2.1,()),(3:Int),())=some v8:=e8
 obtain⟨v9,e9,d9,g9⟩:=az (n:=2) g2
 obtain⟨b,hb,hb2⟩:=dC d9 (by omega)
 have wb:IntKind.i64.wrap ((32:Int)+(b:Int))=(32:Int)+(b:Int):=by rw[wrap_i64]<;>omega
 have hr2:∀ {R:Type} (q:Option R),aI (((32:Int)+(b:Int)).toNat) q=q:=fun q=>aA (by omega)
 have hc:((0:Int)≤(32:Int)+(b:Int)∧(32:Int)+(b:Int)≤(32:Int)+(b:Int))=True:=eq_true ⟨by omega,by omega⟩
 have hrep:(List.replicate ((32:Int)+(b:Int)).toNat (0:Int)).length≤2000:=by rw[List.length_replicate];omega
 unfold jy
 simp only[e1,e2,e3,e4,w1,w2,ab,e7,e8,e9,hb,wb,hc,if_true,hr2]
 repeat' first
  |exact⟨_,rfl,by assumption,by assumption⟩
  |split
theorem ac7(m:an.T)(st:ai.T)(hz:fH m):tc (m,st,())=some ((cu m&&bb m st),()):=by
 have hM:=MH m hz
 have hM:jx ((m.1,m.2.1,m.2.2.1,m.2.2.2.1,()),())=_:=hM
 unfold tc
 simp only[hM]
 cases h:cu m with
 |false=>rfl
 |true=>
  have hB:=Wt m st h
  have hB:ir ((m.1,m.2.1,m.2.2.1,m.2.2.2.1,()),(st.1,st.2.1,st.2.2.1,st.2.2.2.1,st.2.2.2.2.1,()),())=_:=hB
  simp only[hB,Bool.true_and]
theorem Vh {m:an.T}{st:ai.T}(h:cu m=true)(hb:bb m st=true)(d:Nat)(hd:d&&& cS m.2.1=d)(hd2:d≤4294967295):bb m (st.1,st.2.1,st.2.2.1,st.2.2.2.1,(d:Int),())=true:=by
 obtain⟨a,ha,ea,b0,b1,c0,c1,hr,hs⟩:=abm h hb
 have hst:=GS hb
 unfold bA at hst
 simp only[Bool.and_eq_true]at hst
 obtain⟨⟨⟨⟨q1,q2⟩,q3⟩,q4⟩,q5⟩:=hst
 refine ac5 a d ha ?_ ea b1 c1 rfl hd
 unfold bA
 simp only[q1,q2,q3,q4,aY.2 (show(0:Int)≤(d:Int)∧(d:Int)≤4294967295 from⟨by omega,by omega⟩),Bool.and_self]
theorem Yu(z m:an.T)(t st:ai.T)(f0:aB.T)(a b:Int)(c:ai.T):∀(k i:Nat) (s:ah.T) (d:List Int),i+k=d.length→d.length≤1000→aQ s→
  ∃(s':ah.T) (d':List Int),ac aW (s,z,t,f0,m,st,(a,b,c,d,()),(i:Int),())=some (.inl (s',z,t,f0,m,st,(a,b,c,d',()),()))∧aQ s'∧d'.length=d.length
 |0,i,s,d,hi,hl,hs=>by
  have hi:i=d.length:=by omega
  refine⟨s,d, ?_,hs,rfl⟩
  rw[ag,hi]
  simp only[aW,bp]
 |k+1,i,s,d,hi,hl,hs=>by
  have hlt:i<d.length:=by omega
  obtain⟨y,hy,hd,hg⟩:=az (n:=256) hs
  obtain⟨s',d',h1,h2,h3⟩:=Yu z m t st f0 a b c k (i+1) y.2.1 (d.set i y.1) (by rw[List.length_set];omega) (by rw[List.length_set];omega) hg
  refine⟨s',d', ?_,h2,by rw[h3,List.length_set]⟩
  rw[ag]
  simp only[aW,a7 hlt,lY,hy,am hlt,ab,Int.toNat_natCast,List.getElem?_eq_getElem hlt,aG hlt (show d.length≤1099511627776 by omega)]
  exact h1
theorem MU {m:an.T}{st:ai.T}(h:cu m=true)(hb:bb m st=true){s:ah.T}(hs:aQ s):∃v10 v11 v12 F s4 f' v19 v20,aa (s,(256:Int),())=some v10∧aa (v10.2.1,(8:Int),())=some v11∧aa (v11.2.1,(3:Int),())=some v12∧
  b7 (m,st,v10.1,IntKind.i64.wrap (v11.1*(IntKind.i64.wrap (Int.tdiv v12.1 (2:Int)))),())=some (F,())∧ac aW (v12.2.1,((0:Int),[],[],[],()),((0:Int),(0:Int),(0:Int),(0:Int),(0:Int),()),((0:Int),(0:Int),((0:Int),(0:Int),(0:Int),(0:Int),(0:Int),()),[],()),m,st,F,(0:Int),())=some (.inl (s4,((0:Int),[],[],[],()),((0:Int),(0:Int),(0:Int),(0:Int),(0:Int),()),((0:Int),(0:Int),((0:Int),(0:Int),(0:Int),(0:Int),(0:Int),()),[],()),m,st,f',()))∧
  aa (s4,(24:Int),())=some v19∧ip (v19.2.1,())=some v20∧aQ v19.2.1∧aQ v20.2.1∧f'.2.2.2.1.length≤2000:=by
 obtain⟨v10,e10,d10,g10⟩:=az (n:=256) hs
 obtain⟨v11,e11,d11,g11⟩:=az (n:=8) g10
 obtain⟨v12,e12,d12,g12⟩:=az (n:=3) g11
 have eF:=ZM m st v10.1 (IntKind.i64.wrap (v11.1*(IntKind.i64.wrap (Int.tdiv v12.1 (2:Int))))) h hb
 have hF:=Wy h hb v10.1 (IntKind.i64.wrap (v11.1*(IntKind.i64.wrap (Int.tdiv v12.1 (2:Int)))))
 obtain⟨a,b,c,d,⟨⟩⟩:aB.T:=rN m st v10.1 (IntKind.i64.wrap (v11.1*(IntKind.i64.wrap (Int.tdiv v12.1 (2:Int)))))
 obtain⟨s4,d',e4,g4,l4⟩:=Yu ((0:Int),[],[],[],()) m ((0:Int),(0:Int),(0:Int),(0:Int),(0:Int),()) st ((0:Int),(0:Int),((0:Int),(0:Int),(0:Int),(0:Int),(0:Int),()),[],()) (rN m st v10.1 (IntKind.i64.wrap (v11.1*(IntKind.i64.wrap (Int.tdiv v12.1 (2:Int)))))).1 (rN m st v10.1 (IntKind.i64.wrap (v11.1*(IntKind.i64.wrap (Int.tdiv v12.1 (2:Int)))))).2.1 (rN m st v10.1 (IntKind.i64.wrap (v11.1*(IntKind.i64.wrap (Int.tdiv v12.1 (2:Int)))))).2.2.1 (rN m st v10.1 (IntKind.i64.wrap (v11.1*(IntKind.i64.wrap (Int.tdiv v12.1 (2:Int)))))).2.2.2.1.length 0 v12.2.1 (rN m st v10.1 (IntKind.i64.wrap (v11.1*(IntKind.i64.wrap (Int.tdiv v12.1 (2:Int)))))).2.2.2.1 (by omega) (by omega) g12
 obtain⟨v19,e19,d19,g19⟩:=az (n:=24) g4
 obtain⟨v20,e20,g20,_⟩:=Yr g19
 exact⟨v10,v11,v12,_,s4,_,v19,v20,e10,e11,e12,eF,e4,e19,e20,g19,g20,by show d'.length≤2000;omega⟩
theorem abq {k A:Nat}(h:A.testBit k=true):2^k&&& A=2^k:=by
 refine Nat.eq_of_testBit_eq fun i=> ?_
 rw[Nat.testBit_and,Nat.testBit_two_pow]
 by_cases hi:k=i
 ·subst hi
  simp[h]
 ·simp[hi]
theorem ac8 {s:ah.T}(hs:aQ s):∃y,tQ (s,())=some y∧(aQ y.2.2.2.1∧BP y.1∧y.2.2.1.2.2.2.1.length≤2000):=by
 obtain⟨v1,e1,g1,hS⟩:=ac4 hs
 have g1:aQ v1.2.2.1:=g1
 have hz:=yk hS
 have e2:=ac7 v1.1 v1.2.1 hz
 obtain⟨v3,e3,g3,l3⟩:=PE g1
 have g3:aQ v3.2.1:=g3
 unfold tQ xm b8 cl bL
 simp only[e1,e2,cW,lY,e3]
 rcases Bool.eq_false_or_eq_true (cu v1.1&&bb v1.1 v1.2.1)with hb|hb
 rotate_left
 ·simp only[hb,Bool.not_false]
  exact⟨_,rfl,g3,hS,l3⟩
 ·have hb':=hb
  rw[Bool.and_eq_true]at hb'
  obtain⟨h1,h2⟩:=hb'
  obtain⟨v4,e4,d4,g4⟩:=az (n:=16) g1
  have g4:aQ v4.2.1:=g4
  obtain⟨v5,e5,g5,l5⟩:=PE g4
  have g5:aQ v5.2.1:=g5
  obtain⟨hd,_,_⟩:=lW v1.1 v1.2.1 h1 h2
  obtain⟨v7,e7,d7,g7⟩:=az (n:=6) g4
  have g7:aQ v7.2.1:=g7
  obtain⟨_,hN,_⟩:=kk h1
  have hlen:1≤v1.1.2.1.length:=by
   unfold ge at hN
   rw[Bool.and_eq_true]at hN
   have:=(aY.1 hN.1).1
   omega
  have hn0:aq v1.1.2.1 (0:Int)=some v1.1.2.1[0]:=am hlen
  obtain⟨_,hid⟩:=CK hN
  obtain⟨k,hk,ek⟩:=hid _ (List.getElem_mem hlen)
  obtain⟨P,hP⟩:∃P:Nat,P=2^k:=⟨_,rfl⟩
  have hP2:P≤2147483648:=by rw[hP];exact Nat.pow_le_pow_right (by decide) (show k≤31 by omega)
  have wk:IntKind.i64.wrap ((1:Int)*(2:Int)^min (IntKind.u64.wrap (v1.1.2.1[0].1)).toNat IntKind.i64.bits)=(P:Int):=by
   have e:(v1.1.2.1[0].1:Int)=(k:Int):=ek
   have:(2:Int)^k=(P:Int):=by rw[hP,Int.natCast_pow];rfl
   rw[e,GL (by omega),pF (by omega),Int.one_mul,this,wrap_i64]<;>omega
  have bz:bb v1.1 (v1.2.1.1,v1.2.1.2.1,v1.2.1.2.2.1,v1.2.1.2.2.2.1,(0:Int),())=true:=Vh h1 h2 0 (by simp) (by omega)
  obtain⟨a10,a11,a12,aF,a4,af,a19,a20,k1,k2,k3,k4,k5,k6,k7,k8,k9,k10⟩:=MU h1 bz g7
  obtain⟨c10,c11,c12,cF,c4,cf,c19,c20,n1,n2,n3,n4,n5,n6,n7,n8,n9,n10⟩:=MU h1 h2 g7
  obtain⟨r10,r11,r12,rF,r4,rf,r19,r20,m1,m2,m3,m4,m5,m6,m7,m8,m9,m10⟩:=MU h1 h2 g4
  simp only[hb,Bool.not_true,e4,e5,hd,e7,hn0,ab,ZT,if_false,wk]
  split
  ·exact⟨_,rfl,g5,hS,l5⟩
  ·split
   ·split
    ·cases hp:v1.1.2.1[0].2.2.2.1 with
     |true=>
      simp only[k1,k2,k3,k4,k5,k6]
      split
      ·simp only[k7]
       exact⟨_,rfl,k9,hS,k10⟩
      ·exact⟨_,rfl,k8,hS,k10⟩
     |false=>
      have bk:bb v1.1 (v1.2.1.1,v1.2.1.2.1,v1.2.1.2.2.1,v1.2.1.2.2.2.1,(P:Int),())=true:=Vh h1 h2 P (by rw[hP];exact abq (OQ _ 0 k (.inr ⟨_,List.getElem_mem hlen,hp,by rw[ek,Int.toNat_natCast]⟩))) (by omega)
      obtain⟨b10,b11,b12,bF,b4,bf,b19,b20,j1,j2,j3,j4,j5,j6,j7,j8,j9,j10⟩:=MU h1 bk g7
      simp only[j1,j2,j3,j4,j5,j6]
      split
      ·simp only[j7]
       exact⟨_,rfl,j9,hS,j10⟩
      ·exact⟨_,rfl,j8,hS,j10⟩
    ·simp only[n1,n2,n3,n4,n5,n6]
     split
     ·simp only[n7]
      exact⟨_,rfl,n9,hS,n10⟩
     ·exact⟨_,rfl,n8,hS,n10⟩
   ·simp only[m1,m2,m3,m4,m5,m6]
    split
    ·simp only[m7]
     exact⟨_,rfl,m9,hS,m10⟩
    ·exact⟨_,rfl,m8,hS,m10⟩
end Go.Proofs.YtkgcbbkodalfmaaGreatDoor
namespace Go.Proofs.YtkgcbbkodalfmaaGreatDoor
open Go.RowKit
set_option linter.unusedVariables false
set_option linter.unusedSimpArgs false
theorem Yv(x):∃y,lT x=some y∧True:=by
 unfold lT
 repeat' first
  |exact⟨_,rfl,trivial⟩
  |split
theorem Tb {s:ah.T}(n:Int)(hs:aQ s):∃y,td (s,n,())=some y∧aQ (y.2.1.1,y.2.1.2.1,y.2.1.2.2.1,()):=by
 have hs:=dB hs
 unfold td
 simp only
 repeat' first
  |exact⟨_,rfl,by assumption⟩
  |(split;(rename_i h;exact absurd h (ce (Yv _))))
  |(split;(rename_i h;exact absurd h (ce (az (by assumption))));rename_i v h;obtain⟨hd,hg⟩:=bo (az (by assumption)) h)
  |split
theorem ac9 {s:ah.T}(n:Int)(hs:aQ s):∃y,tT (s,n,())=some y∧aQ (y.2.1.1,y.2.1.2.1,y.2.1.2.2.1,()):=by
 have hs:=dB hs
 unfold tT
 simp only[ab]
 split;(rename_i h;exact absurd h (ce (Tb _ (by assumption))))
 rename_i v1 h1
 have hg1:=bo (Tb _ (by assumption)) h1
 repeat' first
  |exact⟨_,rfl,by assumption⟩
  |(split;(rename_i h;exact absurd h (ce (az (by assumption))));rename_i v h;obtain⟨hd,hg⟩:=bo (az (by assumption)) h)
  |(first|(split;rotate_left;(rename_i h;exact absurd h (lX (by assumption) (by simp) (by first|assumption|simp))))|(split;(rename_i h;exact absurd h (sV (by assumption) (by simp) (by first|assumption|simp)));rename_i v h))
  |split
theorem IW(at_:Int):∀(k:Nat) (s:ah.T) (l:List av.T),aQ s→l.length+k≤10→∃s' l',ac iU (s,at_,l,(k:Int),())=some (.inl (s',l',()))∧aQ s'∧l'.length≤10
 |0,s,l,hs,hl=>by
  refine⟨s,l, ?_,hs,by omega⟩
  rw[ag]
  simp only[iU,WC]
 |k+1,s,l,hs,hl=>by
  obtain⟨y,hy,hg⟩:=ac9 at_ hs
  have hy:tT ((s.1,s.2.1,s.2.2.1,()),at_,())=some y:=hy
  have hr:∀ {R:Type} (u:av.T) (q:Option R),aI (l.length+ [u].length) q=q:=fun u q=>aA (by simp;omega)
  have hf:=S3 (y.1,())
  have hf:mF ((y.1.1,y.1.2.1,y.1.2.2.1,y.1.2.2.2.1,()),())=_:=hf
  obtain⟨z,hz,hd,hg2⟩:=az (n:=4) hg
  have key:∃x':ah.T×List av.T,iU (s,at_,l,((k+1:Nat):Int),())=some (.inl (x'.1,at_,x'.2,(k:Int),()))∧aQ x'.1∧x'.2.length+k≤10:=by
   simp only[iU,WB,hy,hf,hr,hz,WA (show k≤1000000 by omega)]
   repeat' first
    |exact⟨(_,l++ [_]),rfl,by assumption,by simp;omega⟩
    |exact⟨(_,l),rfl,by assumption,by show l.length+k≤10;omega⟩
    |split
  obtain⟨x',h1,h2,h3⟩:=key
  obtain⟨s',l',h4,h5,h6⟩:=IW at_ k x'.1 x'.2 h2 h3
  refine⟨s',l', ?_,h5,h6⟩
  rw[ag,h1]
  exact h4
theorem IX:∀(k:Nat) (s:ah.T) (l:List av.T),aQ s→l.length+k=31→∃s' l',ac iV (s,l,())=some (.inl (s',l',()))∧aQ s'∧l'.length≤31
 |0,s,l,hs,hl=>by
  obtain⟨z,hz,hd,hg⟩:=az (n:=2) hs
  have hz:aa ((s.1,s.2.1,s.2.2.1,()),(2:Int),())=some z:=hz
  obtain⟨a,ha,ha2⟩:=dC hd (by omega)
  have e:IntKind.i64.wrap ((30:Int)+(a:Int))=(30:Int)+(a:Int):=wrap_i64 (by omega) (by omega)
  refine⟨z.2.1,l, ?_,hg,by omega⟩
  rw[ag]
  simp only[iV,hz,ha,e,z8 (show ¬(l.length:Int)<(30:Int)+(a:Int) by omega)]
 |k+1,s,l,hs,hl=>by
  obtain⟨z,hz,hd,hg⟩:=az (n:=2) hs
  have hz:aa ((s.1,s.2.1,s.2.2.1,()),(2:Int),())=some z:=hz
  obtain⟨a,ha,ha2⟩:=dC hd (by omega)
  have e:IntKind.i64.wrap ((30:Int)+(a:Int))=(30:Int)+(a:Int):=wrap_i64 (by omega) (by omega)
  by_cases hc:(l.length:Int)<(30:Int)+(a:Int)
  ·obtain⟨s',l',h1,h2,h3⟩:=IX k (z.2.1.1,z.2.1.2.1,z.2.1.2.2.1,()) (l++ [((1:Int),(3:Int),(0:Int),(0:Int),())]) hg (by simp;omega)
   refine⟨s',l', ?_,h2,h3⟩
   rw[ag]
   simp only[iV,hz,ha,e,ve hc]
   rw[aA (by simp;omega)]
   exact h1
  ·refine⟨z.2.1,l, ?_,hg,by omega⟩
   rw[ag]
   simp only[iV,hz,ha,e,z8 hc]
theorem Tc {s:ah.T}(n:Int)(hs:aQ s):∃y,kb (s,n,())=some y∧(aQ (y.2.1.1,y.2.1.2.1,y.2.1.2.2.1,())∧y.1.length≤100):=by
 obtain⟨v1,e1,hd1,hg1⟩:=az (n:=5) hs
 have e1:aa ((s.1,s.2.1,s.2.2.1,()),(5:Int),())=some v1:=e1
 obtain⟨a,ha,ha2⟩:=dC hd1 (by omega)
 obtain⟨s2,l2,e2,hg2,hl2⟩:=IW n a (v1.2.1.1,v1.2.1.2.1,v1.2.1.2.2.1,()) [] hg1 (by simp;omega)
 obtain⟨v3,e3,hd3,hg3⟩:=az (n:=40) hg2
 have e3:aa ((s2.1,s2.2.1,s2.2.2.1,()),(40:Int),())=some v3:=e3
 obtain⟨s4,l4,e4,hg4,hl4⟩:=IX (31-l2.length) (v3.2.1.1,v3.2.1.2.1,v3.2.1.2.2.1,()) l2 hg3 (by omega)
 unfold kb
 simp only[e1,ha,e2,e3]
 split
 ·simp only[e4]
  exact⟨_,rfl,hg4,by show l4.length≤100;omega⟩
 ·exact⟨_,rfl,hg3,by show l2.length≤100;omega⟩
end Go.Proofs.YtkgcbbkodalfmaaGreatDoor
namespace Go.Proofs.YtkgcbbkodalfmaaGreatDoor
open Go.RowKit
set_option linter.unusedVariables false
set_option linter.unusedSimpArgs false
theorem IY(l:List Int)(f:av.T)(a:Nat)(ha:f.2.1=(a:Int))(h3:a+3≤l.length)(hl:l.length≤8192):∀(k i:Nat),i+k=a+3→
  ∃o,ac eB (l,f,(i:Int),())=some o∧(o= .inl (l,f,())∨o= .inr (false,()))
 |0,i,hi=>by
  have e:IntKind.i64.wrap (f.2.1+(2:Int))=((a+2:Nat):Int):=by rw[ha,wrap_i64]<;>omega
  refine⟨.inl (l,f,()), ?_,.inl rfl⟩
  rw[ag]
  simp only[eB,e,decide_eq_false (show ¬(i:Int)≤((a+2:Nat):Int) by omega)]
 |k+1,i,hi=>by
  have e:IntKind.i64.wrap (f.2.1+(2:Int))=((a+2:Nat):Int):=by rw[ha,wrap_i64]<;>omega
  have hli:i<l.length:=by omega
  have hla:a<l.length:=by omega
  have i2:aq l f.2.1=some l[a]:=by rw[ha];exact am hla
  by_cases hq:(l[i] != l[a])=true
  ·refine⟨.inr (false,()), ?_,.inr rfl⟩
   rw[ag]
   simp only[eB,e,decide_eq_true (show(i:Int)≤((a+2:Nat):Int) by omega),am hli,i2,ab,hq]
  ·have hq:(l[i] != l[a])=false:=by simpa using hq
   obtain⟨o,h1,h2⟩:=IY l f a ha h3 hl k (i+1) (by omega)
   refine⟨o, ?_,h2⟩
   rw[ag]
   simp only[eB,e,decide_eq_true (show(i:Int)≤((a+2:Nat):Int) by omega),am hli,i2,ab,hq,aG hli (show l.length≤1099511627776 by omega)]
   exact h1
theorem PF(l:List Int)(hl:l.length≤8192)(k a c v:Int):∃b:Bool,oC (l,(k,a,c,v,()),())=some (b,()):=by
 have hw:IntKind.i64.wrap ((l.length:Int)-3)=(l.length:Int)-3:=by rw[wrap_i64]<;>omega
 unfold oC
 simp only[jS,hw]
 by_cases hin:aP a 2 ((l.length:Int)-3)=true
 ·obtain⟨h0,h1⟩:=aY.1 hin
  obtain⟨n,rfl⟩:∃n:Nat,a=(n:Int):=⟨a.toNat,by omega⟩
  have hw2:IntKind.i64.wrap ((n:Int)-2)=((n-2:Nat):Int):=by rw[wrap_i64]<;>omega
  obtain⟨o,e1,e2⟩:=IY l (k,(n:Int),c,v,()) n rfl (by omega) hl 5 (n-2) (by omega)
  have e1:ac eB (l,(k,(n:Int),c,v,()),((n-2:Nat):Int),())=_:=e1
  have hln:n<l.length:=by omega
  simp only[hin,Bool.not_true,hw2,e1]
  rcases e2 with rfl|rfl
  ·simp only[am hln,ab]
   repeat' first
    |exact⟨_,rfl⟩
    |split
  ·simp only
   repeat' first
    |exact⟨_,rfl⟩
    |split
 ·have hin:aP a 2 ((l.length:Int)-3)=false:=by simpa using hin
  simp only[hin,Bool.not_false]
  repeat' first
   |exact⟨_,rfl⟩
   |split
theorem MV(n:Int):∀(k:Nat) (s:ah.T) (out:List av.T) (a:Int),out.length+k=25→aQ s→0≤a→a+60*(k:Int)≤100000→
  ∃(s':ah.T) (out':List av.T),ac cY (s,out,n,a,())=some (.inl (s',out',()))∧aQ s'∧out'.length≤25
 |0,s,out,a,hk,hs,h0,h1=>by
  refine⟨s,out, ?_,hs,by omega⟩
  rw[ag]
  simp only[cY,decide_eq_false (show ¬(out.length:Int)<25 by omega)]
  by_cases hn:a<n
  ·simp only[decide_eq_true hn]
  ·simp only[decide_eq_false hn]
 |k+1,s,out,a,hk,hs,h0,h1=>by
  by_cases hn:a<n
  ·obtain⟨y,hy,hd,hg⟩:=az (n:=40) hs
   have hy:aa ((s.1,s.2.1,s.2.2.1,()),(40:Int),())=some y:=hy
   have hq:=fX hd (by omega)
   have w1:IntKind.i64.wrap (a+6)=a+6:=by rw[wrap_i64]<;>omega
   have w2:IntKind.i64.wrap (a+6+y.1)=a+6+y.1:=wrap_i64 (by omega) (by omega)
   obtain⟨s',out',e1,e2,e3⟩:=MV n k (y.2.1.1,y.2.1.2.1,y.2.1.2.2.1,()) (out++ [((1:Int),a,(0:Int),(0:Int),())]) (a+6+y.1) (by simp;omega) hg (by omega) (by omega)
   refine⟨s',out', ?_,e2,e3⟩
   rw[ag]
   simp only[cY,decide_eq_true hn,decide_eq_true (show(out.length:Int)<25 by omega),hy,w1,w2]
   rw[aA (by simp;omega)]
   exact e1
  ·refine⟨s,out, ?_,hs,by omega⟩
   rw[ag]
   simp only[cY,decide_eq_false hn]
theorem wG {k a v:Int}(hk:k=3∨k=4)(h0:0≤a)(h1:a≤8192)(hv:k=4→v=0∨v=1)(hv3:k=3→v=0):dK (k,a,(1:Int),v,())=true:=by
 have ha:aP a 0 8192=true:=aY.2 ⟨h0,h1⟩
 rcases hk with rfl|rfl
 ·have:=hv3 rfl
  subst this
  show(aP (3:Int) 1 6&&(aP a 0 8192&&((if vd (3:Int)then aP (1:Int) 1 8192 else(1:Int)==(0:Int))&&(if yh (3:Int)then aP (0:Int) 0 1 else(0:Int)==(0:Int)))))=true
  rw[ha]
  rfl
 ·rcases hv rfl with rfl|rfl
  ·show(aP (4:Int) 1 6&&(aP a 0 8192&&((if vd (4:Int)then aP (1:Int) 1 8192 else(1:Int)==(0:Int))&&(if yh (4:Int)then aP (0:Int) 0 1 else(0:Int)==(0:Int)))))=true
   rw[ha]
   rfl
  ·show(aP (4:Int) 1 6&&(aP a 0 8192&&((if vd (4:Int)then aP (1:Int) 1 8192 else(1:Int)==(0:Int))&&(if yh (4:Int)then aP (1:Int) 0 1 else(1:Int)==(0:Int)))))=true
   rw[ha]
   rfl
theorem Yw {n fl nw a a' M:Nat}(h:n<10)(hM:(10-n)*20000+(nw+1-a)≤M+1)(hf:fl≤8192):(10-(n+1))*20000+(fl+1-a')≤M:=by
 obtain⟨q,hq⟩:∃q,10-n=q+1:=⟨9-n,by omega⟩
 have hq2:10-(n+1)=q:=by omega
 rw[hq,Nat.succ_mul]at hM
 rw[hq2]
 generalize q*20000=Q at hM ⊢
 omega
theorem WG:∀(M:Nat) (s:ah.T) (out:List av.T) (a:Nat) (now:List Int),(10-out.length)*20000+(now.length+1-a)≤M→out.length≤10→bR now=true→a≤20000→aQ s→
  ∃(s':ah.T) (out':List av.T),ac b9 (s,out,(a:Int),now,())=some (.inl (s',out',()))∧aQ s'∧out'.length≤10:=by
 intro M
 induction M with
 |zero=>
  intro s out a now hM ho hb ha hs
  have hl:=eu hb
  have w3:IntKind.i64.wrap ((a:Int)+3)=(a:Int)+3:=by rw[wrap_i64]<;>omega
  refine⟨s,out, ?_,hs,ho⟩
  rw[ag]
  simp only[b9,w3,decide_eq_false (show ¬(a:Int)+3<(now.length:Int) by omega)]
 |succ M ih=>
  intro s out a now hM ho hb ha hs
  have hl:=eu hb
  have w3:IntKind.i64.wrap ((a:Int)+3)=(a:Int)+3:=by rw[wrap_i64]<;>omega
  by_cases h3:(a:Int)+3<(now.length:Int)
  ·by_cases ho10:(out.length:Int)<10
   ·have hla:a<now.length:=by omega
    obtain⟨v24,e24,d24,g24⟩:=az (n:=2) hs
    have e24:aa ((s.1,s.2.1,s.2.2.1,()),(2:Int),())=some v24:=e24
    obtain⟨b,hb24,hb2⟩:=dC d24 (by omega)
    have wk:IntKind.i64.wrap ((3:Int)+(b:Int))=(3:Int)+(b:Int):=by rw[wrap_i64]<;>omega
    obtain⟨v27,e27,d27,g27⟩:=az (n:=24) g24
    have wa1:IntKind.i64.wrap ((a:Int)+1)=((a+1:Nat):Int):=by rw[wrap_i64]<;>omega
    have step:∀(v:Int) (sq:ah.T),aQ sq→dK ((3:Int)+(b:Int),(a:Int),(1:Int),v,())=true→∃v29 v30 s' out',aa (sq,(60:Int),())=some v29∧aa ((v29.2.1.1,v29.2.1.2.1,v29.2.1.2.2.1,()),(30:Int),())=some v30∧gn (now,((3:Int)+(b:Int),(a:Int),(1:Int),v,()),())=some (co now ((3:Int)+(b:Int),(a:Int),(1:Int),v,()),())∧
      ac b9 ((v30.2.1.1,v30.2.1.2.1,v30.2.1.2.2.1,()),out++ [((3:Int)+(b:Int),(a:Int),(1:Int),v,())],IntKind.i64.wrap ((IntKind.i64.wrap ((IntKind.i64.wrap ((a:Int)+(160:Int)))+v29.1))-(IntKind.i64.wrap ((IntKind.i64.wrap (Int.tdiv v30.1 (29:Int)))*(9:Int)))),co now ((3:Int)+(b:Int),(a:Int),(1:Int),v,()),())=some (.inl (s',out',()))∧aQ s'∧out'.length≤10:=fun v sq hsq hf=>by
     obtain⟨v29,e29,d29,g29⟩:=az (n:=60) hsq
     obtain⟨v30,e30,d30,g30⟩:=az (n:=30) g29
     have q29:=fX d29 (by omega)
     obtain⟨c,hc,hc2⟩:=dC d30 (by omega)
     have hap:=MO now hl _ hf
     have hbf:=MP hb hf
     have hfl:=eu hbf
     have t1:Int.tdiv (c:Int) 29=((c / 29:Nat):Int):=rfl
     have t2:IntKind.i64.wrap ((c / 29:Nat):Int)=((c / 29:Nat):Int):=by rw[wrap_i64]<;>omega
     have t3:IntKind.i64.wrap (((c / 29:Nat):Int)*9)=((c / 29*9:Nat):Int):=by rw[wrap_i64]<;>omega
     have t4:IntKind.i64.wrap ((a:Int)+160)=(a:Int)+160:=by rw[wrap_i64]<;>omega
     have t5:IntKind.i64.wrap ((a:Int)+160+v29.1)=(a:Int)+160+v29.1:=wrap_i64 (by omega) (by omega)
     obtain⟨p,hp⟩:∃p:Nat,v29.1=(p:Int):=⟨Int.toNat v29.1,(Int.toNat_of_nonneg q29.1).symm⟩
     rw[hp]at q29
     have t6:IntKind.i64.wrap ((a:Int)+160+(p:Int)-((c / 29*9:Nat):Int))=((a+160+p-c / 29*9:Nat):Int):=by rw[wrap_i64]<;>omega
     obtain⟨s',out',r1,r2,r3⟩:=ih (v30.2.1.1,v30.2.1.2.1,v30.2.1.2.2.1,()) (out++ [((3:Int)+(b:Int),(a:Int),(1:Int),v,())]) (a+160+p-c / 29*9) (co now ((3:Int)+(b:Int),(a:Int),(1:Int),v,())) (by rw[List.length_append,List.length_singleton];exact Yw (by omega) hM hfl) (by rw[List.length_append,List.length_singleton];omega) hbf (by omega) g30
     refine⟨v29,v30,s',out',e29,e30,hap, ?_,r2,r3⟩
     rw[t4,t5,hc,t1,t2,t3,hp,t6]
     exact r1
    have hcont:∃s' out',ac b9 ((v27.2.1.1,v27.2.1.2.1,v27.2.1.2.2.1,()),out,((a+1:Nat):Int),now,())=some (.inl (s',out',()))∧aQ s'∧out'.length≤10:=ih (v27.2.1.1,v27.2.1.2.1,v27.2.1.2.2.1,()) out (a+1) now (by omega) ho hb (by omega) g27
    have hroom:∀ {R:Type} (u:av.T) (q:Option R),aI (out.length+ [u].length) q=q:=fun u q=>aA (by simp;omega)
    have hbit:now[a]=0∨now[a]=1:=sJ hb hla
    obtain⟨sc,oc,c1,c2,c3⟩:=hcont
    rcases(show b=0∨b=1 by omega)with rfl|rfl
    ·have h34:(((3:Int)+((0:Nat):Int))==4)=false:=rfl
     obtain⟨bw,hw⟩:=PF now hl ((3:Int)+((0:Nat):Int)) (a:Int) 1 0
     obtain⟨x1,x2,x3,x4,y1,y2,y3,y4,y5,y6⟩:=step 0 (v27.2.1.1,v27.2.1.2.1,v27.2.1.2.2.1,()) g27 (wG (.inl rfl) (by omega) (by omega) (fun q=>absurd q (by decide)) (fun _=>rfl))
     obtain⟨z1,z2,z3,z4,u1,u2,u3,u4,u5,u6⟩:=step 0 (v24.2.1.1,v24.2.1.2.1,v24.2.1.2.2.1,()) g24 (wG (.inl rfl) (by omega) (by omega) (fun q=>absurd q (by decide)) (fun _=>rfl))
     rw[ag]
     simp only[b9,w3,decide_eq_true h3,decide_eq_true ho10,e24,hb24,wk,h34,hw,e27,wa1,hroom,y1,y2,y3,u1,u2,u3]
     cases bw
     ·simp only[Bool.not_false]
      by_cases h27:v27.1>0
      ·simp only[decide_eq_true h27]
       exact⟨sc,oc,c1,c2,c3⟩
      ·simp only[decide_eq_false h27]
       exact⟨x3,x4,y4,y5,y6⟩
     ·simp only[Bool.not_true]
      exact⟨z3,z4,u4,u5,u6⟩
    ·have h34:(((3:Int)+((1:Nat):Int))==4)=true:=rfl
     obtain⟨bw,hw⟩:=PF now hl ((3:Int)+((1:Nat):Int)) (a:Int) 1 now[a]
     obtain⟨x1,x2,x3,x4,y1,y2,y3,y4,y5,y6⟩:=step now[a] (v27.2.1.1,v27.2.1.2.1,v27.2.1.2.2.1,()) g27 (wG (.inr rfl) (by omega) (by omega) (fun _=>hbit) (fun q=>absurd q (by decide)))
     obtain⟨z1,z2,z3,z4,u1,u2,u3,u4,u5,u6⟩:=step now[a] (v24.2.1.1,v24.2.1.2.1,v24.2.1.2.2.1,()) g24 (wG (.inr rfl) (by omega) (by omega) (fun _=>hbit) (fun q=>absurd q (by decide)))
     rw[ag]
     simp only[b9,w3,decide_eq_true h3,decide_eq_true ho10,e24,hb24,wk,h34,am hla,ab,hw,e27,wa1,hroom,y1,y2,y3,u1,u2,u3]
     cases bw
     ·simp only[Bool.not_false]
      by_cases h27:v27.1>0
      ·simp only[decide_eq_true h27]
       exact⟨sc,oc,c1,c2,c3⟩
      ·simp only[decide_eq_false h27]
       exact⟨x3,x4,y4,y5,y6⟩
     ·simp only[Bool.not_true]
      exact⟨z3,z4,u4,u5,u6⟩
   ·refine⟨s,out, ?_,hs,ho⟩
    rw[ag]
    simp only[b9,w3,decide_eq_true h3,decide_eq_false ho10]
  ·refine⟨s,out, ?_,hs,ho⟩
   rw[ag]
   simp only[b9,w3,decide_eq_false h3]
theorem Yx {s:ah.T}(X:List Int)(hl:X.length≤8192)(hs:aQ s):∃y,iC (s,X,())=some y∧(aQ (y.2.1.1,y.2.1.2.1,y.2.1.2.2.1,())∧y.1.length≤100):=by
 have hbX:=Mv X (by omega)
 unfold iC
 simp only[hbX]
 cases hb:bR X with
 |false=>exact⟨_,rfl,dB hs,Nat.zero_le _⟩
 |true=>
  obtain⟨v2,e2,d2,g2⟩:=az (n:=5) hs
  have e2:aa ((s.1,s.2.1,s.2.2.1,()),(5:Int),())=some v2:=e2
  obtain⟨v3,e3,g3,l3⟩:=Tc (X.length:Int) g2
  obtain⟨v4,e4,d4,g4⟩:=az (n:=20) g2
  have q4:=fX d4 (by omega)
  obtain⟨s6,o6,e6,g6,l6⟩:=MV (X.length:Int) 25 (v4.2.1.1,v4.2.1.2.1,v4.2.1.2.2.1,()) [] v4.1 rfl g4 q4.1 (by omega)
  obtain⟨v8,e8,d8,g8⟩:=az (n:=12) g6
  have e8:aa ((s6.1,s6.2.1,s6.2.2.1,()),(12:Int),())=some v8:=e8
  obtain⟨v23,e23,d23,g23⟩:=az (n:=60) g2
  obtain⟨a,ha,ha2⟩:=dC d23 (by omega)
  obtain⟨s42,o42,e42,g42,l42⟩:=WG _ (v23.2.1.1,v23.2.1.2.1,v23.2.1.2.2.1,()) [] a X (Nat.le_refl _) (by simp) hb (by omega) g23
  have hl6:o6.length≤100:=by omega
  have hl42:o42.length≤100:=by omega
  have hset:∀u:av.T,(o6.set ((1:Int).toNat) u).length≤100:=fun u=>by rw[List.length_set];exact hl6
  simp only[Bool.not_true,e2,e3,e4,e6,e8,e23,ha,e42]
  have tail:∃y,(match decide ((o6.length:Int)>(1:Int))with
    |true=>match(v8.1==(0:Int))with
     |true=>ab (aq o6 (0:Int)) fun _=>match o6[(0:Int).toNat]? with
      |none=>none
      |some v10=>ab (aq o6 (1:Int)) fun _=>match o6[(1:Int).toNat]? with
       |none=>none
       |some v12=>some ((o6.set ((1:Int).toNat) (v12.1,(IntKind.i64.wrap (v10.2.1+(5:Int))),v12.2.2.1,v12.2.2.2.1,())),(v8.2.1.1,v8.2.1.2.1,v8.2.1.2.2.1,()),())
     |false=>some (o6,(v8.2.1.1,v8.2.1.2.1,v8.2.1.2.2.1,()),())
    |false=>some (o6,(s6.1,s6.2.1,s6.2.2.1,()),()))=some y∧(aQ (y.2.1.1,y.2.1.2.1,y.2.1.2.2.1,())∧y.1.length≤100):=by
   by_cases h1:(o6.length:Int)>1
   ·have p0:0<o6.length:=by omega
    have p1:1<o6.length:=by omega
    have i0:aq o6 (0:Int)=some o6[0]:=am p0
    have i1:aq o6 (1:Int)=some o6[1]:=am p1
    have j0:o6[(0:Int).toNat]? =some o6[0]:=List.getElem?_eq_getElem p0
    have j1:o6[(1:Int).toNat]? =some o6[1]:=List.getElem?_eq_getElem p1
    simp only[decide_eq_true h1,i0,i1,j0,j1,ab]
    split
    ·exact⟨_,rfl,g8,hset _⟩
    ·exact⟨_,rfl,g8,hl6⟩
   ·simp only[decide_eq_false h1]
    exact⟨_,rfl,dB g6,hl6⟩
  split
  ·exact⟨_,rfl,g3,l3⟩
  ·split
   ·exact tail
   ·split
    ·exact tail
    ·exact⟨_,rfl,dB g42,hl42⟩
end Go.Proofs.YtkgcbbkodalfmaaGreatDoor
